/- What the proof leans on. Conditions: none. -/
import Derived.Test.YtpknphecmahkaaaZSB1
set_option linter.all false
set_option linter.unusedSimpArgs false
set_option linter.unusedVariables false
set_option linter.unusedSectionVars false
namespace Go.Proofs.Ytpknphecmahkaaa.Tr
open Go Go.RowKit
def ok64 (z : Int) : Option Int := if -9223372036854775808 ≤ z ∧ z ≤ 9223372036854775807 then some z else none
def addI (a b : Int) : Option Int := ok64 (a + b)
def subI (a b : Int) : Option Int := ok64 (a - b)
def mulI (a b : Int) : Option Int := ok64 (a * b)
def quoI (a b : Int) : Option Int := if 0 ≤ a ∧ 0 < b then some (a / b) else none
def remI (a b : Int) : Option Int := if 0 ≤ a ∧ 0 < b then some (a % b) else none
def cnt (s : Int) : Option Nat := if 0 ≤ s then some s.toNat else none
def cut (n : Nat) (l r : Int) : Option Unit := if 0 ≤ l ∧ l ≤ r ∧ r ≤ n then some () else none
def room (bt : Nat) (n : Int) : Option Unit := if 0 ≤ n ∧ n * bt ≤ 140737488355328 ∧ n ≤ 140737488351232 then some () else none
theorem ok64_some {z y : Int} (h : ok64 z = some y) : z = y ∧ -9223372036854775808 ≤ z ∧ z ≤ 9223372036854775807 := by
  unfold ok64 at h; split at h
  · injection h with h; exact ⟨h, ‹_›⟩
  · cases h
theorem cut_some {n : Nat} {l r : Int} {u : Unit} (h : cut n l r = some u) : 0 ≤ l ∧ l ≤ r ∧ r ≤ n := by
  unfold cut at h; split at h
  · rename_i hc; exact hc
  · cases h
theorem room_some {bt : Nat} {n : Int} {u : Unit} (h : room bt n = some u) : 0 ≤ n ∧ n * bt ≤ 140737488355328 ∧ n ≤ 140737488351232 := by
  unfold room at h; split at h
  · rename_i hc; exact hc
  · cases h
theorem cnt_some {s : Int} {k : Nat} (h : cnt s = some k) : 0 ≤ s ∧ s.toNat = k := by
  unfold cnt at h; split at h
  · injection h with h; exact ⟨‹_›, h⟩
  · cases h
section ops
variable {P : Program} {B0 : Nat} {A : Nat → Prop} {Ω : List Pe} {Γ : Env} {dst : Option Tmp} {ty : TypeId} {pos : String} {aft : Array Edge} {gd : Option (Nat × Bool)}
theorem OpY.toD {o : Oper} {τ σ : Ty} (h : τ.le σ) (k : OpY P B0 A Ω Γ o τ) : OpY P B0 A Ω Γ o σ := fun a w hB hu hp hl => by
  have := k a w hB hu hp hl
  generalize (execOp a.eval o).run P w = r at *
  cases r with
  | ok x w' =>
    cases x <;> simp only [Yields] at this ⊢
    case value v => exact ⟨this.1, h _ _ _ this.2⟩
    case skip => exact ⟨this.1, h _ _ _ this.2⟩
    case enter f args => exact ⟨this.1, this.2.mono fun e w'' ⟨v, h1, h2, h3⟩ => ⟨v, h1, h2, h _ _ _ h3⟩⟩
  | halt x w' => simp only [Yields] at this
section int
variable {x y : Operand} {τ σ : Ty} {t u : TypeId} {m k z : Int} [hsx : Has Γ x τ] [hx : AsI τ m] [hsy : Has Γ y σ] [hy : AsI σ k]
include hsx hx hsy hy
theorem OpD.add (h : addI m k = some z) : OpY P B0 A Ω Γ ⟨dst, .binOp .add t x y u, ty, pos, aft, gd⟩ (D z) := by
  obtain ⟨rfl, h1, h2⟩ := ok64_some h; exact OpY.toD (I_D h1 h2) (OpY.add h1 h2)
theorem OpD.sub (h : subI m k = some z) : OpY P B0 A Ω Γ ⟨dst, .binOp .sub t x y u, ty, pos, aft, gd⟩ (D z) := by
  obtain ⟨rfl, h1, h2⟩ := ok64_some h; exact OpY.toD (I_D h1 h2) (OpY.sub h1 h2)
theorem OpD.mul (h : mulI m k = some z) : OpY P B0 A Ω Γ ⟨dst, .binOp .mul t x y u, ty, pos, aft, gd⟩ (D z) := by
  obtain ⟨rfl, h1, h2⟩ := ok64_some h; exact OpY.toD (I_D h1 h2) (OpY.mul h1 h2)
end int
section intD
variable {x y : Operand} {τ σ : Ty} {t u : TypeId} {m k z : Int} [hsx : Has Γ x τ] [hx : ToD τ Int inferInstance m] [hsy : Has Γ y σ] [hy : ToD σ Int inferInstance k]
include hsx hx hsy hy
theorem evD2 {op : BinOp} {a : Act} {w : World} (hl : ∀ s, .tmp s ∈ (Op.binOp op t x y u).operands.toList → (Γ s).p A w (a.tmps.getD s undef)) :
    a.eval x = .int .i64 m ∧ a.eval y = .int .i64 k ∧ intIn m ∧ intIn k := by
  have h1 := hx.le _ _ _ (Has.ev (x := x) (τ := τ) (op := .binOp op t x y u) (by simp [Op.operands]) hl)
  have h2 := hy.le _ _ _ (Has.ev (x := y) (τ := σ) (op := .binOp op t x y u) (by simp [Op.operands]) hl)
  exact ⟨D_I _ _ _ h1, D_I _ _ _ h2, D.wf h1, D.wf h2⟩
theorem OpD.quo (h : quoI m k = some z) : OpY P B0 A Ω Γ ⟨dst, .binOp .quo t x y u, ty, pos, aft, gd⟩ (D z) := fun a w hB hu hp hl => by
  unfold quoI at h; split at h
  · rename_i hc
    injection h with h; subst h
    obtain ⟨e1, e2, hm, hk⟩ := evD2 (x := x) (y := y) (τ := τ) (σ := σ) (t := t) (u := u) (m := m) (k := k) (A := A) (op := .quo) hl
    have hd0 : 0 ≤ m / k := Int.ediv_nonneg hc.1 (by omega)
    have hd1 : m / k ≤ m := Int.ediv_le_self _ hc.1
    haveI : AsI τ m := ⟨hx.le.trans D_I⟩
    haveI : AsI σ k := ⟨hy.le.trans D_I⟩
    exact OpY.toD (I_D (by omega) (by have := hm.2; omega)) (OpY.quo (x := x) (y := y) (τ := τ) (σ := σ) (m := m) (k := k) hc.1 hm.2 hc.2) a w hB hu hp hl
  · cases h
theorem OpD.rem (h : remI m k = some z) : OpY P B0 A Ω Γ ⟨dst, .binOp .rem t x y u, ty, pos, aft, gd⟩ (D z) := fun a w hB hu hp hl => by
  unfold remI at h; split at h
  · rename_i hc
    injection h with h; subst h
    obtain ⟨e1, e2, hm, hk⟩ := evD2 (x := x) (y := y) (τ := τ) (σ := σ) (t := t) (u := u) (m := m) (k := k) (A := A) (op := .rem) hl
    have hd0 : 0 ≤ m % k := Int.emod_nonneg _ (by omega)
    have hd1 : m % k < k := Int.emod_lt_of_pos _ hc.2
    haveI : AsI τ m := ⟨hx.le.trans D_I⟩
    haveI : AsI σ k := ⟨hy.le.trans D_I⟩
    exact OpY.toD (I_D (by omega) (by have := hk.2; omega)) (OpY.rem (x := x) (y := y) (τ := τ) (σ := σ) (m := m) (k := k) hc.1 hc.2) a w hB hu hp hl
  · cases h
end intD
theorem OpD.len {t e : TypeId} {x : Operand} {τ : Ty} {α : Type} {i : Dat α} {xs : List α} [hsx : Has Γ x τ] [hx : AsL τ α i xs] [S : TSl P t e] :
    OpY P B0 A Ω Γ ⟨dst, .call { callee := .builtin .len, args := #[x], argTypes := #[t] }, ty, pos, aft, gd⟩ (D (xs.length : Int)) := fun a w hB hu hp hl => by
  have h1 := (D.wf (hx.le _ _ _ (Has.ev (x := x) (τ := τ) (op := .call { callee := .builtin .len, args := #[x], argTypes := #[t] }) (by simp [Op.operands, Call.operands]) hl))).1
  have h1 : xs.length ≤ most := h1
  unfold most at h1
  exact OpY.toD (I_D (by omega) (by omega)) (OpY.len (x := x) (τ := τ) (xs := xs)) a w hB hu hp hl
theorem OpD.lenSv {t e : TypeId} {x : Operand} {τ : Ty} {b o m n : Nat} {pr : Prop} [hsx : Has Γ x τ] [ka : AsSv τ b pr o m] [S : TSl P t e] (hn : m = n) :
    OpY P B0 A Ω Γ ⟨dst, .call { callee := .builtin .len, args := #[x], argTypes := #[t] }, ty, pos, aft, gd⟩ (D (n : Int)) := fun a w hB hu hp hl => by
  subst hn
  have h := ka.le _ _ _ (Has.ev (x := x) (τ := τ) (op := .call { callee := .builtin .len, args := #[x], argTypes := #[t] }) (by simp [Op.operands, Call.operands]) hl)
  have h1 : m ≤ 9223372036854775807 := by
    rcases h with ⟨_, o', c, _, h2, _⟩ | ⟨_, h2, _⟩
    · unfold maxLen at h2; omega
    · omega
  exact OpY.toD (I_D (by omega) (by omega)) (OpY.lenSv (x := x) (τ := τ) (b := b) (o := o) (m := m) (pr := pr)) a w hB hu hp hl
section cv
variable {s d : TypeId} {x : Operand} {τ : Ty} [hsx : Has Γ x τ]
include hsx
theorem OpD.conv8_i {m : UInt8} [hx : AsU8 τ m] [S : TIn P s .u8] [T : TIn P d .i64] : OpY P B0 A Ω Γ ⟨dst, .convert s d x, ty, pos, aft, gd⟩ (D (m.toNat : Int)) := OpY.toD (I_D (by omega) (by have := natU8 m; omega)) OpY.conv8_i
theorem OpD.conv64_i {m : UInt64} {z : Int} [hx : AsU64 τ m] [S : TIn P s .u64] [T : TIn P d .i64] (h : ok64 m.toNat = some z) : OpY P B0 A Ω Γ ⟨dst, .convert s d x, ty, pos, aft, gd⟩ (D z) := by
  obtain ⟨rfl, h1, h2⟩ := ok64_some h; exact OpY.toD (I_D h1 h2) (OpY.conv64_i (by omega))
end cv
instance {n : Int} : AsCnt (D n) n := ⟨fun A w v h => ⟨.i64, D_I _ _ _ h⟩⟩
section sl
variable {t e : TypeId} {x y z : Operand} {τ σ ρ : Ty} {α : Type} {i : Dat α} {xs : List α} {l r : Int} {u : Unit}
theorem OpD.index [Has Γ x τ] [hx : AsL τ α i xs] [Has Γ y σ] [hy : AsIx σ l] [S : TSl P t e] [T : TDat P e α i] {v : α} (h : idx xs l = some v) : OpY P B0 A Ω Γ ⟨dst, .indexAddr t x y, ty, pos, aft, gd⟩ (PtrD v) :=
  OpY.indexAddr (idx_some h).1 (idx_some h).2
end sl
end ops
theorem room_app {bt m k : Nat} {u : Unit} (h : room bt ((m + k : Nat) : Int) = some u) : (m + k) * bt ≤ 140737488355328 ∧ m + k ≤ most := by
  obtain ⟨h1, h2, h3⟩ := room_some h
  rw [← Int.natCast_mul] at h2
  unfold most
  exact ⟨by omega, by omega⟩
theorem room_make {bt : Nat} {n : Int} {u : Unit} (h : room bt n = some u) : 0 ≤ n ∧ bt * n.toNat ≤ 281474976710656 ∧ n ≤ 140737488351232 := by
  obtain ⟨h1, h2, h3⟩ := room_some h
  refine ⟨h1, ?_, h3⟩
  have : ((bt * n.toNat : Nat) : Int) ≤ 281474976710656 := by rw [Int.natCast_mul, Int.toNat_of_nonneg h1, Int.mul_comm]; omega
  omega
end Go.Proofs.Ytpknphecmahkaaa.Tr
namespace Go.Proofs.Ytpknphecmahkaaa.Tr
open Go Go.RowKit
def Pq (b o : Nat) (pr : Prop) : Ty := ⟨fun _ _ v => pr ∧ v = .pointer (some ⟨b, o, none⟩), fun _ h => h⟩
class AsPq (τ : Ty) (b o : outParam Nat) (pr : outParam Prop) : Prop where
  le : τ.le (Pq b o pr)
instance {b o : Nat} {pr : Prop} : AsPq (Pq b o pr) b o pr := ⟨Ty.le.refl _⟩
instance {b o : Nat} : AsPq (Pt b o) b o True := ⟨fun _ _ _ h => ⟨trivial, h⟩⟩
instance {p : Prop} {τ : Ty} {b o : Nat} {pr : Prop} [h : Ft p] [k : AsPq τ b o pr] : AsPq (Cond p τ) b o pr := ⟨fun A w v x => k.le A w v (x.1 h.h)⟩
section ops
variable {P : Program} {B0 : Nat} {A : Nat → Prop} {Ω Ωs Ωr : List Pe} {Γ : Env} {dst : Option Tmp} {ty : TypeId} {pos : String} {aft : Array Edge} {gd : Option (Nat × Bool)}
variable {α β : Type} {i : Dat α} {j : Dat β} {t u e : TypeId} {f off : Nat} {get : α → β} {set : β → α → α} {upd : α → Ct}
theorem OpD.ldq {x : Operand} {τ : Ty} {b o : Nat} {pr : Prop} {C : Ct} {v : α} [hx : Has Γ x τ] [q : AsPq τ b o pr] [T : TDat P t α i] [hb : HasB Ω b pr C] (p : Pl C o α i v upd) : OpY P B0 A Ω Γ ⟨dst, .load t x, ty, pos, aft, gd⟩ (D v) :=
  OpY.ldBy (τ := τ) ⟨fun {A w u} hk hv => by
    obtain ⟨h1, h2⟩ := q.le _ _ _ hv
    obtain ⟨cs, g1, g2⟩ := hk _ hb.h h1
    obtain ⟨g3, g4⟩ := p.rd.h g2
    exact ⟨b, o, _, h2, g1.row g3, g4⟩⟩
theorem OpD.indexq [S : TSl P t e] [T : TDat P e α i] {x y : Operand} {τ σ : Ty} {b o m : Nat} {pr : Prop} {k : Int} [hx : Has Γ x τ] [ka : AsSv τ b pr o m] [Has Γ y σ] [hy : AsIx σ k] (h0 : 0 ≤ k ∧ k < m) :
    OpY P B0 A Ω Γ ⟨dst, .indexAddr t x y, ty, pos, aft, gd⟩ (Pq b (o + k.toNat * Dat.sz α) pr) :=
  OpY.val fun a w hl => by
    have h := ka.le _ _ _ (Has.ev (x := x) (τ := τ) (op := .indexAddr t x y) (by simp [Op.operands]) hl)
    obtain ⟨kd, e2⟩ := hy.h (Has.ev (x := y) (τ := σ) (op := .indexAddr t x y) (by simp [Op.operands]) hl)
    rcases h with ⟨hp, o', c, e1, _, ho⟩ | ⟨_, h2, e1⟩
    · obtain rfl := ho (by omega)
      refine ⟨_, ?_, hp, rfl⟩
      have hin : 0 ≤ k ∧ k < (m : Int) := h0
      simp only [execOp, e1, e2, Instr.indexAt, asIntOf, Sem.run_bind, Sem.run_pure, Result.andThen_ok, run_underlying S.h, hin, and_self, if_true, T.sz, addr_add]
    · omega
theorem OpD.indexArq {n : Nat} [S : TAr P t n e] [T : TDat P e α i] {x y : Operand} {τ σ : Ty} {b o : Nat} {pr : Prop} {k : Int} [hx : Has Γ x τ] [q : AsPq τ b o pr] [Has Γ y σ] [hy : AsIx σ k] (h0 : 0 ≤ k ∧ k < n) :
    OpY P B0 A Ω Γ ⟨dst, .indexAddr t x y, ty, pos, aft, gd⟩ (Pq b (o + k.toNat * Dat.sz α) pr) :=
  OpY.val fun a w hl => by
    obtain ⟨hp, e1⟩ := q.le _ _ _ (Has.ev (x := x) (τ := τ) (op := .indexAddr t x y) (by simp [Op.operands]) hl)
    obtain ⟨kd, e2⟩ := hy.h (Has.ev (x := y) (τ := σ) (op := .indexAddr t x y) (by simp [Op.operands]) hl)
    refine ⟨_, ?_, hp, rfl⟩
    have hin : 0 ≤ k ∧ k < (n : Int) := h0
    simp only [execOp, e1, e2, Instr.indexAt, asIntOf, Instr.sureAddr, Sem.run_bind, Sem.run_pure, Result.andThen_ok, run_underlying S.h, hin, and_self, if_true, T.sz, addr_add]
theorem OpT.storeq {b o : Nat} {pr : Prop} {C : Ct} {p x : Operand} {τ σ : Ty} {v y : α} [hp : Has Γ p τ] [q : AsPq τ b o pr] [pk : Pick Ω b pr C Ωr] [hx : Has Γ x σ] [T : TDat P t α i] [hy : ToD σ α i y] (pl : Pl C o α i v upd) :
    OpT P B0 Ωs Ω Γ ⟨none, .store t p x, ty, pos, aft, none⟩ (fun _ : Unit => Ty.any) fun _ => ⟨b, pr, upd y⟩ :: Ωr :=
  OpT.wr (C := C) rfl fun A a w hk hl => by
    obtain ⟨hpr, e1⟩ := q.le _ _ _ (Has.ev (x := p) (τ := τ) (op := .store t p x) (by simp [Op.operands]) hl)
    have h2 := hy.le _ _ _ (Has.ev (x := x) (τ := σ) (op := .store t p x) (by simp [Op.operands]) hl)
    obtain ⟨cs, g1, g2⟩ := hk ⟨b, pr, C⟩ (List.mem_append_right _ (pk.perm.mem_iff.2 (List.mem_cons_self ..))) hpr
    obtain ⟨ds0, -, r0⟩ := D_cells h2
    obtain ⟨w', ds, k1, k2, k3, k4, k5⟩ := run_storeVar (P := P) (t := t) g1 ((pl.st y).h g2 r0).1 h2
    refine ⟨undef, fun _ _ => trivial, .inr ⟨hpr, w', cs, _, .inr ⟨?_, rfl⟩, g1, k3, k4, ((pl.st y).h g2 k2).2⟩⟩
    simp only [execOp, Instr.storeAt, e1, Instr.sureAddr, Sem.run_bind, Sem.run_pure, Result.andThen_ok, k1]
end ops
theorem idx_in {α : Type} {xs : List α} {k : Int} {x : α} {m : Nat} (h : idx xs k = some x) (hm : m = xs.length) : 0 ≤ k ∧ k < m := by rw [hm]; exact idx_lt h
theorem PlS.all {α : Type} {i : Dat α} {xs : List α} {c : Nat} : PlS (Row xs c) 0 α i xs fun ys => Row (splice xs 0 ys) c := by
  have := PlS.row0 (i := i) (xs := xs) (c := c) (n := xs.length) (Nat.le_refl _)
  rwa [List.take_of_length_le (Nat.le_refl _)] at this
theorem cut_row {m : Nat} {n : Nat} {l r : Int} {u : Unit} (h : cut n l r = some u) (hm : m = n) : 0 ≤ l ∧ l ≤ r ∧ r ≤ m := by rw [hm]; exact cut_some h
end Go.Proofs.Ytpknphecmahkaaa.Tr
namespace Go.Proofs.Ytpknphecmahkaaa.Tr
open Go Go.RowKit
section ts
variable {P : Program} {r : Ref} {n : Nat} {ops : Array Oper} {k : Nat} {rest : List Oper} {Γ : Env} {Ω Ωr : List Pe} {Q : Exit → Act → World → Prop} [op : Opens r]
variable {d : Tmp} {ty : TypeId} {pos : String} {aft : Array Edge} {α : Type} {i : Dat α} {t e : TypeId} {bt : Nat}
theorem TS.box {x : Operand} {τ : Ty} {y : α} [T : TDat P t α i] [hx : Has Γ x τ] [hy : ToD τ α i y] (hd : Nat.blt d n = true)
    (hk : ∀ b, TS P r n ops rest (k + 1) (Γ.set d (Pt b 0)) (⟨b, True, One y⟩ :: Ω) Q) : TS P r n ops (⟨some d, .box t x, ty, pos, aft, none⟩ :: rest) k Γ Ω Q :=
  TS.t OpT.box hd fun g => hk g.1
theorem TS.alloc [T : TEl P t α i bt] (hd : Nat.blt d n = true)
    (hk : ∀ b, TS P r n ops rest (k + 1) (Γ.set d (Pt b 0)) (⟨b, True, One (Dat.z : α)⟩ :: Ω) Q) : TS P r n ops (⟨some d, .alloc t, ty, pos, aft, none⟩ :: rest) k Γ Ω Q :=
  TS.t (OpT.alloc (by obtain ⟨ti, z, h1, h2, _, _, h3⟩ := T.h; exact ⟨ti, z, h1, h2, h3⟩)) hd fun g => hk g.1
theorem TS.make [S : TSl P t e] [T : TEl P e α i bt] {x y : Operand} {τ σ : Ty} {m q : Int} {u : Unit} [hx : Has Γ x τ] [kx : AsI τ m] [hy : Has Γ y σ] [kk : AsI σ q] (h0 : room bt q = some u) (hm : 0 ≤ m ∧ m ≤ q) (hd : Nat.blt d n = true)
    (hk : ∀ b, TS P r n ops rest (k + 1) (Γ.set d (Sl b True 0 m.toNat q.toNat)) (⟨b, True, Row (List.replicate q.toNat (Dat.z (α := α))) q.toNat⟩ :: Ω) Q) : TS P r n ops (⟨some d, .makeSlice t x y, ty, pos, aft, none⟩ :: rest) k Γ Ω Q :=
  TS.t (OpT.makeSlice hm.1 hm.2 (room_make h0).2.1 (room_make h0).2.2) hd fun g => hk g.1
theorem TS.app [S : TSl P t e] [T : TEl P e α i bt] {s x : Operand} {σ : Ty} {b m c c' : Nat} {pr : Prop} {xs ys : List α} {u : Unit} [hs : Has Γ s (Sl b pr 0 m c')] [sp : Pick Ω b pr (Row xs c) Ωr] [hx : Has Γ x σ] (hl : SrcOf Ω σ α i ys)
    (hr : room bt ((xs.length + ys.length : Nat) : Int) = some u) (hc : c' = c) (hm : m = xs.length) (hd : Nat.blt d n = true)
    (hk : ∀ b pr c, TS P r n ops rest (k + 1) (Γ.set d (Sl b pr 0 (xs ++ ys).length c)) (⟨b, pr, Row (xs ++ ys) c⟩ :: Ωr) Q) : TS P r n ops (⟨some d, .call { callee := .builtin .append, args := #[s, x], argTypes := #[t, t] }, ty, pos, aft, none⟩ :: rest) k Γ Ω Q :=
  TS.t (OpT.append hl hc hm (room_app hr).1 (room_app hr).2) hd fun g => hk g.1 g.2.1 g.2.2
theorem TS.un {gd : Option (Nat × Bool)} {o : Op} {τ : Ty} {Ω' : List Pe} (h : OpT P r.w.heap.size [] Ω Γ ⟨none, o, ty, pos, aft, gd⟩ (fun _ : Unit => τ) fun _ => Ω') (hk : TS P r n ops rest (k + 1) Γ Ω' Q) : TS P r n ops (⟨none, o, ty, pos, aft, gd⟩ :: rest) k Γ Ω Q :=
  TS.tn h fun _ => hk
end ts
section cut
variable {P : Program} {r : Ref} {n : Nat} {Γ : Env} {Ω Ωr : List Pe} {Q : Exit → Act → World → Prop}
def CutQ {σ ν : Type} (r : Ref) (n : Nat) (p : σ → Prop) (Δ : σ → ν → Env) (J : σ → ν → List Pe) (Q : Exit → Act → World → Prop) : Exit → Act → World → Prop
  | .normal, a, w => ∃ s m, p s ∧ Stt r n (Δ s m) (J s m) a w
  | e, a, w => Q e a w
theorem TC.cutP {σ ν : Type} {c : Code} (p : σ → Prop) (Δ : σ → ν → Env) (J : σ → ν → List Pe) (h : TC P r n Γ Ω c (CutQ r n p Δ J Q)) (k : ∀ s m, p s → TE r n (Δ s m) (J s m) Q .normal) : TC P r n Γ Ω c Q := fun a w hs => wpIn_mono (h a w hs) fun e a' w' hq => by
  cases e with
  | normal => obtain ⟨s, m, h1, h2⟩ := hq; exact k s m h1 a' w' h2
  | _ => exact hq
theorem TE.cutP {σ ν : Type} {p : σ → Prop} {Δ : σ → ν → Env} {J : σ → ν → List Pe} (s : σ) (m : ν) (hp : p s) (h : Γ.le (Δ s m)) (j : Less Ω (J s m)) : TE r n Γ Ω (CutQ r n p Δ J Q) .normal :=
  fun _ _ hs => ⟨s, m, hp, (hs.le h).less j⟩
theorem TE.cut_ret {σ ν : Type} {p : σ → Prop} {Δ : σ → ν → Env} {J : σ → ν → List Pe} (h : TE r n Γ Ω Q .ret) : TE r n Γ Ω (CutQ r n p Δ J Q) .ret := h
theorem TC.nmB {c : Code} (b : Nat) {pr : Prop} {C C' : Ct} [pk : Pick Ω b pr C Ωr] (h : C = C') (k : TC P r n Γ (⟨b, pr, C'⟩ :: Ωr) c Q) : TC P r n Γ Ω c Q := fun a w hs => k a w (by subst h; exact hs.less (Less.perm pk.perm))
theorem TE.nmB {e : Exit} (b : Nat) {pr : Prop} {C C' : Ct} [pk : Pick Ω b pr C Ωr] (h : C = C') (k : TE r n Γ (⟨b, pr, C'⟩ :: Ωr) Q e) : TE r n Γ Ω Q e := fun a w hs => k a w (by subst h; exact hs.less (Less.perm pk.perm))
end cut
theorem nm_one {α : Type} {i : Dat α} {x y : α} (h : some x = some y) : One x = One y := by injection h with h; rw [h]
theorem nm_row {α : Type} {i : Dat α} {x y : List α} {c : Nat} (h : some x = some y) : Row x c = Row y c := by injection h with h; rw [h]
theorem elS_l {α β γ : Type} {o : α ⊕ β} {s : α} {f : α → Option γ} {g : β → Option γ} {r : γ} (F : o = .inl s) (h : elS o f g = some r) : f s = some r := by subst F; exact h
theorem elS_r {α β γ : Type} {o : α ⊕ β} {q : β} {f : α → Option γ} {g : β → Option γ} {r : γ} (F : .inr q = o) (h : elS o f g = some r) : g q = some r := by subst F; exact h
instance negInt {n : Nat} [h : BoolIs (Nat.ble n 9223372036854775808) true] : Ft (intIn (-(no_index (OfNat.ofNat n)))) := ⟨by
  have := Nat.le_of_ble_eq_true h.h
  show intIn (-(n : Int))
  unfold intIn; omega⟩
instance Has.orL {Θ Γ : Env} {x : Operand} {τ : Ty} [h : Has Θ x τ] : Has (Env.or Θ Γ) x τ := ⟨fun a A w hl => h.le a A w fun t e => (hl t e).1⟩
instance (priority := 100) Has.orR {Θ Γ : Env} {x : Operand} {τ : Ty} [h : Has Γ x τ] : Has (Env.or Θ Γ) x τ := ⟨fun a A w hl => h.le a A w fun t e => (hl t e).2⟩
theorem nF {b : Bool} (h : b = false) : (!b) = true := by rw [h]; rfl
theorem toD {τ : Ty} {α : Type} {i : Dat α} {x : α} [k : ToD τ α i x] {A : Nat → Prop} {w : World} {v : Value} (h : τ.p A w v) : (D x).p A w v := k.le _ _ _ h
theorem Less.pk {Ω Ωr Δ : List Pe} {b : Nat} {pr : Prop} {C C' : Ct} [h : Pick Ω b pr C Ωr] (e : C = C') (k : Less Ωr Δ) : Less Ω (⟨b, pr, C'⟩ :: Δ) := (Less.perm h.perm).trans (e ▸ Less.cons k)
end Go.Proofs.Ytpknphecmahkaaa.Tr
namespace Go.Proofs.Ytpknphecmahkaaa.Tr
open Go Go.RowKit
theorem Pl.rowz {α : Type} {i : Dat α} {xs : List α} {c : Nat} {k : Int} {x : α} (h : idx xs k = some x) : Pl (Row xs c) (0 + k.toNat * Dat.sz α) α i x fun y => Row (xs.set k.toNat y) c := by
  rw [Nat.zero_add]; exact Pl.row h
theorem nm_len {α : Type} {x y : List α} {m : Nat} (h : some x = some y) (hn : m = x.length) : m = y.length := by injection h with h; rw [← h]; exact hn
theorem nm_sl2 {α : Type} {b o c m : Nat} {pr : Prop} {x y : List α} (h : some x = some y) (hn : m = x.length) : (Sl b pr o m c).le (Sl b pr o y.length c) := by rw [nm_len h hn]; exact Ty.le.refl _
theorem el2_mk {α β γ : Type} {a : α} {b : β} {f : α → β → Option γ} {r : γ} (h : el2 (a, b) f = some r) : f a b = some r := h
theorem el3_mk {α β γ δ : Type} {a : α} {b : β} {c : γ} {f : α → β → γ → Option δ} {r : δ} (h : el3 (a, b, c) f = some r) : f a b c = some r := h
theorem el4_mk {α β γ δ ε : Type} {a : α} {b : β} {c : γ} {d : δ} {f : α → β → γ → δ → Option ε} {r : ε} (h : el4 (a, b, c, d) f = some r) : f a b c d = some r := h
theorem cut_le {n : Nat} {l r : Int} {u : Unit} (h : cut n l r = some u) : l.toNat + (r - l).toNat ≤ n := by have := cut_some h; omega
theorem cut_le0 {n : Nat} {r : Int} {u : Unit} (h : cut n 0 r = some u) : r.toNat ≤ n := by have := cut_some h; omega
theorem cut_len {α : Type} {xs : List α} {n : Nat} {l r : Int} {u : Unit} (h : cut n l r = some u) (hn : xs.length = n) : (r - l).toNat = ((xs.drop l.toNat).take (r - l).toNat).length := by have := cut_some h; simp; omega
theorem make_le {bt : Nat} {m n : Int} {u v : Unit} (h : room bt n = some u) (k : cut n.toNat 0 m = some v) : 0 ≤ m ∧ m ≤ n := by
  have := cut_some k; have := room_some h; omega
theorem make_le2 {α : Type} {z : α} {bt : Nat} {m n : Int} {u v : Unit} (h : room bt n = some u) (k : cut n.toNat 0 m = some v) : m.toNat ≤ (List.replicate n.toNat z).length := by
  have := cut_some k; simp; omega
theorem Vec.put_nil {α : Type} {n : Nat} {v : Vec α n} {k : Nat} : v.put k [] = v := by
  unfold Vec.put splice
  split
  · cases v; simp
  · rfl
theorem slD {b c m n : Nat} {pr : Prop} {A : Nat → Prop} {w : World} {v : Value} (e : m = n) (h : (Sl b pr 0 m c).p A w v) : (Sl b pr 0 n c).p A w v := e ▸ h
section ops
variable {P : Program} {B0 : Nat} {A : Nat → Prop} {Ω : List Pe} {Γ : Env} {dst : Option Tmp} {ty : TypeId} {pos : String} {aft : Array Edge} {gd : Option (Nat × Bool)}
def shr8 (m : UInt8) (s : Int) : UInt8 := UInt8.ofNat (m.toNat / 2 ^ s.toNat)
def shr32 (m : UInt32) (s : Int) : UInt32 := UInt32.ofNat (m.toNat / 2 ^ s.toNat)
def shl64 (m : UInt64) (s : Int) : UInt64 := UInt64.ofNat (m.toNat * 2 ^ s.toNat)
def shr64 (m : UInt64) (s : Int) : UInt64 := UInt64.ofNat (m.toNat / 2 ^ s.toNat)
section
variable {x y : Operand} {τ σ : Ty} {t u : TypeId} {s : Int} [hsx : Has Γ x τ] [hsy : Has Γ y σ] [hy : AsCnt σ s]
include hsx hsy hy
theorem OpD.shr8 {m : UInt8} [hx : AsU8 τ m] (h : 0 ≤ s) : OpY P B0 A Ω Γ ⟨dst, .binOp .shr t x y u, ty, pos, aft, gd⟩ (U8 (Tr.shr8 m s)) := OpY.shr8 h
theorem OpD.shr32 {m : UInt32} [hx : AsU32 τ m] (h : 0 ≤ s) : OpY P B0 A Ω Γ ⟨dst, .binOp .shr t x y u, ty, pos, aft, gd⟩ (U32 (Tr.shr32 m s)) := OpY.shr32 h
theorem OpD.shl64 {m : UInt64} [hx : AsU64 τ m] (h : 0 ≤ s) : OpY P B0 A Ω Γ ⟨dst, .binOp .shl t x y u, ty, pos, aft, gd⟩ (U64 (Tr.shl64 m s)) := OpY.shl64 h
theorem OpD.shr64 {m : UInt64} [hx : AsU64 τ m] (h : 0 ≤ s) : OpY P B0 A Ω Γ ⟨dst, .binOp .shr t x y u, ty, pos, aft, gd⟩ (U64 (Tr.shr64 m s)) := OpY.shr64 h
end
end ops
section hasb
instance (priority := 900) {b : Nat} {pr : Prop} {C : Ct} {Ω Ω' Ωr : List Pe} [h : Pick Ω b pr C Ωr] : Pick (Ω ++ Ω') b pr C (Ωr ++ Ω') := ⟨h.perm.append_right Ω'⟩
instance (priority := 900) {b : Nat} {pr : Prop} {C : Ct} {Ω Ω' : List Pe} [h : HasB Ω' b pr C] : HasB (Ω ++ Ω') b pr C := ⟨List.mem_append_right _ h.h⟩
end hasb
section within
variable {P : Program} {B : Nat} {Ωs Ω Ωr : List Pe} {Γ : Env} {t ty e : TypeId} {d : Tmp} {pos : String} {aft : Array Edge} {α : Type} {i : Dat α} {bt : Nat}
theorem Less.ct {b : Nat} {pr : Prop} {C C' : Ct} (h : ∀ A w cs, C.p A w cs → C'.p A w cs) : Less (⟨b, pr, C⟩ :: Ω) (⟨b, pr, C'⟩ :: Ω) :=
  ⟨fun k ⟨e, he, h1, h2⟩ => by
    rcases List.mem_cons.1 he with rfl | he
    · exact ⟨_, List.mem_cons_self .., h1, h2⟩
    · exact ⟨e, List.mem_cons_of_mem _ he, h1, h2⟩, fun hap => by
    obtain ⟨h1, h2⟩ := List.pairwise_cons.1 hap
    exact List.pairwise_cons.2 ⟨fun f hf a1 a2 => h1 f hf a1 a2, h2⟩, fun A w hk e he h1 => by
    rcases List.mem_cons.1 he with rfl | he
    · obtain ⟨cs, g1, g2⟩ := hk _ (List.mem_cons_self ..) h1
      exact ⟨cs, g1, h _ _ _ g2⟩
    · exact hk e (List.mem_cons_of_mem _ he) h1⟩
theorem Less.pkTake {Δ : List Pe} {b c : Nat} {pr : Prop} {xs ys : List α} (m : Nat) [h : Pick Ω b pr (Row xs c) Ωr] (hm : m ≤ xs.length) (he : xs.take m = ys) (k : Less Ωr Δ) : Less Ω (⟨b, pr, Row ys c⟩ :: Δ) := by
  subst he
  exact (Less.perm h.perm).trans ((Less.cons k).trans (Less.ct fun A w cs hc => Row.take hc hm))
end within
section al
variable {P : Program} {B : Nat} {Ωs Ω : List Pe} {Γ : Env} {t ty : TypeId} {d : Tmp} {pos : String} {aft : Array Edge} {α : Type} {i : Dat α} {bt : Nat}
theorem OpT.allocT [T : TEl P t α i bt] : OpT P B Ωs Ω Γ ⟨some d, .alloc t, ty, pos, aft, none⟩ (fun g : Nat × Unit => Pt g.1 0) fun g => ⟨g.1, True, One (Dat.z : α)⟩ :: Ω :=
  OpT.alloc (by obtain ⟨ti, z, h1, h2, _, _, h3⟩ := T.h; exact ⟨ti, z, h1, h2, h3⟩)
end al
theorem TRw_mono {P : Program} {B : Nat} {Ωs : List Pe} {ops : Array Oper} {n : Nat} {ms : List Nat} {K K' : Env → Fam → Prop} (hk : ∀ Γ F, K Γ F → K' Γ F) : ∀ (l : List Oper) (k : Nat) (Γ : Env) (F : Fam), TRw P B Ωs ops n ms k l Γ F K → TRw P B Ωs ops n ms k l Γ F K'
  | [], _, _, _, h => hk _ _ h
  | o :: l, k, _, _, h => by
    obtain ⟨h1, h2⟩ := h
    refine ⟨h1, ?_⟩
    rcases h2 with ⟨h2, h3, τ, h4, h5⟩ | ⟨h2, μ, τ, Ω', h4, h5⟩
    · exact .inl ⟨h2, h3, τ, h4, TRw_mono hk l _ _ _ h5⟩
    · exact .inr ⟨h2, μ, τ, Ω', h4, TRw_mono hk l _ _ _ h5⟩
section drawn
variable {P : Program} {r : Ref} {n : Nat} {Γ : Env} {Ω Ωs Ωt : List Pe} {Q : Exit → Act → World → Prop} [op : Opens r]
theorem TC.regD {id : Nat} {l : List Oper} (ms : List Nat) (bs : List Nat) [hs : Split Ω bs Ωs Ωt] (hm : P.follows .mixedOrders = true) (hB : Region.lexB .any l.toArray = true) (hc : chainB .any l.toArray ms = true)
    (h : TRw P r.w.heap.size Ωs l.toArray n ms 0 l Γ (Fam.one Ωt) fun Γ' F' => ∀ g, TE r n (Env.or (F'.Θ g) Γ') (Ωs ++ F'.Ω g) Q .normal) : TC P r n Γ Ω (.region id l.toArray true) Q :=
  TC.regionD ms Ωs Ωt (Less.perm hs.perm) hm hB hc h
theorem TC.seqD {id : Nat} {l : List Oper} {y : Code} (ms : List Nat) (bs : List Nat) [hs : Split Ω bs Ωs Ωt] (hm : P.follows .mixedOrders = true) (hB : Region.lexB .any l.toArray = true) (hc : chainB .any l.toArray ms = true)
    (h : TRw P r.w.heap.size Ωs l.toArray n ms 0 l Γ (Fam.one Ωt) fun Γ' F' => ∀ g, TC P r n (Env.or (F'.Θ g) Γ') (Ωs ++ F'.Ω g) y Q) : TC P r n Γ Ω (.seq (.region id l.toArray true) y) Q :=
  TC.seq (TC.regionD ms Ωs Ωt (Less.perm hs.perm) hm hB hc h)
theorem Less.left {Ω Ω' : List Pe} : Less (Ω ++ Ω') Ω := ⟨fun k hk => Own_append.2 (.inl hk), fun hp => (List.pairwise_append.1 hp).1, fun A w hk => (Pks_append.1 hk).1⟩
theorem Env.or_le {Θ Γ : Env} : (Env.or Θ Γ).le Γ := fun t A w v h => h.2
theorem TC.regD0 {id : Nat} {l : List Oper} (hm : P.follows .mixedOrders = true) (hB : Region.lexB .any l.toArray = true)
    (h : TRw P r.w.heap.size Ω l.toArray n [] 0 l Γ (Fam.one []) fun Γ' _ => TE r n Γ' Ω Q .normal) : TC P r n Γ Ω (.region id l.toArray true) Q :=
  TC.regionD [] Ω [] (by rw [List.append_nil]; exact Less.refl _) hm hB rfl (TRw_mono (fun Γ' F' hk g a w hs => hk a w ((hs.le Env.or_le).less Less.left)) _ _ _ _ h)
theorem TC.seqD0 {id : Nat} {l : List Oper} {y : Code} (hm : P.follows .mixedOrders = true) (hB : Region.lexB .any l.toArray = true)
    (h : TRw P r.w.heap.size Ω l.toArray n [] 0 l Γ (Fam.one []) fun Γ' _ => TC P r n Γ' Ω y Q) : TC P r n Γ Ω (.seq (.region id l.toArray true) y) Q :=
  TC.seq (TC.regD0 hm hB h)
variable {B : Nat} {Ωr : List Pe} {α : Type} {i : Dat α} {t e : TypeId} {bt : Nat} {d : Tmp} {ty : TypeId} {pos : String} {aft : Array Edge}
theorem OpT.appR [S : TSl P t e] [T : TEl P e α i bt] {s x : Operand} {σ : Ty} {b m c c' : Nat} {pr : Prop} {xs ys : List α} {u : Unit} [hs : Has Γ s (Sl b pr 0 m c')] [sp : Pick Ω b pr (Row xs c) Ωr] [hx : Has Γ x σ] (hl : SrcOf (Ωs ++ Ω) σ α i ys)
    (hr : room bt ((xs.length + ys.length : Nat) : Int) = some u) (hc : c' = c) (hm : m = xs.length) :
    OpT P B Ωs Ω Γ ⟨some d, .call { callee := .builtin .append, args := #[s, x], argTypes := #[t, t] }, ty, pos, aft, none⟩ (fun g : Nat × Prop × Nat => Sl g.1 g.2.1 0 (xs ++ ys).length g.2.2) fun g => ⟨g.1, g.2.1, Row (xs ++ ys) g.2.2⟩ :: Ωr :=
  OpT.append hl hc hm (room_app hr).1 (room_app hr).2
theorem OpT.appByR [S : TSl P t e] [T : TEl P e α i bt] {s x : Operand} {σ : Ty} {b m c c' : Nat} {pr : Prop} {xs ys : List α} {u : Unit} [hs : Has Γ s (Sl b pr 0 m c')] [sp : Pick Ω b pr (Row xs c) Ωr] [hx : Has Γ x σ] (hl : SrcOf (Ωs ++ Ω) σ α i ys)
    (hr : room bt ((m + ys.length : Nat) : Int) = some u) (hc : c' = c) (hm : m ≤ xs.length) :
    OpT P B Ωs Ω Γ ⟨some d, .call { callee := .builtin .append, args := #[s, x], argTypes := #[t, t] }, ty, pos, aft, none⟩ (fun g : Nat × Prop × Nat => Sl g.1 g.2.1 0 (xs.take m ++ ys).length g.2.2) fun g => ⟨g.1, g.2.1, Row (xs.take m ++ ys) g.2.2⟩ :: Ωr :=
  OpT.appendBy hl hc hm (room_app hr).1 (room_app hr).2
end drawn
end Go.Proofs.Ytpknphecmahkaaa.Tr
namespace Go.Proofs.Ytpknphecmahkaaa.Tr
open Go Go.RowKit
def edgeB (md : Region.Mode) (ops : Array Oper) (i t : Nat) : Bool := (ops[i]?).any fun o => o.after.toList.any fun e => Region.binds md e && decide (e.on = t)
theorem edgeB_spec {md : Region.Mode} {ops : Array Oper} {i t : Nat} (h : edgeB md ops i t = true) : ∃ o, ops[i]? = some o ∧ ∃ e ∈ o.after, Region.binds md e = true ∧ e.on = t := by
  unfold edgeB at h
  cases ho : ops[i]? with
  | none => rw [ho] at h; cases h
  | some o =>
    rw [ho] at h
    simp only [Option.any_some, List.any_eq_true, Bool.and_eq_true, decide_eq_true_eq] at h
    obtain ⟨e, he, h1, h2⟩ := h
    exact ⟨o, rfl, e, by simpa using he, h1, h2⟩
def barB (md : Region.Mode) (ops : Array Oper) (k : Nat) : Bool :=
  ((List.range ops.size).all fun i => (ops[i]?).all fun o =>
    (o.after.toList.all fun e => !Region.binds md e || decide (e.on < i)) && (o.guard.all fun g => decide (g.1 < i))) &&
  (List.range k).all fun t => ((List.range (ops.size - k)).all fun i => edgeB md ops (k + i) t) || (List.range (k - t - 1)).any fun s => edgeB md ops (t + 1 + s) t
theorem barB_spec {md : Region.Mode} {ops : Array Oper} {k : Nat} (h : barB md ops k = true) {i : Nat} {o : Oper} (ho : ops[i]? = some o) :
    (∀ e ∈ o.after, Region.binds md e = true → e.on < i) ∧ (∀ g, o.guard = some g → g.1 < i) := by
  have hi : i < ops.size := (Array.getElem?_eq_some_iff.1 ho).1
  unfold barB at h
  rw [Bool.and_eq_true] at h
  have h1 := List.all_eq_true.1 h.1 i (by simpa using hi)
  rw [ho] at h1
  simp only [Option.all_some, Bool.and_eq_true, List.all_eq_true] at h1
  obtain ⟨h2, h3⟩ := h1
  refine ⟨fun e he hb => by simpa [hb] using h2 e (by simpa using he), fun g hg => ?_⟩
  rw [hg] at h3; simpa using h3
theorem barB_wait {md : Region.Mode} {ops : Array Oper} {k : Nat} (h : barB md ops k = true) {t : Nat} (ht : t < k) :
    (∀ i, k ≤ i → i < ops.size → edgeB md ops i t = true) ∨ ∃ s, t < s ∧ s < k ∧ edgeB md ops s t = true := by
  unfold barB at h
  rw [Bool.and_eq_true] at h
  have h1 := List.all_eq_true.1 h.2 t (by simpa using ht)
  rw [Bool.or_eq_true] at h1
  rcases h1 with h1 | h1
  · left
    intro i hi hs
    have := List.all_eq_true.1 h1 (i - k) (by simp; omega)
    rwa [show k + (i - k) = i by omega] at this
  · right
    obtain ⟨s, hs, he⟩ := List.any_eq_true.1 h1
    exact ⟨t + 1 + s, by omega, by simp at hs; omega, he⟩
section ext
variable {P : Program} {B : Nat} {Ωs : List Pe} {ops ops1 : Array Oper} {n : Nat} {ms : List Nat} {md : Region.Mode}
theorem OpG.ext {Γ : Env} {o : Oper} {τ : Ty} (hg : ∀ g, o.guard = some g → ops1[g.1]? = ops[g.1]?) (h : OpG P B ops1 Ωs Γ o τ) : OpG P B ops Ωs Γ o τ := by
  intro A a w hB hu hp hl
  have e1 : o.looksAt ops = o.looksAt ops1 := by
    unfold Oper.looksAt
    cases hq : o.guard with
    | none => rfl
    | some g => obtain ⟨g, b⟩ := g; simp only [hg _ hq]
  have e2 : Region.wanted o (yielded ops a.tmps) = Region.wanted o (yielded ops1 a.tmps) := by
    unfold Region.wanted
    cases hq : o.guard with
    | none => rfl
    | some g => obtain ⟨g, b⟩ := g; have := hg _ hq; simp only at this; simp only [yielded, this]
  have := h A a w hB hu hp (by rw [← e1]; exact hl)
  rw [e2]; exact this
theorem OpF.ext {Γ : Env} {F : Fam} {o : Oper} {μ : F.ν → Type} {τ : (g : F.ν) → μ g → Ty} {Ω' : (g : F.ν) → μ g → List Pe} (hg : ∀ g, o.guard = some g → ops1[g.1]? = ops[g.1]?) (h : OpF P B Ωs ops1 Γ F o τ Ω') : OpF P B Ωs ops Γ F o τ Ω' := fun g => ⟨fun A a w hl => by
  have e1 : o.looksAt ops = o.looksAt ops1 := by
    unfold Oper.looksAt
    cases hq : o.guard with
    | none => rfl
    | some g => obtain ⟨g, b⟩ := g; simp only [hg _ hq]
  have e2 : Region.wanted o (yielded ops a.tmps) = Region.wanted o (yielded ops1 a.tmps) := by
    unfold Region.wanted
    cases hq : o.guard with
    | none => rfl
    | some g => obtain ⟨g, b⟩ := g; have := hg _ hq; simp only at this; simp only [yielded, this]
  rw [e2]; exact (h g).1 A a w (by rw [← e1]; exact hl), (h g).2⟩
theorem tOp_ext {i : Nat} {K : Env → Fam → Prop} {Γ : Env} {F : Fam} (he : ops1[i]? = ops[i]?) (hg : ∀ o, ops[i]? = some o → ∀ g, o.guard = some g → ops1[g.1]? = ops[g.1]?) (h : tOp P B Ωs ops1 n ms i K Γ F) : tOp P B Ωs ops n ms i K Γ F := by
  unfold tOp at *
  rw [he] at h
  split
  · rename_i ho; simp only [ho] at h; exact h
  · rename_i o ho
    simp only [ho] at h
    obtain ⟨h1, h2⟩ := h
    refine ⟨h1, ?_⟩
    rcases h2 with ⟨h3, h4, τ, h5, h6⟩ | h2
    · exact .inl ⟨h3, h4, τ, h5.ext (hg o ho), h6⟩
    · obtain ⟨h3, μ, τ, Ω', h4, h5⟩ := h2
      exact .inr ⟨h3, μ, τ, Ω', h4.ext (hg o ho), h5⟩
end ext
section any
variable {P : Program} {ops : Array Oper} {md : Region.Mode} {Q : Exit → Act → World → Prop}
theorem wpAny_more {ρ : Option Nat} : ∀ (f : Nat) (listed : Array Bool) (a : Act) (w : World), wpAnyIn (FR ρ) 0 P md ops Q f listed a w → wpAnyIn (FR ρ) 0 P md ops Q (f + 1) listed a w
  | 0, listed, a, w, h => ⟨fun _ => h.2, fun i hi => by rw [h.1] at hi; cases hi⟩
  | f + 1, listed, a, w, h => ⟨h.1, fun i hi => wpOpIn_mono (fun a' w' h' => wpAny_more f _ a' w' h') (h.2 i hi)⟩
theorem wpAny_le {ρ : Option Nat} {f g : Nat} (hfg : f ≤ g) {listed : Array Bool} {a : Act} {w : World} (h : wpAnyIn (FR ρ) 0 P md ops Q f listed a w) : wpAnyIn (FR ρ) 0 P md ops Q g listed a w := by
  induction hfg with
  | refl => exact h
  | step _ ih => exact wpAny_more _ _ _ _ ih
variable {r : Ref} {n : Nat} {Ωs : List Pe} {ms : List Nat} {ops1 : Array Oper} {k m : Nat}
theorem wpAny_phase [op : Opens r] (hb : barB md ops k = true) (hk : k ≤ ops.size) (h1 : ∀ i, i < k → ops1[i]? = ops[i]?) (hz1 : ops1.size = k) {K : Env → Fam → Prop}
    (hQ : ∀ Γ F a w (listed : Array Bool), listed.size = ops.size → (∀ t, t < ops.size → listed.getD t true = decide (t < k)) → RSt r n Ωs Γ F a w → K Γ F → wpAnyIn (FR r.ρ) 0 P md ops Q m listed a w) :
    ∀ (fuel : Nat) (l1 listed : Array Bool) (Γ : Env) (F : Fam) (a : Act) (w : World), l1.size = k → listed.size = ops.size → (∀ t, t < k → listed.getD t true = l1.getD t true) → (∀ t, k ≤ t → t < ops.size → listed.getD t true = false) →
      (∀ j, j < k → l1.getD j true = true → ∀ o, ops1[j]? = some o → ∀ e ∈ o.after, Region.binds md e = true → l1.getD e.on false = true) →
      RSt r n Ωs Γ F a w → TAny P r.w.heap.size Ωs ops1 n ms md K fuel l1 Γ F → wpAnyIn (FR r.ρ) 0 P md ops Q (fuel + m) listed a w := by
  have hgd : ∀ (l : Array Bool) (t : Nat), t < l.size → l.getD t false = l.getD t true := fun l t ht => by simp [ht]
  -- when nothing of the first phase is ready, all of it is done
  have hall : ∀ (l1 : Array Bool), l1.size = k → Region.ready md ops1 l1 = [] → ∀ t, t < k → l1.getD t true = true := by
    intro l1 hs hr t
    induction t using Nat.strongRecOn with
    | _ t ih =>
      intro ht
      cases hc : l1.getD t true with
      | true => rfl
      | false =>
        exfalso
        obtain ⟨o, ho⟩ : ∃ o, ops1[t]? = some o := ⟨ops1[t]'(by omega), Array.getElem?_eq_getElem (by omega)⟩
        have hmem : t ∈ Region.ready md ops1 l1 := mem_ready.2 ⟨hc, o, ho, fun e he hbe => by
          have hlt := (barB_spec hb (by rw [← h1 t ht]; exact ho)).1 e he hbe
          rw [hgd l1 e.on (by omega)]; exact ih e.on hlt (by omega)⟩
        rw [hr] at hmem; cases hmem
  have hrd : ∀ (l1 listed : Array Bool), l1.size = k → listed.size = ops.size → (∀ t, t < k → listed.getD t true = l1.getD t true) → (∀ t, k ≤ t → t < ops.size → listed.getD t true = false) →
      (∀ j, j < k → l1.getD j true = true → ∀ o, ops1[j]? = some o → ∀ e ∈ o.after, Region.binds md e = true → l1.getD e.on false = true) → ¬ (∀ t, t < k → l1.getD t true = true) →
      ∀ i, i ∈ Region.ready md ops listed → i < k ∧ i ∈ Region.ready md ops1 l1 := by
    intro l1 listed hs hz he hf hcl hn i hi
    obtain ⟨hun, o, ho, hall'⟩ := mem_ready.1 hi
    have hik : i < k := by
      rcases Nat.lt_or_ge i k with h | h
      · exact h
      · exfalso
        have key : ∀ q t, t < k → k - t ≤ q → l1.getD t true = true := by
          intro q
          induction q with
          | zero => intro t ht hq; omega
          | succ q ih =>
            intro t ht hq
            rcases barB_wait hb ht with h5 | ⟨s, h5, h6, h7⟩
            · obtain ⟨o', ho', e, he1, he2, he3⟩ := edgeB_spec (h5 i h (by have := (Array.getElem?_eq_some_iff.1 ho).1; omega))
              rw [ho] at ho'
              injection ho' with ho'
              subst ho'
              have := hall' e he1 he2
              rw [he3, hgd listed t (by omega)] at this
              rw [← he t ht]; exact this
            · obtain ⟨o', ho', e, he1, he2, he3⟩ := edgeB_spec h7
              have := hcl s h6 (ih s h6 (by omega)) o' (by rw [h1 s h6]; exact ho') e he1 he2
              rw [he3, hgd l1 t (by omega)] at this
              exact this
        exact hn fun t ht => key k t ht (by omega)
    refine ⟨hik, mem_ready.2 ⟨by rw [← he i hik]; exact hun, o, by rw [h1 i hik]; exact ho, fun e he1 he2 => ?_⟩⟩
    have hlt := (barB_spec hb ho).1 e he1 he2
    have := hall' e he1 he2
    rw [hgd listed _ (by omega)] at this
    rw [hgd l1 _ (by omega), ← he _ (by omega)]; exact this
  intro fuel
  induction fuel with
  | zero =>
    intro l1 listed Γ F a w hs hz he hf hcl ha h
    have hd := hall l1 hs h.1
    rw [Nat.zero_add]
    refine hQ Γ F a w listed hz (fun t ht => ?_) ha h.2
    by_cases htk : t < k
    · rw [he t htk, hd t htk]; simp [htk]
    · rw [hf t (by omega) ht]; simp [htk]
  | succ fuel ih =>
    intro l1 listed Γ F a w hs hz he hf hcl ha h
    by_cases hd : ∀ t, t < k → l1.getD t true = true
    · have hr : Region.ready md ops1 l1 = [] := by
        cases hr : Region.ready md ops1 l1 with
        | nil => rfl
        | cons i _ =>
          exfalso
          obtain ⟨hun, o, ho, -⟩ := mem_ready.1 (show i ∈ Region.ready md ops1 l1 by rw [hr]; exact List.mem_cons_self ..)
          have hi : i < k := by have := (Array.getElem?_eq_some_iff.1 ho).1; omega
          rw [hd i hi] at hun; cases hun
      exact wpAny_le (by omega) (hQ Γ F a w listed hz (fun t ht => by
        by_cases htk : t < k
        · rw [he t htk, hd t htk]; simp [htk]
        · rw [hf t (by omega) ht]; simp [htk]) ha (h.1 hr))
    · rw [show fuel + 1 + m = (fuel + m) + 1 by omega]
      refine ⟨fun hr => ?_, fun i hi => ?_⟩
      · exfalso
        -- the first that isn't listed is ready
        refine hd (hall l1 hs ?_)
        cases hr1 : Region.ready md ops1 l1 with
        | nil => rfl
        | cons i _ =>
          exfalso
          obtain ⟨hun, o, ho, hall'⟩ := mem_ready.1 (show i ∈ Region.ready md ops1 l1 by rw [hr1]; exact List.mem_cons_self ..)
          have hik : i < k := by have := (Array.getElem?_eq_some_iff.1 ho).1; omega
          have : i ∈ Region.ready md ops listed := mem_ready.2 ⟨by rw [he i hik]; exact hun, o, by rw [← h1 i hik]; exact ho, fun e he1 he2 => by
            have hlt := (barB_spec hb (by rw [← h1 i hik]; exact ho)).1 e he1 he2
            have := hall' e he1 he2
            rw [hgd l1 _ (by omega)] at this
            rw [hgd listed _ (by omega), he _ (by omega)]; exact this⟩
          rw [hr] at this; cases this
      · obtain ⟨hik, hi1⟩ := hrd l1 listed hs hz he hf hcl hd i hi
        have ht := tOp_ext (h1 i hik) (fun o ho g hg => h1 _ (by have := (barB_spec hb ho).2 g hg; omega)) (h.2 i hi1)
        refine wpOp_of_tOp ha (fun Γ' F' a' w' ha' hK => ih _ _ Γ' F' a' w' (by simpa using hs) (by simpa using hz) (fun t htk => ?_) (fun t htk hts => ?_) (fun j hj hjl o ho e he1 he2 => ?_) ha' hK) ht
        · by_cases e : i = t
          · subst e; simp [hs, hz, hik, show i < ops.size by omega]
          · rw [getD_set_ne true e, getD_set_ne true e]; exact he t htk
        · rw [getD_set_ne true (show i ≠ t by omega)]; exact hf t htk hts
        · have hlt := (barB_spec hb (by rw [← h1 j hj]; exact ho)).1 e he1 he2
          have hold : l1.getD e.on false = true := by
            by_cases hij : i = j
            · subst hij
              obtain ⟨-, o2, ho2, hall'⟩ := mem_ready.1 hi1
              rw [ho] at ho2
              injection ho2 with ho2
              subst ho2
              exact hall' e he1 he2
            · rw [getD_set_ne true hij] at hjl
              exact hcl j hj hjl o ho e he1 he2
          by_cases h9 : i = e.on
          · simp [← h9, hs, hik]
          · rw [getD_set_ne false h9]; exact hold
end any
theorem lexFrom_drop {md : Region.Mode} {ops : Array Oper} : ∀ (j m s : Nat) (listed : Array Bool), listed.size = ops.size → s + j ≤ ops.size → (∀ t, t < ops.size → listed.getD t true = decide (t < s)) → Region.lexFrom md ops (j + m) s listed = true →
    ∃ listed', listed'.size = ops.size ∧ (∀ t, t < ops.size → listed'.getD t true = decide (t < s + j)) ∧ Region.lexFrom md ops m (s + j) listed' = true
  | 0, m, s, listed, hz, _, ht, h => ⟨listed, hz, ht, by rw [Nat.zero_add] at h; exact h⟩
  | j + 1, m, s, listed, hz, hs, ht, h => by
    rw [show j + 1 + m = (j + m) + 1 by omega] at h
    simp only [Region.lexFrom, Bool.and_eq_true] at h
    have := lexFrom_drop j m (s + 1) (listed.setIfInBounds s true) (by simpa using hz) (by omega) (fun t hts => by
      by_cases h1 : s = t
      · subst h1
        have : s < listed.size := by omega
        simp [this]
      · rw [getD_set_ne true h1, ht t hts, decide_eq_decide]; omega) h.2
    rw [show s + (j + 1) = s + 1 + j by omega]; exact this
theorem listed_ext {l l' : Array Bool} (hs : l.size = l'.size) (h : ∀ t, t < l.size → l.getD t true = l'.getD t true) : l = l' := by
  apply Array.ext hs
  intro t h1 h2
  have := h t h1
  simpa [h1, h2] using this
section tc
variable {P : Program} {r : Ref} {n : Nat} {Γ : Env} {Ω : List Pe} {Q : Exit → Act → World → Prop}
theorem TC.regionP [op : Opens r] {id : Nat} {l : List Oper} {Q' : Exit → Act → World → Prop} (k : Nat) (ms ms2 : List Nat) (Ωs Ωt : List Pe) (hΩ : Less Ω (Ωs ++ Ωt)) (hm : P.follows .mixedOrders = true) (hB : Region.lexB .any l.toArray = true) (hB1 : Region.lexB .any (l.take k).toArray = true)
    (hk : Nat.ble k l.length = true) (hb : barB .any l.toArray k = true) (hc : chainB .any (l.take k).toArray ms = true) (hc2 : chainB .any l.toArray ms2 = true)
    (h : TRw P r.w.heap.size Ωs (l.take k).toArray n ms 0 (l.take k) Γ (Fam.one Ωt) fun Γ' F' => ∀ g, ∃ Ωs2 Ωt2, Less (Ωs ++ F'.Ω g) (Ωs2 ++ Ωt2) ∧
      TRw P r.w.heap.size Ωs2 l.toArray n ms2 k (l.drop k) (Env.or (F'.Θ g) Γ') (Fam.one Ωt2) fun Γ'' F'' => ∀ g, TE r n (Env.or (F''.Θ g) Γ'') (Ωs2 ++ F''.Ω g) Q' .normal) : TC P r n Γ Ω (.region id l.toArray true) Q' := by
  intro a w hs
  have hs := hs.less hΩ
  have hkl : k ≤ l.length := Nat.le_of_ble_eq_true hk
  have hB0 := hB
  simp only [Region.lexB, Bool.and_eq_true] at hB hB1
  refine wpIn_region_any hm ?_
  have h2 := TAny_lex (P := P) (md := .any) (ops := (l.take k).toArray) hc (l.take k) 0 (Array.replicate (l.take k).toArray.size false) Γ (Fam.one Ωt) (fun j => by simp) (by simp) (fun t ht => by
    rw [Array.getD_eq_getD_getElem?, Array.getElem?_replicate]; have h6 : t < min k l.length := by simpa using ht
    simp [h6]) (by simpa using hB1.2) h
  have hg : Grow r.w.heap.size w { w with drawn := w.drawn + 1 } := Grow.drawn _
  have h3 : RSt r n Ωs Γ (Fam.one Ωt) a { w with drawn := w.drawn + 1 } :=
    ⟨(), hs.sz, hs.df, hs.mu.stp (Stp.of_grow (S := fun _ => False) hg) (fun j hj => hj.elim), fun t => ⟨trivial, (Γ t).st hg (hs.ty t)⟩, hs.pv.grow hg⟩
  have hsz : l.toArray.size = k + (l.drop k).length := by simp; omega
  have := wpAny_phase (P := P) (md := .any) (ops := l.toArray) (ops1 := (l.take k).toArray) (Q := Q') (r := r) (n := n) (Ωs := Ωs) (ms := ms) (k := k) (m := (l.drop k).length) hb (by simpa using hkl) (fun i hi => by simp [List.getElem?_take, hi]) (by simp; omega)
    (fun Γ' F' a w listed hz ht ⟨g, hok⟩ hK => by
      obtain ⟨Ωs2, Ωt2, hl2, hT⟩ := hK g
      obtain ⟨listed', hz', ht', hlex⟩ := lexFrom_drop (md := .any) (ops := l.toArray) k (l.drop k).length 0 (Array.replicate l.toArray.size false) (by simp) (by simpa using hkl) (fun t ht => by
        rw [Array.getD_eq_getD_getElem?, Array.getElem?_replicate]; simp at ht; simp [ht]) (by rw [← hsz]; simpa using hB.2)
      have he : listed' = listed := listed_ext (by rw [hz, hz']) fun t htt => by
        rw [hz'] at htt
        rw [ht' t htt, ht t htt, Nat.zero_add]
      subst he
      have h4 := TAny_lex (P := P) (md := .any) (ops := l.toArray) hc2 (l.drop k) k listed' (Env.or (F'.Θ g) Γ') (Fam.one Ωt2) (fun j => by simp [List.getElem?_drop]) hz ht (by rw [Nat.zero_add] at hlex; exact hlex) hT
      have hok' := hok.less hl2
      exact wpAny_of_T (P := P) (Q' := Q') (md := .any) (fun Γ'' F'' a w ⟨g, hok⟩ hK => hK g a w hok) _ _ _ (Fam.one Ωt2) a w ⟨(), hok'.sz, hok'.df, hok'.mu, fun t => ⟨trivial, hok'.ty t⟩, hok'.pv⟩ h4)
    (l.take k).length (Array.replicate (l.take k).toArray.size false) (Array.replicate l.toArray.size false) Γ (Fam.one Ωt) a { w with drawn := w.drawn + 1 } (by simp; omega) (by simp) (fun t ht => by
      rw [Array.getD_eq_getD_getElem?, Array.getElem?_replicate, Array.getD_eq_getD_getElem?, Array.getElem?_replicate]
      have h5 : t < l.length := by omega
      have h6 : t < min k l.length := by omega
      simp [h5, h6]) (fun t h5 h6 => by
      rw [Array.getD_eq_getD_getElem?, Array.getElem?_replicate]; simp at h6; simp [h6]) (fun j hj hjl => by
      rw [Array.getD_eq_getD_getElem?, Array.getElem?_replicate] at hjl
      have h6 : j < min k l.length := by omega
      simp [h6] at hjl) h3 h2
  have hk' : (l.take k).length = k := by simp; omega
  rw [hk', ← hsz] at this
  exact this
theorem TC.seqPh [op : Opens r] {id : Nat} {l : List Oper} {y : Code} {Ωs Ωt : List Pe} (k : Nat) (ms ms2 bs : List Nat) [hs : Split Ω bs Ωs Ωt] (hm : P.follows .mixedOrders = true) (hB : Region.lexB .any l.toArray = true) (hB1 : Region.lexB .any (l.take k).toArray = true)
    (hk : Nat.ble k l.length = true) (hb : barB .any l.toArray k = true) (hc : chainB .any (l.take k).toArray ms = true) (hc2 : chainB .any l.toArray ms2 = true)
    (h : TRw P r.w.heap.size Ωs (l.take k).toArray n ms 0 (l.take k) Γ (Fam.one Ωt) fun Γ' F' => ∀ g, ∃ Ωs2 Ωt2, Less (Ωs ++ F'.Ω g) (Ωs2 ++ Ωt2) ∧
      TRw P r.w.heap.size Ωs2 l.toArray n ms2 k (l.drop k) (Env.or (F'.Θ g) Γ') (Fam.one Ωt2) fun Γ'' F'' => ∀ g, TC P r n (Env.or (F''.Θ g) Γ'') (Ωs2 ++ F''.Ω g) y Q) : TC P r n Γ Ω (.seq (.region id l.toArray true) y) Q :=
  TC.seq (TC.regionP k ms ms2 Ωs Ωt (Less.perm hs.perm) hm hB hB1 hk hb hc hc2 h)
theorem PH.next {B : Nat} {ops : Array Oper} {ms2 : List Nat} {k : Nat} {l : List Oper} {K : List Pe → Env → Fam → Prop} {Ωs2 Ωt2 : List Pe} (bs : List Nat) [hs : Split Ω bs Ωs2 Ωt2] (h : TRw P B Ωs2 ops n ms2 k l Γ (Fam.one Ωt2) (K Ωs2)) :
    ∃ Ωs2 Ωt2, Less Ω (Ωs2 ++ Ωt2) ∧ TRw P B Ωs2 ops n ms2 k l Γ (Fam.one Ωt2) (K Ωs2) := ⟨Ωs2, Ωt2, Less.perm hs.perm, h⟩
end tc
end Go.Proofs.Ytpknphecmahkaaa.Tr
namespace Go.Proofs.Ytpknphecmahkaaa.Tr
open Go
theorem idx_nat {α : Type} {l : List α} {i : Nat} (h : i < l.length) : idx l (i : Int) = some l[i] := by
  unfold idx
  rw [if_pos (by omega), Int.toNat_natCast, List.getElem?_eq_getElem h]
theorem idx_of {α : Type} {l : List α} {k : Int} (h0 : 0 ≤ k) (h : k < l.length) : idx l k = some (l[k.toNat]'(by omega)) := by
  unfold idx
  rw [if_pos h0, List.getElem?_eq_getElem (by omega)]
theorem ok64_ok {z : Int} (h1 : -9223372036854775808 ≤ z) (h2 : z ≤ 9223372036854775807) : ok64 z = some z := by
  unfold ok64; rw [if_pos ⟨h1, h2⟩]
theorem addI_ok {a b : Int} (h1 : -9223372036854775808 ≤ a + b) (h2 : a + b ≤ 9223372036854775807) : addI a b = some (a + b) := ok64_ok h1 h2
theorem subI_ok {a b : Int} (h1 : -9223372036854775808 ≤ a - b) (h2 : a - b ≤ 9223372036854775807) : subI a b = some (a - b) := ok64_ok h1 h2
theorem mulI_ok {a b : Int} (h1 : -9223372036854775808 ≤ a * b) (h2 : a * b ≤ 9223372036854775807) : mulI a b = some (a * b) := ok64_ok h1 h2
theorem addI_nat {i : Nat} (h : i < 9223372036854775807) : addI (i : Int) 1 = some ((i + 1 : Nat) : Int) := by
  rw [addI_ok (by omega) (by omega)]; rfl
theorem remI_ok {a b : Int} (h1 : 0 ≤ a) (h2 : 0 < b) : remI a b = some (a % b) := by unfold remI; rw [if_pos ⟨h1, h2⟩]
theorem quoI_ok {a b : Int} (h1 : 0 ≤ a) (h2 : 0 < b) : quoI a b = some (a / b) := by unfold quoI; rw [if_pos ⟨h1, h2⟩]
theorem room_ok {bt : Nat} {n : Int} (h0 : 0 ≤ n) (h1 : n * bt ≤ 140737488355328) (h2 : n ≤ 140737488351232) : room bt n = some () := by unfold room; rw [if_pos ⟨h0, h1, h2⟩]
theorem cut_ok {n : Nat} {l r : Int} (h1 : 0 ≤ l) (h2 : l ≤ r) (h3 : r ≤ n) : cut n l r = some () := by unfold cut; rw [if_pos ⟨h1, h2, h3⟩]
-- not by rfl alone: what a rule by rfl rewrites the kernel would run
theorem gb_true {α : Type} [Inhabited α] {x : Option α} : gb true x = x := Eq.trans rfl rfl
theorem gb_false {α : Type} [Inhabited α] {x : Option α} : gb false x = some default := Eq.trans rfl rfl
theorem cond_t {α : Type} {x y : α} : (bif true then x else y) = x := Eq.trans rfl rfl
theorem cond_f {α : Type} {x y : α} : (bif false then x else y) = y := Eq.trans rfl rfl
theorem bind_s {α β : Type} {a : α} {f : α → Option β} : (some a).bind f = f a := Eq.trans rfl rfl
theorem el2_at {α β ρ : Type} {a : α} {b : β} {f : α → β → ρ} : el2 (a, b) f = f a b := Eq.trans rfl rfl
theorem elS_inl {α β γ : Type} {a : α} {f : α → γ} {g : β → γ} : elS (.inl a) f g = f a := Eq.trans rfl rfl
theorem elS_inr {α β γ : Type} {a : β} {f : α → γ} {g : β → γ} : elS (.inr a) f g = g a := Eq.trans rfl rfl
theorem loopO_of {σ ε : Type} {f : σ → Option (σ ⊕ ε)} {s : σ} {e : ε} (k : Nat) (hk : k ≤ 18446744073709551616) (h : loopN f k s = some e) : loopO f s = some e := loopN_mono _ h hk
theorem loopN_done {σ ε : Type} {f : σ → Option (σ ⊕ ε)} {s : σ} {e : ε} {k : Nat} (h : f s = some (.inr e)) : loopN f (k + 1) s = some e := by unfold loopN; rw [h]
theorem loopN_next {σ ε : Type} {f : σ → Option (σ ⊕ ε)} {s s' : σ} {k : Nat} (h : f s = some (.inl s')) : loopN f (k + 1) s = loopN f k s' := by rw [loopN, h]
theorem gb_of {α : Type} [Inhabited α] {g : Bool} {x : Option α} {a : α} (h : g = true → x = some a) : gb g x = some (bif g then a else default) := by
  cases g with
  | true => exact h rfl
  | false => rfl
end Go.Proofs.Ytpknphecmahkaaa.Tr
namespace Go.Proofs.Ytpknphecmahkaaa.Tr
open Go Go.RowKit
section ts
variable {P : Program} {r : Ref} {n : Nat} {ops : Array Oper} {k : Nat} {rest : List Oper} {Γ : Env} {Ω : List Pe} {Q : Exit → Act → World → Prop}
variable {t e u ty : TypeId} {d : Tmp} {pos : String} {aft : Array Edge} {α : Type} {i : Dat α} {bt : Nat}
theorem TS.nilE (b : Nat) (α : Type) [i : Dat α] (h : TS P r n ops rest k Γ (⟨b, False, Row ([] : List α) 0⟩ :: Ω) Q) : TS P r n ops rest k Γ Ω Q :=
  TS.weaken (Env.le.refl _) (Less.none fun h => h) h
theorem TC.trim {c : Code} (b m : Nat) {pr : Prop} {c0 : Nat} {xs : List α} {Ωr : List Pe} [h : Pick Ω b pr (Row xs c0) Ωr] (hm : m ≤ xs.length) (hk : TC P r n Γ (⟨b, pr, Row (xs.take m) c0⟩ :: Ωr) c Q) : TC P r n Γ Ω c Q :=
  TC.less (Less.pkTake m hm rfl (Less.refl _)) hk
end ts
section lo
variable {P : Program} {B : Nat} {Ωs Ω : List Pe} {Γ : Env} {dst : Option Tmp} {ty : TypeId} {pos : String} {aft : Array Edge} {f : FuncId} {ts : Array TypeId} {α : Type} {i : Dat α}
theorem OpT.callLO1 {x1 : Operand} {τ1 σ1 : Ty} {xs : List α} [h1 : Has Γ x1 τ1] [F : Fun P f] [Fl : Flat α i] (bs : List Nat) (k1 : ArgB (Ωs ++ Ω) bs τ1 σ1)
    (h : ∀ {A : Nat → Prop} w v1, (∀ k, w.heap.size ≤ k → A k) → OwnIn A [] → Apart [] → Pks (Pub A []) [] w → σ1.p (Pub A []) w v1 → Calls P f #[v1] w (RetO A w [] (fun g : Nat × Prop × Nat => Sl g.1 g.2.1 0 xs.length g.2.2) fun g => [⟨g.1, g.2.1, Row xs g.2.2⟩])) :
    OpT P B Ωs Ω Γ ⟨dst, .call { callee := .value (.func f), args := #[x1], argTypes := ts }, ty, pos, aft, none⟩ (fun g : Nat × Prop × Nat => Sl g.1 g.2.1 0 xs.length g.2.2) fun g => ⟨g.1, g.2.1, Row xs g.2.2⟩ :: Ω := by
  refine OpT.frame (Ωt := []) (Ω' := fun g : Nat × Prop × Nat => [⟨g.1, g.2.1, Row xs g.2.2⟩]) (List.Perm.refl _) ⟨rfl, fun A0 a w hB hu ho ha hk hl => ?_⟩
  rw [List.append_nil] at ha hk hl
  have hlt : ∀ j, Own (Ωs ++ Ω) j → j < w.heap.size := fun j hj => hk.lt hj
  have hr : (execOp a.eval ⟨dst, .call { callee := .value (.func f), args := #[x1], argTypes := ts }, ty, pos, aft, none⟩).run P w = .ok (.enter f #[a.eval x1]) w := by
    have e1 : a.eval (.func f) = .func (.func f) #[] #[] := rfl
    simp only [execOp, resolve, Deferred.ofValue, e1, Sem.run_bind, Sem.run_pure, Result.andThen_ok, invoke, F.h, Array.append_empty, Array.empty_append, List.map_toArray, List.map_cons, List.map_nil]
  rw [hr]
  have e0 : ∀ A : Nat → Prop, Pub A [] = A := fun A => by funext k; exact propext ⟨fun h => h.1, fun h => ⟨h, fun e he => absurd he (by simp)⟩⟩
  have hc := h (A := Lent (Pub A0 (Ωs ++ Ω)) bs) w (a.eval x1) (fun k hk => .inl (Pub_own.2 ⟨hu k hk, fun hj => by have := hlt k hj; omega⟩)) ⟨fun k ⟨e, he, _⟩ => absurd he (by simp)⟩ List.Pairwise.nil (fun e he => absurd he (by simp)) (by
    rw [e0]
    exact k1 _ w _ hk (h1.le a _ w fun t e => hl t (by simp [Op.operands, Call.operands, e])))
  refine hc.mono fun e w' ⟨v, g, g1, g2⟩ => ⟨v, g, g1, g2.st.mono hB (fun _ h => h), fun k hk => ?_, ?_, g2.ty, fun e he hp => ?_⟩
  · rcases g2.nw k hk with ⟨e, he, _⟩ | h
    · exact absurd he (by simp)
    · exact .inr h
  · refine List.pairwise_append.2 ⟨ha, List.pairwise_singleton _ _, fun x hx y hy h3 h4 h5 => ?_⟩
    rcases g2.nw y.b ⟨y, hy, h4, rfl⟩ with ⟨z, hz, _⟩ | h6
    · exact absurd hz (by simp)
    · have := hlt x.b ⟨x, hx, h3, rfl⟩; omega
  · obtain ⟨cs, q1, q2⟩ := g2.ks e he hp
    refine ⟨cs, q1, ?_⟩
    obtain rfl := List.mem_singleton.1 he
    obtain ⟨r1, r2, r3, r4, r5⟩ := q2
    exact ⟨r1, r2, r3, r4, fun j hj => Fl.h (r5 j hj)⟩
end lo
end Go.Proofs.Ytpknphecmahkaaa.Tr
namespace Go.Proofs.Ytpknphecmahkaaa.Tr
open Go Go.RowKit
section op
variable {P : Program} {B : Nat} {Ωs Ωt : List Pe} {ops : Array Oper}
theorem OpT.env {Γ1 Γ2 : Env} {o : Oper} {ν : Type} {τ : ν → Ty} {Ω' : ν → List Pe} (h : OpT P B Ωs Ωt Γ1 o τ Ω') (he : ∀ t ∈ o.looksAt ops, (Γ2 t).le (Γ1 t)) : OpT P B Ωs Ωt Γ2 o τ Ω' :=
  ⟨h.1, fun A0 a w hB hu ho ha hp hl => h.2 A0 a w hB hu ho ha hp fun t ht => he t (mem_looks ht) _ _ _ (hl t ht)⟩
theorem OpG.env {Γ1 Γ2 : Env} {o : Oper} {τ : Ty} (h : OpG P B ops Ωs Γ1 o τ) (he : ∀ t ∈ o.looksAt ops, (Γ2 t).le (Γ1 t)) : OpG P B ops Ωs Γ2 o τ :=
  fun A a w hB hu hp hl => h A a w hB hu hp fun t ht => he t ht _ _ _ (hl t ht)
theorem OpG.more {Γ : Env} {o : Oper} {τ : Ty} {Ω2 : List Pe} (h : OpG P B ops Ωs Γ o τ) (hk : ∀ A w, Pks A Ω2 w → Pks A Ωs w) : OpG P B ops Ω2 Γ o τ :=
  fun A a w hB hu hp hl => h A a w hB hu (hk _ _ hp) hl
theorem OpT.map {Γ : Env} {o : Oper} {ν ν' : Type} {τ : ν → Ty} {τ' : ν' → Ty} {Ω1 : ν → List Pe} {Ω2 : ν' → List Pe} (f : ν → ν') (h1 : ∀ g, τ' (f g) = τ g) (h2 : ∀ g, Ω2 (f g) = Ω1 g) (h : OpT P B Ωs Ωt Γ o τ Ω1) : OpT P B Ωs Ωt Γ o τ' Ω2 :=
  ⟨h.1, fun A0 a w hB hu ho ha hp hl => by
    have hy := h.2 A0 a w hB hu ho ha hp hl
    generalize (execOp a.eval o).run P w = r at *
    cases r with
    | ok x w' =>
      cases x <;> simp only [YieldsT] at hy ⊢
      case value v => obtain ⟨g, hg⟩ := hy; exact ⟨f g, by rw [h1, h2]; exact hg⟩
      case skip => obtain ⟨g, hg⟩ := hy; exact ⟨f g, by rw [h1, h2]; exact hg⟩
      case enter g args => exact hy.mono fun e w' ⟨v, g, he, hg⟩ => ⟨v, f g, he, by rw [h1, h2]; exact hg⟩
    | halt x w' => simp only [YieldsT] at hy⟩
theorem OpT.perm {Γ : Env} {o : Oper} {ν : Type} {τ : ν → Ty} {Ω' : ν → List Pe} {Ω2 : List Pe} (hp : Ω2.Perm Ωt) (h : OpT P B Ωs Ωt Γ o τ Ω') : OpT P B Ωs Ω2 Γ o τ fun g => Ω' g ++ [] :=
  OpT.frame (Ωt := Ωt) (Ωr := []) (by rw [List.append_nil]; exact hp) (by rw [List.append_nil]; exact h)
end op
structure Sub (F' F : Fam) where
  h : F'.ν → F.ν
  th : ∀ g t, (F'.Θ g t).le (F.Θ (h g) t)
  pm : ∀ g, (F'.Ω g).Perm (F.Ω (h g))
  tl : ∀ t, t ∈ F'.tl ↔ t ∈ F.tl
theorem put_le {Γ Δ : Env} {τ : Ty} {d : Option Tmp} (h : ∀ t, (Γ t).le (Δ t)) : ∀ t, (Γ.put d τ t).le (Δ.put d τ t) := fun t => by
  cases d with
  | none => exact h t
  | some d =>
    simp only [Env.put, Env.set]
    split
    · exact Ty.le.refl _
    · exact h t
def Sub.next {F' F : Fam} (s : Sub F' F) (d : Option Tmp) {μ : F.ν → Type} (τ : (g : F.ν) → μ g → Ty) (Ω' : (g : F.ν) → μ g → List Pe) (Ω'' : (g : F'.ν) → μ (s.h g) → List Pe) (hp : ∀ g m, (Ω'' g m).Perm (Ω' (s.h g) m)) :
    Sub (F'.next d (μ := fun g => μ (s.h g)) (fun g m => τ (s.h g) m) Ω'') (F.next d τ Ω') where
  h g := ⟨s.h g.1, g.2⟩
  th g := put_le (s.th g.1)
  pm g := hp g.1 g.2
  tl t := by simp only [Fam.next, List.mem_append, s.tl]
theorem or_le {Θ1 Θ2 Γ : Env} (h : ∀ t, (Θ1 t).le (Θ2 t)) (t : Tmp) : (Env.or Θ1 Γ t).le (Env.or Θ2 Γ t) := fun A w v x => ⟨h t A w v x.1, x.2⟩
def AllocU (P : Program) (o : Oper) (C : Ct) : Prop := ∀ (B : Nat) (Ωs Ω : List Pe) (Γ : Env), OpT P B Ωs Ω Γ o (fun b : Nat => Pt b 0) fun b => ⟨b, True, C⟩ :: Ω
theorem AllocU.of {P : Program} {t ty : TypeId} {d : Tmp} {pos : String} {aft : Array Edge} {α : Type} {i : Dat α} {bt : Nat} [T : TEl P t α i bt] : AllocU P ⟨some d, .alloc t, ty, pos, aft, none⟩ (One (Dat.z : α)) := fun B Ωs Ω Γ =>
  OpT.map (fun g : Nat × Unit => g.1) (fun _ => rfl) (fun _ => rfl) (OpT.allocT (α := α))
section cls
variable (P : Program) (B : Nat) (Ωs : List Pe) (ops : Array Oper) (n : Nat) (cl : Nat → Nat)
def OpU (Γ : Env) (F : Fam) (o : Oper) {μ : F.ν → Type} (τ : (g : F.ν) → μ g → Ty) (Ω' : (g : F.ν) → μ g → List Pe) : Prop :=
  ∀ Ωr g, OpT P B (Ωs ++ Ωr) (F.Ω g) (Env.or (F.Θ g) Γ) o (τ g) (Ω' g)
def OpR (Γ : Env) (F : Fam) (o : Oper) (τ : F.ν → Ty) : Prop := ∀ g, OpG P B ops (Ωs ++ F.Ω g) (Env.or (F.Θ g) Γ) o (τ g)
def Stepc (c : Nat) (o : Oper) (K : Env → Fam → Prop) (Γ : Env) (F : Fam) : Prop :=
  (c = 0 ∧ (∀ t, o.dst = some t → t ∉ F.tl) ∧ ∃ τ, OpG P B ops Ωs Γ o τ ∧ K (Γ.put o.dst τ) F) ∨
  (c = 1 ∧ ∃ (μ : F.ν → Type) (τ : (g : F.ν) → μ g → Ty) (Ω' : (g : F.ν) → μ g → List Pe), OpU P B Ωs Γ F o τ Ω' ∧ K (Γ.put o.dst Ty.any) (F.next o.dst τ Ω')) ∨
  (c = 2 ∧ ∃ τ : F.ν → Ty, OpR P B Ωs ops Γ F o τ ∧ K (Γ.put o.dst Ty.any) (F.next o.dst (μ := fun _ => Unit) (fun g _ => τ g) fun g _ => F.Ω g)) ∨
  (c = 3 ∧ ∃ C, AllocU P o C ∧ K (Γ.put o.dst Ty.any) (F.next o.dst (μ := fun _ => Nat) (fun _ b => Pt b 0) fun g b => ⟨b, True, C⟩ :: F.Ω g))
def tOp2 (i : Nat) (K : Env → Fam → Prop) (Γ : Env) (F : Fam) : Prop :=
  match ops[i]? with
  | none => K Γ F
  | some o => (∀ t, o.dst = some t → t < n) ∧ Stepc P B Ωs ops (cl i) o K Γ F
def TRw2 : Nat → List Oper → Env → Fam → (Env → Fam → Prop) → Prop
  | _, [], Γ, F, K => K Γ F
  | k, o :: rest, Γ, F, K => (∀ t, o.dst = some t → t < n) ∧ Stepc P B Ωs ops (cl k) o (fun Γ F => TRw2 (k + 1) rest Γ F K) Γ F
def TAny2 (md : Region.Mode) (K : Env → Fam → Prop) : Nat → Array Bool → Env → Fam → Prop
  | 0, listed, Γ, F => Region.ready md ops listed = [] ∧ K Γ F
  | fuel + 1, listed, Γ, F =>
    (Region.ready md ops listed = [] → K Γ F) ∧
    ∀ i ∈ Region.ready md ops listed, tOp2 P B Ωs ops n cl i (TAny2 md K fuel (listed.setIfInBounds i true)) Γ F
end cls
def Cl (K : Env → Fam → Prop) : Prop := ∀ Γ F F', Sub F' F → K Γ F → K Γ F'
section any
variable {P : Program} {B : Nat} {Ωs : List Pe} {ops : Array Oper} {n : Nat} {cl : Nat → Nat} {md : Region.Mode}
theorem Stepc.mono {c : Nat} {o : Oper} {K K' : Env → Fam → Prop} {Γ : Env} {F : Fam} (h : ∀ Γ F, K Γ F → K' Γ F) (hh : Stepc P B Ωs ops c o K Γ F) : Stepc P B Ωs ops c o K' Γ F := by
  rcases hh with ⟨h0, h1, τ, h2, h3⟩ | ⟨h0, μ, τ, Ω', h2, h3⟩ | ⟨h0, τ, h2, h3⟩ | ⟨h0, C, h2, h3⟩
  · exact .inl ⟨h0, h1, τ, h2, h _ _ h3⟩
  · exact .inr (.inl ⟨h0, μ, τ, Ω', h2, h _ _ h3⟩)
  · exact .inr (.inr (.inl ⟨h0, τ, h2, h _ _ h3⟩))
  · exact .inr (.inr (.inr ⟨h0, C, h2, h _ _ h3⟩))
theorem tOp2.mono {i : Nat} {K K' : Env → Fam → Prop} {Γ : Env} {F : Fam} (h : ∀ Γ F, K Γ F → K' Γ F) (hh : tOp2 P B Ωs ops n cl i K Γ F) : tOp2 P B Ωs ops n cl i K' Γ F := by
  unfold tOp2 at *
  split
  · rename_i ho; simp only [ho] at hh; exact h _ _ hh
  · rename_i o ho; simp only [ho] at hh; exact ⟨hh.1, hh.2.mono h⟩
theorem Stepc.sub {c : Nat} {o : Oper} {K : Env → Fam → Prop} (hK : Cl K) {Γ : Env} {F F' : Fam} (s : Sub F' F) (hh : Stepc P B Ωs ops c o K Γ F) : Stepc P B Ωs ops c o K Γ F' := by
  rcases hh with ⟨h0, h1, τ, h2, h3⟩ | ⟨h0, μ, τ, Ω', h2, h3⟩ | ⟨h0, τ, h2, h3⟩ | ⟨h0, C, h2, h3⟩
  · exact .inl ⟨h0, fun t ht hm => h1 t ht ((s.tl t).1 hm), τ, h2, hK _ _ _ s h3⟩
  · refine .inr (.inl ⟨h0, fun g => μ (s.h g), fun g m => τ (s.h g) m, fun g m => Ω' (s.h g) m ++ [], fun Ωr g => OpT.env (ops := ops) (OpT.perm (s.pm g) (h2 Ωr (s.h g))) fun t _ => or_le (s.th g) t, hK _ _ _ (s.next _ _ _ _ fun g m => by rw [List.append_nil]) h3⟩)
  · refine .inr (.inr (.inl ⟨h0, fun g => τ (s.h g), fun g => OpG.more (OpG.env (h2 (s.h g)) fun t _ => or_le (s.th g) t) fun A w hk e he => hk e (((s.pm g).append_left Ωs).mem_iff.2 he), hK _ _ _ (s.next o.dst (μ := fun _ => Unit) (fun g _ => τ g) (fun g _ => F.Ω g) (fun g _ => F'.Ω g) fun g m => s.pm g) h3⟩))
  · exact .inr (.inr (.inr ⟨h0, C, h2, hK _ _ _ (s.next o.dst (μ := fun _ => Nat) (fun _ b => Pt b 0) (fun g b => ⟨b, True, C⟩ :: F.Ω g) (fun g b => ⟨b, True, C⟩ :: F'.Ω g) fun g m => (s.pm g).cons _) h3⟩))
theorem tOp2.sub {i : Nat} {K : Env → Fam → Prop} (hK : Cl K) : Cl (tOp2 P B Ωs ops n cl i K) := fun Γ F F' s hh => by
  unfold tOp2 at *
  split
  · rename_i ho; simp only [ho] at hh; exact hK _ _ _ s hh
  · rename_i o ho; simp only [ho] at hh; exact ⟨hh.1, hh.2.sub hK s⟩
theorem TAny2.sub {K : Env → Fam → Prop} (hK : Cl K) : ∀ (fuel : Nat) (listed : Array Bool), Cl (TAny2 P B Ωs ops n cl md K fuel listed)
  | 0, _ => fun Γ F F' s h => ⟨h.1, hK _ _ _ s h.2⟩
  | fuel + 1, listed => fun Γ F F' s h => ⟨fun h0 => hK _ _ _ s (h.1 h0), fun i hi => tOp2.sub (TAny2.sub hK fuel _) _ _ _ s (h.2 i hi)⟩
def Cmp (c d : Nat) : Prop := c = 0 ∨ d = 0 ∨ d = 3 ∨ (c = 2 ∧ d = 2)
theorem exch {j : Nat} {oi oj : Oper} {ci : Nat} (hj : ops[j]? = some oj) (hap : oi.apart ops oj = true) (hc : Cmp ci (cl j)) {K : Env → Fam → Prop} (hK : Cl K) {Γ : Env} {F : Fam}
    (h : Stepc P B Ωs ops ci oi (tOp2 P B Ωs ops n cl j K) Γ F) : tOp2 P B Ωs ops n cl j (fun Γ' F' => Stepc P B Ωs ops ci oi K Γ' F') Γ F := by
  obtain ⟨a1, a2, a3⟩ := Oper.apart_spec hap
  have e1 : ∀ (Γ : Env) (τ : Ty), ∀ t ∈ oj.looksAt ops, Γ.put oi.dst τ t = Γ t := fun Γ τ t ht => Env.put_other Γ τ fun e => a1 t e ht
  have e2 : ∀ (Γ : Env) (τ : Ty), ∀ t ∈ oi.looksAt ops, Γ.put oj.dst τ t = Γ t := fun Γ τ t ht => Env.put_other Γ τ fun e => a3 t e ht
  have pc : ∀ (Γ : Env) (τ σ : Ty), (Γ.put oi.dst τ).put oj.dst σ = (Γ.put oj.dst σ).put oi.dst τ := fun Γ τ σ => Env.put_comm Γ τ σ a2
  unfold tOp2 at *
  simp only [hj] at *
  rcases h with ⟨c0, hoff, τi, hi, hd, h⟩ | ⟨c0, μi, τi, Ωi, hi, hd, h⟩ | ⟨c0, τi, hi, hd, h⟩ | ⟨c0, Ci, hi, hd, h⟩
  · -- i touches nothing
    refine ⟨hd, ?_⟩
    rcases h with ⟨d0, hof, τ, ho, hk⟩ | ⟨d0, μ, τ, Ω', ho, hk⟩ | ⟨d0, τ, ho, hk⟩ | ⟨d0, C, ho, hk⟩
    · refine .inl ⟨d0, hof, τ, ho.congr fun t ht => (e1 Γ τi t ht).symm, .inl ⟨c0, hoff, τi, hi.congr fun t ht => e2 Γ τ t ht, ?_⟩⟩
      rw [← pc]; exact hk
    · refine .inr (.inl ⟨d0, μ, τ, Ω', fun Ωr g => OpT.env (ops := ops) (ho Ωr g) fun t ht A w v x => ⟨x.1, by rw [e1 Γ τi t ht]; exact x.2⟩, .inl ⟨c0, fun t ht hx => ?_, τi, hi.congr fun t ht => e2 Γ Ty.any t ht, ?_⟩⟩)
      · rcases List.mem_append.1 hx with hx | hx
        · exact a2 t ht (by simpa using hx)
        · exact hoff t ht hx
      · rw [← pc]; exact hk
    · refine .inr (.inr (.inl ⟨d0, τ, fun g => OpG.env (ho g) fun t ht A w v x => ⟨x.1, by rw [e1 Γ τi t ht]; exact x.2⟩, .inl ⟨c0, fun t ht hx => ?_, τi, hi.congr fun t ht => e2 Γ Ty.any t ht, ?_⟩⟩))
      · rcases List.mem_append.1 hx with hx | hx
        · exact a2 t ht (by simpa using hx)
        · exact hoff t ht hx
      · rw [← pc]; exact hk
    · refine .inr (.inr (.inr ⟨d0, C, ho, .inl ⟨c0, fun t ht hx => ?_, τi, hi.congr fun t ht => e2 Γ Ty.any t ht, ?_⟩⟩))
      · rcases List.mem_append.1 hx with hx | hx
        · exact a2 t ht (by simpa using hx)
        · exact hoff t ht hx
      · rw [← pc]; exact hk
  · -- i touches
    refine ⟨hd, ?_⟩
    have hi2 : ∀ (σ : Ty), OpU P B Ωs (Γ.put oj.dst σ) F oi τi Ωi := fun σ Ωr g => OpT.env (ops := ops) (hi Ωr g) fun t ht A w v x => ⟨x.1, by have := x.2; rwa [e2 Γ σ t ht] at this⟩
    rcases h with ⟨d0, hof, τ, ho, hk⟩ | ⟨d0, _⟩ | ⟨d0, _⟩ | ⟨d0, C, ho, hk⟩
    · refine .inl ⟨d0, fun t ht hx => hof t ht (List.mem_append_right _ hx), τ, ho.congr fun t ht => (e1 Γ Ty.any t ht).symm, .inr (.inl ⟨c0, μi, τi, Ωi, hi2 τ, ?_⟩)⟩
      rw [← pc]; exact hk
    · exact absurd hc (by unfold Cmp; omega)
    · exact absurd hc (by unfold Cmp; omega)
    · refine .inr (.inr (.inr ⟨d0, C, ho, .inr (.inl ⟨c0, fun g => μi g.1, fun g m => τi g.1 m, fun g m => Ωi g.1 m ++ [⟨g.2, True, C⟩], fun Ωr g => ?_, ?_⟩)⟩))
      · have h1 := hi2 Ty.any (Ωr ++ [⟨g.2, True, C⟩]) g.1
        rw [← List.append_assoc] at h1
        refine OpT.env (ops := ops) (OpT.frame (Ωt := F.Ω g.1) (Ωr := [⟨g.2, True, C⟩]) ?_ h1) fun t ht A w v x => ⟨?_, x.2⟩
        · exact (List.perm_append_comm (l₁ := [(⟨g.2, True, C⟩ : Pe)]) (l₂ := F.Ω g.1))
        · have := x.1
          rwa [show (F.next oj.dst (μ := fun _ => Nat) (fun _ b => Pt b 0) fun g b => ⟨b, True, C⟩ :: F.Ω g).Θ g t = (F.Θ g.1).put oj.dst (Pt g.2 0) t from rfl, e2 (F.Θ g.1) (Pt g.2 0) t ht] at this
      · rw [← pc]
        refine hK _ _ _ ?_ hk
        refine ⟨fun g => ⟨⟨g.1.1, g.2⟩, g.1.2⟩, fun g t => ?_, fun g => ?_, fun t => ?_⟩
        · show (((F.Θ g.1.1).put oj.dst (Pt g.1.2 0)).put oi.dst (τi g.1.1 g.2) t).le (((F.Θ g.1.1).put oi.dst (τi g.1.1 g.2)).put oj.dst (Pt g.1.2 0) t)
          rw [pc]; exact Ty.le.refl _
        · exact List.perm_append_comm (l₁ := Ωi g.1.1 g.2) (l₂ := [(⟨g.1.2, True, C⟩ : Pe)])
        · simp only [Fam.next, List.mem_append]; constructor <;> rintro (h | h | h) <;> simp [h]
  · -- i reads what is touched
    refine ⟨hd, ?_⟩
    have hi2 : ∀ (σ : Ty), OpR P B Ωs ops (Γ.put oj.dst σ) F oi τi := fun σ g => OpG.env (hi g) fun t ht A w v x => ⟨x.1, by have := x.2; rwa [e2 Γ σ t ht] at this⟩
    rcases h with ⟨d0, hof, τ, ho, hk⟩ | ⟨d0, _⟩ | ⟨d0, τ, ho, hk⟩ | ⟨d0, C, ho, hk⟩
    · refine .inl ⟨d0, fun t ht hx => hof t ht (List.mem_append_right _ hx), τ, ho.congr fun t ht => (e1 Γ Ty.any t ht).symm, .inr (.inr (.inl ⟨c0, τi, hi2 τ, ?_⟩))⟩
      rw [← pc]; exact hk
    · exact absurd hc (by unfold Cmp; omega)
    · refine .inr (.inr (.inl ⟨d0, fun g => τ ⟨g, ()⟩, fun g => OpG.env (ho ⟨g, ()⟩) fun t ht A w v x => ⟨?_, ?_⟩, .inr (.inr (.inl ⟨c0, fun g => τi g.1, fun g => OpG.env (hi2 Ty.any g.1) fun t ht A w v x => ⟨?_, x.2⟩, ?_⟩))⟩))
      · show ((F.Θ g).put oi.dst (τi g) t).p A w v
        rw [e1 (F.Θ g) (τi g) t ht]; exact x.1
      · rw [e1 Γ Ty.any t ht]; exact x.2
      · have := x.1
        rwa [show (F.next oj.dst (μ := fun _ => Unit) (fun g _ => τ ⟨g, ()⟩) fun g _ => F.Ω g).Θ g t = (F.Θ g.1).put oj.dst (τ ⟨g.1, ()⟩) t from rfl, e2 (F.Θ g.1) (τ ⟨g.1, ()⟩) t ht] at this
      · rw [← pc]
        refine hK _ _ _ ?_ hk
        refine ⟨fun g => ⟨⟨g.1.1, ()⟩, ()⟩, fun g t => ?_, fun g => List.Perm.refl _, fun t => ?_⟩
        · show (((F.Θ g.1.1).put oj.dst (τ ⟨g.1.1, ()⟩)).put oi.dst (τi g.1.1) t).le (((F.Θ g.1.1).put oi.dst (τi g.1.1)).put oj.dst (τ ⟨g.1.1, ()⟩) t)
          rw [pc]; exact Ty.le.refl _
        · simp only [Fam.next, List.mem_append]; constructor <;> rintro (h | h | h) <;> simp [h]
    · refine .inr (.inr (.inr ⟨d0, C, ho, .inr (.inr (.inl ⟨c0, fun g => τi g.1, fun g => OpG.more (OpG.env (hi2 Ty.any g.1) fun t ht A w v x => ⟨?_, x.2⟩) fun A w hk e he => ?_, ?_⟩))⟩))
      · have := x.1
        rwa [show (F.next oj.dst (μ := fun _ => Nat) (fun _ b => Pt b 0) fun g b => ⟨b, True, C⟩ :: F.Ω g).Θ g t = (F.Θ g.1).put oj.dst (Pt g.2 0) t from rfl, e2 (F.Θ g.1) (Pt g.2 0) t ht] at this
      · rcases List.mem_append.1 he with he | he
        · exact hk e (List.mem_append_left _ he)
        · exact hk e (List.mem_append_right _ (List.mem_cons_of_mem _ he))
      · rw [← pc]
        refine hK _ _ _ ?_ hk
        refine ⟨fun g => ⟨⟨g.1.1, ()⟩, g.1.2⟩, fun g t => ?_, fun g => List.Perm.refl _, fun t => ?_⟩
        · show (((F.Θ g.1.1).put oj.dst (Pt g.1.2 0)).put oi.dst (τi g.1.1) t).le (((F.Θ g.1.1).put oi.dst (τi g.1.1)).put oj.dst (Pt g.1.2 0) t)
          rw [pc]; exact Ty.le.refl _
        · simp only [Fam.next, List.mem_append]; constructor <;> rintro (h | h | h) <;> simp [h]
  · -- i makes a box
    refine ⟨hd, ?_⟩
    rcases h with ⟨d0, hof, τ, ho, hk⟩ | ⟨d0, _⟩ | ⟨d0, _⟩ | ⟨d0, C, ho, hk⟩
    · refine .inl ⟨d0, fun t ht hx => hof t ht (List.mem_append_right _ hx), τ, ho.congr fun t ht => (e1 Γ Ty.any t ht).symm, .inr (.inr (.inr ⟨c0, Ci, hi, ?_⟩))⟩
      rw [← pc]; exact hk
    · exact absurd hc (by unfold Cmp; omega)
    · exact absurd hc (by unfold Cmp; omega)
    · refine .inr (.inr (.inr ⟨d0, C, ho, .inr (.inr (.inr ⟨c0, Ci, hi, ?_⟩))⟩))
      rw [← pc]
      refine hK _ _ _ ?_ hk
      refine ⟨fun g => ⟨⟨g.1.1, g.2⟩, g.1.2⟩, fun g t => ?_, fun g => List.Perm.swap _ _ _, fun t => ?_⟩
      · show (((F.Θ g.1.1).put oj.dst (Pt g.1.2 0)).put oi.dst (Pt g.2 0) t).le (((F.Θ g.1.1).put oi.dst (Pt g.2 0)).put oj.dst (Pt g.1.2 0) t)
        rw [pc]; exact Ty.le.refl _
      · simp only [Fam.next, List.mem_append]; constructor <;> rintro (h | h | h) <;> simp [h]
theorem Stepc.any {c : Nat} {o : Oper} {K : Env → Fam → Prop} {Γ : Env} {F : Fam} (hh : Stepc P B Ωs ops c o K Γ F) : ∃ Γ' F', K Γ' F' := by
  rcases hh with ⟨h0, h1, τ, h2, h3⟩ | ⟨h0, μ, τ, Ω', h2, h3⟩ | ⟨h0, τ, h2, h3⟩ | ⟨h0, C, h2, h3⟩ <;> exact ⟨_, _, h3⟩
theorem getD_ft {listed : Array Bool} {t : Nat} (h : listed.getD t false = true) : listed.getD t true = true := by
  rcases Nat.lt_or_ge t listed.size with h' | h'
  · simp [h'] at h ⊢; exact h
  · simp [Array.getElem?_eq_none h']
def pathB (md : Region.Mode) (ops : Array Oper) : Nat → Nat → Nat → Bool
  | 0, _, _ => false
  | f + 1, j, i => (ops[j]?).any fun o => o.after.any fun e => Region.binds md e && (e.on == i || pathB md ops f e.on i)
def Down (md : Region.Mode) (ops : Array Oper) (listed : Array Bool) : Prop :=
  ∀ (j : Nat) (o : Oper), ops[j]? = some o → listed.getD j true = true → ∀ e ∈ o.after, Region.binds md e = true → listed.getD e.on true = true
theorem path_mem {f j i : Nat} (h : pathB md ops (f + 1) j i = true) : ∃ o, ops[j]? = some o ∧ ∃ e ∈ o.after, Region.binds md e = true ∧ (e.on = i ∨ pathB md ops f e.on i = true) := by
  simp only [pathB] at h
  cases ho : ops[j]? with
  | none => rw [ho] at h; simp at h
  | some o =>
    rw [ho] at h
    simp only [Option.any_some] at h
    obtain ⟨k, hk, he⟩ := Array.any_eq_true.1 h
    simp only [Bool.and_eq_true, Bool.or_eq_true, beq_iff_eq] at he
    exact ⟨o, rfl, _, Array.getElem_mem hk, he.1, he.2⟩
theorem Down.path {listed : Array Bool} (hd : Down md ops listed) : ∀ (f j i : Nat), pathB md ops f j i = true → listed.getD j true = true → listed.getD i true = true
  | 0, _, _, h, _ => by simp [pathB] at h
  | f + 1, j, i, h, hj => by
    obtain ⟨o, ho, e, he, hb, h1⟩ := path_mem h
    have h2 := hd j o ho hj e he hb
    rcases h1 with rfl | h1
    · exact h2
    · exact hd.path f _ i h1 h2
theorem Down.ready {listed : Array Bool} (hd : Down md ops listed) {f j i : Nat} (h : pathB md ops f j i = true) (hj : j ∈ Region.ready md ops listed) : listed.getD i true = true := by
  cases f with
  | zero => simp [pathB] at h
  | succ f =>
    obtain ⟨o, ho, e, he, hb, h1⟩ := path_mem h
    obtain ⟨_, oj, hoj, hall⟩ := mem_ready.1 hj
    rw [ho] at hoj; injection hoj with hoj; subst hoj
    have h2 : listed.getD e.on true = true := getD_ft (hall e he hb)
    rcases h1 with rfl | h1
    · exact h2
    · exact hd.path f _ i h1 h2
theorem getD_set_true {listed : Array Bool} {j t : Nat} (h : listed.getD t true = true) : (listed.setIfInBounds j true).getD t true = true := by
  by_cases hjt : j = t
  · subst hjt
    by_cases hj : j < listed.size
    · simp [hj]
    · rw [Array.getD_eq_getD_getElem?, Array.getElem?_eq_none (by simpa using hj)]; rfl
  · rw [getD_set_ne true hjt]; exact h
theorem Down.set {listed : Array Bool} (hd : Down md ops listed) {j : Nat} (hj : j ∈ Region.ready md ops listed) : Down md ops (listed.setIfInBounds j true) := fun k o ho hk e he hb => by
  refine getD_set_true ?_
  by_cases hjk : j = k
  · subst hjk
    obtain ⟨_, oj, hoj, hall⟩ := mem_ready.1 hj
    rw [ho] at hoj; injection hoj with hoj; subst hoj
    exact getD_ft (hall e he hb)
  · rw [getD_set_ne true hjk] at hk
    exact hd k o ho hk e he hb
theorem TAny2_first {K : Env → Fam → Prop} (hK : Cl K) {i : Nat} {oi : Oper} (hi : ops[i]? = some oi) (hdi : ∀ t, oi.dst = some t → t < n) :
    ∀ (fuel : Nat) (listed : Array Bool) (Γ : Env) (F : Fam),
      (∀ j oj, ops[j]? = some oj → j ≠ i → listed.getD j true = false → (∀ e ∈ oj.after, Region.binds md e = true → e.on ≠ i) → oi.apart ops oj = true) →
      (∀ j, j < ops.size → j ≠ i → listed.getD j true = false → Cmp (cl i) (cl j) ∨ ∃ f, pathB md ops f j i = true) → Down md ops listed →
      i ∈ Region.ready md ops listed → Stepc P B Ωs ops (cl i) oi (TAny2 P B Ωs ops n cl md K fuel (listed.setIfInBounds i true)) Γ F → TAny2 P B Ωs ops n cl md K (fuel + 1) listed Γ F := by
  intro fuel
  induction fuel with
  | zero =>
    intro listed Γ F _ _ _ hr hy
    refine ⟨fun h => (by rw [h] at hr; cases hr), fun j hj => ?_⟩
    by_cases hji : j = i
    · subst hji; unfold tOp2; simp only [hi]
      exact ⟨hdi, hy⟩
    · have := ready_mono hj hji
      obtain ⟨Γ', F', H⟩ := hy.any
      rw [H.1] at this; cases this
  | succ fuel ih =>
    intro listed Γ F hfree hcm hdn hr hy
    refine ⟨fun h => (by rw [h] at hr; cases hr), fun j hj => ?_⟩
    by_cases hji : j = i
    · subst hji; unfold tOp2; simp only [hi]
      exact ⟨hdi, hy⟩
    · obtain ⟨hjun, oj, hoj, hall⟩ := mem_ready.1 hj
      have hiun := (mem_ready.1 hr).1
      have hnot : ∀ e ∈ oj.after, Region.binds md e = true → e.on ≠ i := fun e he hb heq => by
        have h1 := hall e he hb
        have h0 := (mem_ready.1 hr).1
        rw [heq] at h1
        rcases Nat.lt_or_ge i listed.size with h' | h'
        · simp [h'] at h0 h1; rw [h0] at h1; cases h1
        · simp [Array.getElem?_eq_none h'] at h1
      have hap := hfree j oj hoj hji hjun hnot
      have hlt : j < ops.size := (Array.getElem?_eq_some_iff.1 hoj).1
      have hc : Cmp (cl i) (cl j) := by
        rcases hcm j hlt hji hjun with h | ⟨f, h⟩
        · exact h
        · have h1 := hdn.ready h hj
          rcases Nat.lt_or_ge i listed.size with h' | h'
          · simp [h'] at hiun h1; rw [hiun] at h1; cases h1
          · simp [Array.getElem?_eq_none h'] at hiun
      have hun' : ∀ k, (listed.setIfInBounds j true).getD k true = false → listed.getD k true = false := fun k hun => by
        by_cases hjk : j = k
        · subst hjk; exact hjun
        · rw [getD_set_ne true hjk] at hun; exact hun
      have h1 := exch hoj hap hc (TAny2.sub hK fuel _) (hy.mono fun Γ' F' H => H.2 j (ready_mono hj hji))
      refine tOp2.mono (fun Γ' F' h3 => ih (listed.setIfInBounds j true) Γ' F' (fun k ok hk hki hun hno => hfree k ok hk hki (hun' k hun) hno) (fun k hk hki hun => hcm k hk hki (hun' k hun)) (hdn.set hj) (ready_mono hr (Ne.symm hji)) ?_) h1
      rw [Array.setIfInBounds_comm _ _ hji]
      exact h3
def okB (md : Region.Mode) (ops : Array Oper) (cl : Nat → Nat) (N : Nat) : Bool :=
  (List.range N).all fun i => (List.range N).all fun j => decide (j ≤ i) || (cl i == 0 || cl j == 0 || cl j == 3 || (cl i == 2 && cl j == 2)) || pathB md ops N j i
theorem okB_spec {N : Nat} (h : okB md ops cl N = true) {i j : Nat} (hi : i < N) (hj : j < N) (hij : i < j) : Cmp (cl i) (cl j) ∨ ∃ f, pathB md ops f j i = true := by
  simp only [okB, List.all_eq_true, List.mem_range, Bool.or_eq_true, decide_eq_true_eq, Bool.and_eq_true, beq_iff_eq] at h
  rcases h i hi j hj with (h | h) | h
  · omega
  · left; unfold Cmp; omega
  · exact .inr ⟨_, h⟩
theorem TAny2_lex (hc : okB md ops cl ops.size = true) {K : Env → Fam → Prop} (hK : Cl K) : ∀ (l : List Oper) (k : Nat) (listed : Array Bool) (Γ : Env) (F : Fam), (∀ j, l[j]? = ops[k + j]?) → listed.size = ops.size → (∀ t, t < ops.size → listed.getD t true = decide (t < k)) → Down md ops listed →
    Region.lexFrom md ops l.length k listed = true → TRw2 P B Ωs ops n cl k l Γ F K → TAny2 P B Ωs ops n cl md K l.length listed Γ F
  | [], _, _, _, _, _, _, _, _, hB, h => ⟨by simpa [Region.lexFrom] using hB, h⟩
  | o :: l, k, listed, Γ, F, hl, hz, ht, hdn, hB, h => by
    have h0 : ops[k]? = some o := by simpa using (hl 0).symm
    have hk : k < ops.size := (Array.getElem?_eq_some_iff.1 h0).1
    simp only [List.length_cons, Region.lexFrom, Bool.and_eq_true] at hB
    obtain ⟨⟨hr, hf⟩, hB'⟩ := hB
    obtain ⟨hd, h⟩ := h
    have hr' : k ∈ Region.ready md ops listed := by simpa using hr
    have ih := fun Γ' F' hK' => TAny2_lex hc hK l (k + 1) (listed.setIfInBounds k true) Γ' F' (fun j => by have := hl (j + 1); simpa [Nat.add_assoc, Nat.add_comm 1 j] using this) (by simpa using hz) (fun t hts => by
      by_cases h1 : k = t
      · subst h1
        have : k < listed.size := by omega
        simp [this]
      · rw [getD_set_ne true h1, ht t hts, decide_eq_decide]; omega) (hdn.set hr') hB' hK'
    refine TAny2_first hK h0 hd l.length listed Γ F (Region.free_spec h0 hf) (fun j hj hji hun => ?_) hdn hr' (h.mono fun Γ' F' h' => ih _ _ h')
    rw [ht j hj] at hun
    exact okB_spec hc hk hj (by have := of_decide_eq_false hun; omega)
end any
section world
variable {P : Program} {r : Ref} {n : Nat} {Ωs : List Pe} {ops : Array Oper} {cl : Nat → Nat} {md : Region.Mode}
theorem RSt.putG {Γ : Env} {F : Fam} {a : Act} {w w' : World} {d : Option Tmp} {v : Value} {τ : Ty} {g : F.ν} (ha : Stt r n (Env.or (F.Θ g) Γ) (Ωs ++ F.Ω g) a w) (hd : ∀ t, d = some t → t < n) (hof : ∀ t, d = some t → t ∉ F.tl)
    (hg : Grow r.w.heap.size w w') (hv : τ.p (Pub r.A (Ωs ++ F.Ω g)) w' v) : RSt r n Ωs (Γ.put d τ) F (a.put d v) w' := by
  have hst := ha.put (d := d) (τ := τ) hd hg hv
  refine ⟨g, hst.sz, hst.df, hst.mu, fun t => ?_, hst.pv⟩
  have ht := hst.ty t
  cases hdst : d with
  | none => rw [hdst] at ht; exact ht
  | some d =>
    rw [hdst] at ht
    simp only [Env.put, Env.set, Env.or] at ht ⊢
    by_cases htd : t = d
    · subst htd
      simp only [if_true] at ht ⊢
      rw [F.off g t (hof t hdst)]
      exact ⟨trivial, ht⟩
    · simp only [htd, if_false] at ht ⊢
      exact ht
theorem RSt.putN {Γ : Env} {F : Fam} {a : Act} {w' : World} {d : Option Tmp} {v : Value} {g : F.ν} {μ : F.ν → Type} {τ : (g : F.ν) → μ g → Ty} {Ω' : (g : F.ν) → μ g → List Pe} {m : μ g}
    (hst : Stt r n ((Env.or (F.Θ g) Γ).put d (τ g m)) (Ωs ++ Ω' g m) (a.put d v) w') : RSt r n Ωs (Γ.put d Ty.any) (F.next d τ Ω') (a.put d v) w' := by
  refine ⟨(⟨g, m⟩ : (g : F.ν) × μ g), hst.sz, hst.df, hst.mu, fun t => ?_, hst.pv⟩
  have ht := hst.ty t
  cases hdst : d with
  | none => rw [hdst] at ht; simpa only [Fam.next, Env.put] using ht
  | some d =>
    rw [hdst] at ht
    simp only [Fam.next, Env.put, Env.set, Env.or] at ht ⊢
    by_cases htd : t = d
    · subst htd
      simp only [if_true] at ht ⊢
      exact ⟨ht, trivial⟩
    · simp only [htd, if_false] at ht ⊢
      exact ht
theorem wpOp_of_tOp2 [op : Opens r] {i : Nat} {Γ : Env} {F : Fam} {K : Env → Fam → Prop} {K' : Act → World → Prop} {Q' : Exit → Act → World → Prop} {a : Act} {w : World} (ha : RSt r n Ωs Γ F a w)
    (h : ∀ Γ' F' a' w', RSt r n Ωs Γ' F' a' w' → K Γ' F' → K' a' w') (hh : tOp2 P r.w.heap.size Ωs ops n cl i K Γ F) : wpOpIn (FR r.ρ) 0 P ops Q' i K' a w := by
  unfold tOp2 at hh
  unfold wpOpIn
  split
  · rename_i ho; simp only [ho] at hh; exact h _ _ _ _ ha hh
  · rename_i o ho
    simp only [ho] at hh
    obtain ⟨hd, hh⟩ := hh
    obtain ⟨g, ha⟩ := ha
    rcases hh with ⟨_, hof, τ, hy, hK⟩ | ⟨_, μ, τ, Ω', hy, hK⟩ | ⟨_, τ, hy, hK⟩ | ⟨_, C, hy, hK⟩
    · have hy := hy (Pub r.A (Ωs ++ F.Ω g)) a w ha.mu.size ha.up (Pks_append.1 ha.pv.ks).1 fun t _ => (ha.ty t).2
      split
      · rename_i hw
        simp only [hw, if_true] at hy
        exact wp_of_yields hy fun v w' hg hv => h _ _ _ _ (RSt.putG ha hd hof hg hv) hK
      · rename_i hw
        simp only [hw] at hy
        exact ⟨fun _ _ => trivial, h _ _ _ _ (RSt.putG ha hd hof (Grow.refl _ _) hy) hK⟩
    · have hy := hy [] g
      rw [List.append_nil] at hy
      have hg := hy.1
      have hy := ha.opT ha.ty hy
      rw [if_pos (by simp [Region.wanted, hg])]
      exact wp_of_yieldsT hy fun m v w' haf => h _ _ _ _ (RSt.putN (ha.T (d := o.dst) hd haf)) hK
    · have hy := hy g (Pub r.A (Ωs ++ F.Ω g)) a w ha.mu.size ha.up ha.pv.ks fun t _ => ha.ty t
      split
      · rename_i hw
        simp only [hw, if_true] at hy
        exact wp_of_yields hy fun v w' hg hv => h _ _ _ _ (RSt.putN (μ := fun _ => Unit) (τ := fun g _ => τ g) (Ω' := fun g _ => F.Ω g) (m := ()) (ha.put (d := o.dst) hd hg hv)) hK
      · rename_i hw
        simp only [hw] at hy
        exact ⟨fun _ _ => trivial, h _ _ _ _ (RSt.putN (μ := fun _ => Unit) (τ := fun g _ => τ g) (Ω' := fun g _ => F.Ω g) (m := ()) (ha.put (d := o.dst) hd (Grow.refl _ _) hy)) hK⟩
    · have hy := hy r.w.heap.size Ωs (F.Ω g) (Env.or (F.Θ g) Γ)
      have hg := hy.1
      have hy := ha.opT ha.ty hy
      rw [if_pos (by simp [Region.wanted, hg])]
      exact wp_of_yieldsT hy fun m v w' haf => h _ _ _ _ (RSt.putN (μ := fun _ => Nat) (τ := fun _ b => Pt b 0) (Ω' := fun g b => ⟨b, True, C⟩ :: F.Ω g) (m := m) (ha.T (d := o.dst) hd haf)) hK
theorem wpAny_of_T2 [op : Opens r] {K : Env → Fam → Prop} {Q' : Exit → Act → World → Prop} (hQ : ∀ Γ F a w, RSt r n Ωs Γ F a w → K Γ F → Q' .normal a w) : ∀ (fuel : Nat) (listed : Array Bool) (Γ : Env) (F : Fam) (a : Act) (w : World),
    RSt r n Ωs Γ F a w → TAny2 P r.w.heap.size Ωs ops n cl md K fuel listed Γ F → wpAnyIn (FR r.ρ) 0 P md ops Q' fuel listed a w
  | 0, _, _, _, _, _, ha, h => ⟨h.1, hQ _ _ _ _ ha h.2⟩
  | fuel + 1, _, _, _, _, _, ha, h => ⟨fun h0 => hQ _ _ _ _ ha (h.1 h0), fun i hi => wpOp_of_tOp2 ha (fun Γ' F' a' w' ha' hK => wpAny_of_T2 hQ fuel _ Γ' F' a' w' ha' hK) (h.2 i hi)⟩
end world
section rules
variable {P : Program} {r : Ref} {n : Nat} {Γ : Env} {Ω Ωs Ωt : List Pe} {Q : Exit → Act → World → Prop} [op : Opens r]
theorem Less.tail {Ω1 Ω2 : List Pe} (hp : Ω1.Perm Ω2) : Less (Ωs ++ Ω1) (Ωs ++ Ω2) := Less.perm (hp.append_left Ωs)
theorem TC.regionD2 {id : Nat} {l : List Oper} {R : Env → List Pe → Prop} {Q' : Exit → Act → World → Prop} (cs : List Nat) (hΩ : Less Ω (Ωs ++ Ωt)) (hm : P.follows .mixedOrders = true) (hB : Region.lexB .any l.toArray = true) (hc : okB .any l.toArray (fun k => cs.getD k 0) l.toArray.size = true)
    (hR : ∀ Γ Ω, R Γ Ω → ∀ a w, Stt r n Γ Ω a w → Q' .normal a w)
    (hle : ∀ Γ Γ' Ω1 Ω2, Γ'.le Γ → Ω1.Perm Ω2 → R Γ (Ωs ++ Ω2) → R Γ' (Ωs ++ Ω1))
    (h : TRw2 P r.w.heap.size Ωs l.toArray n (fun k => cs.getD k 0) 0 l Γ (Fam.one Ωt) fun Γ' F' => ∀ g, R (Env.or (F'.Θ g) Γ') (Ωs ++ F'.Ω g)) : TC P r n Γ Ω (.region id l.toArray true) Q' := by
  intro a w hs
  have hs := hs.less hΩ
  simp only [Region.lexB, Bool.and_eq_true] at hB
  refine wpIn_region_any hm ?_
  have hK : Cl fun Γ' F' => ∀ g, R (Env.or (F'.Θ g) Γ') (Ωs ++ F'.Ω g) := fun Γ F F' s hk g => hle _ _ _ _ (fun t => or_le (s.th g) t) (s.pm g) (hk (s.h g))
  have h2 := TAny2_lex (P := P) (md := .any) (ops := l.toArray) hc hK l 0 (Array.replicate l.toArray.size false) Γ (Fam.one Ωt) (fun j => by simp) (by simp) (fun t ht => by
    rw [Array.getD_eq_getD_getElem?, Array.getElem?_replicate]; simp at ht; simp [ht]) (fun j o ho hj => by
      have hlt : j < l.toArray.size := (Array.getElem?_eq_some_iff.1 ho).1
      rw [Array.getD_eq_getD_getElem?, Array.getElem?_replicate, if_pos hlt] at hj; cases hj) (by simpa using hB.2) h
  have hg : Grow r.w.heap.size w { w with drawn := w.drawn + 1 } := Grow.drawn _
  have h3 : RSt r n Ωs Γ (Fam.one Ωt) a { w with drawn := w.drawn + 1 } :=
    ⟨(), hs.sz, hs.df, hs.mu.stp (Stp.of_grow (S := fun _ => False) hg) (fun j hj => hj.elim), fun t => ⟨trivial, (Γ t).st hg (hs.ty t)⟩, hs.pv.grow hg⟩
  have := wpAny_of_T2 (P := P) (Q' := Q') (md := .any) (fun Γ' F' a w ⟨g, hok⟩ hK => hR _ _ (hK g) a w hok) _ _ Γ (Fam.one Ωt) a { w with drawn := w.drawn + 1 } h3 h2
  simpa using this
theorem TC.regD2 {id : Nat} {l : List Oper} (cs : List Nat) (bs : List Nat) [hs : Split Ω bs Ωs Ωt] (hm : P.follows .mixedOrders = true) (hB : Region.lexB .any l.toArray = true) (hc : okB .any l.toArray (fun k => cs.getD k 0) l.toArray.size = true)
    (h : TRw2 P r.w.heap.size Ωs l.toArray n (fun k => cs.getD k 0) 0 l Γ (Fam.one Ωt) fun Γ' F' => ∀ g, TE r n (Env.or (F'.Θ g) Γ') (Ωs ++ F'.Ω g) Q .normal) : TC P r n Γ Ω (.region id l.toArray true) Q :=
  TC.regionD2 (R := fun Γ Ω => TE r n Γ Ω Q .normal) cs (Less.perm hs.perm) hm hB hc (fun _ _ h => h) (fun _ _ _ _ h1 h2 h3 => TE.weaken h1 (TE.less (Less.tail h2) h3)) h
theorem TC.seqD2 {id : Nat} {l : List Oper} {y : Code} (cs : List Nat) (bs : List Nat) [hs : Split Ω bs Ωs Ωt] (hm : P.follows .mixedOrders = true) (hB : Region.lexB .any l.toArray = true) (hc : okB .any l.toArray (fun k => cs.getD k 0) l.toArray.size = true)
    (h : TRw2 P r.w.heap.size Ωs l.toArray n (fun k => cs.getD k 0) 0 l Γ (Fam.one Ωt) fun Γ' F' => ∀ g, TC P r n (Env.or (F'.Θ g) Γ') (Ωs ++ F'.Ω g) y Q) : TC P r n Γ Ω (.seq (.region id l.toArray true) y) Q :=
  TC.seq (TC.regionD2 (R := fun Γ Ω => TC P r n Γ Ω y Q) cs (Less.perm hs.perm) hm hB hc (fun _ _ h => h) (fun _ _ _ _ h1 h2 h3 => TC.weaken h1 (TC.less (Less.tail h2) h3)) h)
end rules
section steps
variable {P : Program} {B : Nat} {Ωs : List Pe} {ops : Array Oper} {n : Nat} {cl : Nat → Nat} {k : Nat} {Γ : Env} {F : Fam} {K : Env → Fam → Prop}
theorem TR2.nil (h : K Γ F) : TRw2 P B Ωs ops n cl k [] Γ F K := h
theorem TR2.G {d : Tmp} {op : Op} {ty : TypeId} {pos : String} {aft : Array Edge} {gd : Option (Nat × Bool)} {rest : List Oper} {τ : Ty}
    (h : OpG P B ops Ωs Γ ⟨some d, op, ty, pos, aft, gd⟩ τ) (hd : (Nat.blt d n && Nat.beq (cl k) 0 && !F.tl.contains d) = true) (hk : TRw2 P B Ωs ops n cl (k + 1) rest (Γ.set d τ) F K) : TRw2 P B Ωs ops n cl k (⟨some d, op, ty, pos, aft, gd⟩ :: rest) Γ F K := by
  simp only [Bool.and_eq_true, Bool.not_eq_true'] at hd
  exact ⟨fun t e => by injection e with e; subst e; simpa using hd.1.1, .inl ⟨Nat.eq_of_beq_eq_true hd.1.2, fun t e => by injection e with e; subst e; simpa using hd.2, τ, h, hk⟩⟩
theorem TR2.s {d : Tmp} {op : Op} {ty : TypeId} {pos : String} {aft : Array Edge} {rest : List Oper} {τ : Ty}
    (h : ∀ {A : Nat → Prop}, OpY P B A Ωs Γ ⟨some d, op, ty, pos, aft, none⟩ τ) (hd : (Nat.blt d n && Nat.beq (cl k) 0 && !F.tl.contains d) = true) (hk : TRw2 P B Ωs ops n cl (k + 1) rest (Γ.set d τ) F K) : TRw2 P B Ωs ops n cl k (⟨some d, op, ty, pos, aft, none⟩ :: rest) Γ F K :=
  TR2.G (OpG.s h) hd hk
theorem TR2.tn {op : Op} {ty : TypeId} {pos : String} {aft : Array Edge} {gd : Option (Nat × Bool)} {rest : List Oper} {μ : F.ν → Type} {τ : (g : F.ν) → μ g → Ty} {Ω' : (g : F.ν) → μ g → List Pe}
    (h : ∀ Ωr g, OpT P B (Ωs ++ Ωr) (F.Ω g) (Env.or (F.Θ g) Γ) ⟨none, op, ty, pos, aft, gd⟩ (τ g) (Ω' g)) (hd : Nat.beq (cl k) 1 = true) (hk : TRw2 P B Ωs ops n cl (k + 1) rest Γ (F.nextN Ω') K) : TRw2 P B Ωs ops n cl k (⟨none, op, ty, pos, aft, gd⟩ :: rest) Γ F K :=
  ⟨fun t e => (by cases e), .inr (.inl ⟨Nat.eq_of_beq_eq_true hd, μ, τ, Ω', h, hk⟩)⟩
theorem TR2.r {d : Tmp} {op : Op} {ty : TypeId} {pos : String} {aft : Array Edge} {gd : Option (Nat × Bool)} {rest : List Oper} {τ : F.ν → Ty}
    (h : ∀ g, OpG P B ops (Ωs ++ F.Ω g) (Env.or (F.Θ g) Γ) ⟨some d, op, ty, pos, aft, gd⟩ (τ g)) (hd : (Nat.blt d n && Nat.beq (cl k) 2) = true) (hk : TRw2 P B Ωs ops n cl (k + 1) rest (Γ.set d Ty.any) (F.nextS d (μ := fun _ => Unit) (fun g _ => τ g) fun g _ => F.Ω g) K) : TRw2 P B Ωs ops n cl k (⟨some d, op, ty, pos, aft, gd⟩ :: rest) Γ F K := by
  simp only [Bool.and_eq_true] at hd
  exact ⟨fun t e => by injection e with e; subst e; simpa using hd.1, .inr (.inr (.inl ⟨Nat.eq_of_beq_eq_true hd.2, τ, h, hk⟩))⟩
theorem TR2.a {d : Tmp} {op : Op} {ty : TypeId} {pos : String} {aft : Array Edge} {gd : Option (Nat × Bool)} {rest : List Oper} {C : Ct}
    (h : AllocU P ⟨some d, op, ty, pos, aft, gd⟩ C) (hd : (Nat.blt d n && Nat.beq (cl k) 3) = true) (hk : TRw2 P B Ωs ops n cl (k + 1) rest (Γ.set d Ty.any) (F.nextS d (μ := fun _ => Nat) (fun _ b => Pt b 0) fun g b => ⟨b, True, C⟩ :: F.Ω g) K) : TRw2 P B Ωs ops n cl k (⟨some d, op, ty, pos, aft, gd⟩ :: rest) Γ F K := by
  simp only [Bool.and_eq_true] at hd
  exact ⟨fun t e => by injection e with e; subst e; simpa using hd.1, .inr (.inr (.inr ⟨Nat.eq_of_beq_eq_true hd.2, C, h, hk⟩))⟩
end steps
end Go.Proofs.Ytpknphecmahkaaa.Tr
namespace Go.Proofs.Ytpknphecmahkaaa.Tr
open Go Go.RowKit
def lenI (n m : Nat) : Option Unit := if n = m then some () else none
theorem lenI_eq {n m : Nat} {u : Unit} (h : lenI n m = some u) : m = n := by
  unfold lenI at h; split at h
  · exact Eq.symm ‹_›
  · cases h
theorem lenI_ok {n m : Nat} (h : n = m) : lenI n m = some () := if_pos h
class IsPtr (τ : Ty) : Prop where
  h : ∀ {A : Nat → Prop} {w : World} {v : Value}, τ.p A w v → ∃ a, v = .pointer (some a)
instance {b o : Nat} : IsPtr (Pt b o) := ⟨fun h => ⟨_, h⟩⟩
theorem OpY.nilCheck {P : Program} {B0 : Nat} {A : Nat → Prop} {Ω : List Pe} {Γ : Env} {dst : Option Tmp} {ty : TypeId} {pos : String} {aft : Array Edge} {gd : Option (Nat × Bool)} {x : Operand} {τ σ : Ty} [Has Γ x τ] [k : AsT τ σ] [q : IsPtr σ] : OpY P B0 A Ω Γ ⟨dst, .nilCheck x, ty, pos, aft, gd⟩ σ :=
  OpY.val fun a w hl => by
    have h := k.le _ _ _ (Has.ev (x := x) (τ := τ) (op := .nilCheck x) (by simp [Op.operands]) hl)
    obtain ⟨ad, e⟩ := q.h h
    refine ⟨a.eval x, ?_, h⟩
    simp only [execOp, e, Sem.run_pure]
end Go.Proofs.Ytpknphecmahkaaa.Tr
namespace Go.Proofs.Ytpknphecmahkaaa.Tr
open Go Go.RowKit
structure EqN (P : Program) (t : TypeId) (α : Type) (i : Dat α) (n : Nat) [DecidableEq α] : Prop where
  h : ∀ {A : Nat → Prop} (w : World) (d : Nat) {cs ds : List Value} {x y : α}, Dat.rd A w cs x → Dat.rd A w ds y → (Op.equalIn (d + n + 1) t (mkV α cs) (mkV α ds)).run P w = .ok (decide (x = y)) w
section
variable {P : Program} {t u : TypeId} {n : Nat}
theorem EqN.i64 {k : IntKind} (hu : P.underlying t = some (.int k)) : EqN P t Int inferInstance n := ⟨fun {A} w d {cs ds x y} hx hy => by
  obtain ⟨rfl, -⟩ := hx
  obtain ⟨rfl, -⟩ := hy
  show (Op.equalIn (d + n + 1) t (.int .i64 x) (.int .i64 y)).run P w = _
  rw [run_equalIn_int w (d + n) t .i64 k x y hu]
  by_cases h : x = y <;> simp [h]⟩
theorem EqN.u8 {k : IntKind} (hu : P.underlying t = some (.int k)) : EqN P t UInt8 inferInstance n := ⟨fun {A} w d {cs ds x y} hx hy => by
  have hx : cs = [.int .u8 x.toNat] := hx
  have hy : ds = [.int .u8 y.toNat] := hy
  subst hx; subst hy
  show (Op.equalIn (d + n + 1) t (.int .u8 x.toNat) (.int .u8 y.toNat)).run P w = _
  rw [run_equalIn_int w (d + n) t .u8 k _ _ hu]
  have e3 : ((x.toNat : Int) = (y.toNat : Int)) ↔ x = y := by rw [Int.natCast_inj, UInt8.toNat_inj]
  have e4 : ((x.toNat : Int) == (y.toNat : Int)) = decide (x = y) := by rw [Bool.eq_iff_iff]; simp only [beq_iff_eq, e3, decide_eq_true_eq]
  rw [e4]⟩
theorem eqF_nil {d : Nat} {xs ys : Array Value} {w : World} : (Op.eqFields d xs ys []).run P w = .ok true w := by simp [Op.eqFields]
theorem eqF_cons {f : Field} {rest : List Field} {off : Nat} {β : Type} {j : Dat β} [DecidableEq β] (hn : f.name ≠ "_") (hu : f.type = u) (ho : f.offset = off) [T : TDat P u β j] (E : EqN P u β j n) {A : Nat → Prop} {w : World} {d : Nat} {cs ds : List Value} {a b : β} {r : Bool}
    (la : off + Dat.sz β ≤ cs.length) (lb : off + Dat.sz β ≤ ds.length) (ra : Dat.rd A w (seg cs off (Dat.sz β)) a) (rb : Dat.rd A w (seg ds off (Dat.sz β)) b)
    (hr : (Op.eqFields (d + n + 1) cs.toArray ds.toArray rest).run P w = .ok r w) : (Op.eqFields (d + n + 1) cs.toArray ds.toArray (f :: rest)).run P w = .ok (decide (a = b) && r) w := by
  subst hu; subst ho
  simp only [Op.eqFields, if_pos hn, Sem.run_bind, run_part (P := P) (u := f.type) ra la, run_part (P := P) (u := f.type) rb lb, Result.andThen_ok, E.h w d ra rb]
  by_cases h : a = b
  · simp [h, hr]
  · simp [h]
theorem EqN.struct {α : Type} {i : Dat α} [DecidableEq α] {fs : Array Field} (hu : P.underlying t = some (.struct fs)) (hp : P.stoodInHeld t = false) (ha : Dat.agg α = true)
    (hf : ∀ {A : Nat → Prop} (w : World) (d : Nat) {cs ds : List Value} {x y : α}, Dat.rd A w cs x → Dat.rd A w ds y → (Op.eqFields (d + n + 1) cs.toArray ds.toArray fs.toList).run P w = .ok (decide (x = y)) w) : EqN P t α i (n + 1) := ⟨fun {A} w d {cs ds x y} hx hy => by
  have hfs : P.fieldsOf t = fs := by unfold Program.fieldsOf; rw [hu]
  have e1 : mkV α cs = .agg cs.toArray := by unfold mkV; rw [ha]; rfl
  have e2 : mkV α ds = .agg ds.toArray := by unfold mkV; rw [ha]; rfl
  rw [e1, e2, run_equalIn_agg w (d + (n + 1)) t _ _ (by rw [hfs]; exact hu) hp, hfs]
  exact hf w d hx hy⟩
variable {B0 : Nat} {A : Nat → Prop} {Ω : List Pe} {Γ : Env} {dst : Option Tmp} {ty : TypeId} {pos : String} {aft : Array Edge} {gd : Option (Nat × Bool)}
variable {α : Type} {i : Dat α} [DecidableEq α] {x y : Operand} {τ σ : Ty} {m k : α}
theorem OpY.neq_agg [Has Γ x τ] [hx : AsD τ α i m] [Has Γ y σ] [hy : AsD σ α i k] (E : EqN P t α i n) (hn : n < 10000) (hg : P.eqGuardType P.depth t = false) (ha : Dat.agg α = true) : OpY P B0 A Ω Γ ⟨dst, .binOp .neq t x y u, ty, pos, aft, gd⟩ (B (decide (m ≠ k))) :=
  OpY.val fun a w hl => by
    obtain ⟨cs, h1, h2⟩ := hx.le _ _ _ (Has.ev (x := x) (τ := τ) (op := .binOp .neq t x y u) (by simp [Op.operands]) hl)
    obtain ⟨ds, h3, h4⟩ := hy.le _ _ _ (Has.ev (x := y) (τ := σ) (op := .binOp .neq t x y u) (by simp [Op.operands]) hl)
    have e1 : mkV α cs = .agg cs.toArray := by unfold mkV; rw [ha]; rfl
    have e2 : mkV α ds = .agg ds.toArray := by unfold mkV; rw [ha]; rfl
    have h5 := E.h w (9999 - n) h1 h3
    rw [show 9999 - n + n + 1 = 10000 by omega, e1, e2] at h5
    refine ⟨.bool (decide (m ≠ k)), ?_, rfl⟩
    simp only [execOp, h2, h4, e1, e2, Sem.run_bind, run_eqGuard_agg w .neq t x y _ _ hg, Result.andThen_ok, run_neq_struct, h5, Sem.run_pure]
    by_cases h : m = k <;> simp [h]
theorem OpY.eql_agg [Has Γ x τ] [hx : AsD τ α i m] [Has Γ y σ] [hy : AsD σ α i k] (E : EqN P t α i n) (hn : n < 10000) (hg : P.eqGuardType P.depth t = false) (ha : Dat.agg α = true) : OpY P B0 A Ω Γ ⟨dst, .binOp .eql t x y u, ty, pos, aft, gd⟩ (B (decide (m = k))) :=
  OpY.val fun a w hl => by
    obtain ⟨cs, h1, h2⟩ := hx.le _ _ _ (Has.ev (x := x) (τ := τ) (op := .binOp .eql t x y u) (by simp [Op.operands]) hl)
    obtain ⟨ds, h3, h4⟩ := hy.le _ _ _ (Has.ev (x := y) (τ := σ) (op := .binOp .eql t x y u) (by simp [Op.operands]) hl)
    have e1 : mkV α cs = .agg cs.toArray := by unfold mkV; rw [ha]; rfl
    have e2 : mkV α ds = .agg ds.toArray := by unfold mkV; rw [ha]; rfl
    have h5 := E.h w (9999 - n) h1 h3
    rw [show 9999 - n + n + 1 = 10000 by omega, e1, e2] at h5
    refine ⟨.bool (decide (m = k)), ?_, rfl⟩
    simp only [execOp, h2, h4, e1, e2, Sem.run_bind, run_eqGuard_agg w .eql t x y _ _ hg, Result.andThen_ok, run_eql_struct, h5, Sem.run_pure]
end
end Go.Proofs.Ytpknphecmahkaaa.Tr
namespace Go.Proofs.Ytpknphecmahkaaa.Tr
open Go Go.RowKit
theorem bytes_get {l : List UInt8} {i : Nat} {v : UInt8} (h : l[i]? = some v) : (⟨l.toArray⟩ : ByteArray)[i]? = some v := by
  obtain ⟨h1, h2⟩ := List.getElem?_eq_some_iff.1 h
  have hs : i < (⟨l.toArray⟩ : ByteArray).size := by show i < l.toArray.size; simpa using h1
  rw [getElem?_pos (⟨l.toArray⟩ : ByteArray) i hs]
  refine congrArg some ?_
  show l.toArray[i] = v
  simpa using h2
section ops
variable {P : Program} {B0 : Nat} {A : Nat → Prop} {Ω : List Pe} {Γ : Env} {dst : Option Tmp} {ty : TypeId} {pos : String} {aft : Array Edge} {gd : Option (Nat × Bool)} {t e : TypeId} {x y : Operand} {τ σ : Ty}
theorem OpY.indexStr {l l' : List UInt8} {q : Int} {v : UInt8} [T : TStr P t] [Has Γ x τ] [hx : AsStr τ l'] [Has Γ y σ] [hy : AsIx σ q] (hl : l' = l) (h : idx l q = some v) : OpY P B0 A Ω Γ ⟨dst, .index t x y, ty, pos, aft, gd⟩ (D v) :=
  OpY.val fun a w hl2 => by
    subst hl
    have e1 : a.eval x = .string ⟨l'.toArray⟩ := hx.le _ _ _ (Has.ev (x := x) (τ := τ) (op := .index t x y) (by simp [Op.operands]) hl2)
    obtain ⟨kd, e2⟩ := hy.h (Has.ev (x := y) (τ := σ) (op := .index t x y) (by simp [Op.operands]) hl2)
    obtain ⟨h1, h2⟩ := idx_some h
    refine ⟨.int .u8 v.toNat, ?_, [_], rfl, rfl⟩
    simp only [execOp, e1, e2, Instr.index, asIntOf, Sem.run_bind, Sem.run_pure, Result.andThen_ok, run_underlying T.h, h1, if_true, bytes_get h2]
end ops
end Go.Proofs.Ytpknphecmahkaaa.Tr
namespace Go.Proofs.Ytpknphecmahkaaa.Tr
open Go
variable {P : Program} {B0 : Nat} {A : Nat → Prop} {Ω : List Pe} {Γ : Env} {dst : Option Tmp} {ty : TypeId} {pos : String} {aft : Array Edge} {gd : Option (Nat × Bool)}
class ExtCmp (P : Program) (f : FuncId) : Prop where
  h : ∀ args w, (callFunc f args).run P w = ((Extern.BytealgCompare.compare args).run P w).andThen fun v w' => .ok (.value v) w'
def cmpBytes : List UInt8 → List UInt8 → Int
  | [], [] => 0
  | [], _ :: _ => -1
  | _ :: _, [] => 1
  | a :: l1, b :: l2 => if a < b then -1 else if b < a then 1 else cmpBytes l1 l2
theorem cmpBytes_eq : ∀ a b : List UInt8, Lib.compareBytes a b = cmpBytes a b
  | [], [] => rfl
  | [], _ :: _ => rfl
  | _ :: _, [] => rfl
  | a :: l1, b :: l2 => by unfold Lib.compareBytes cmpBytes; rw [cmpBytes_eq l1 l2]
theorem cmpBytes_in : ∀ a b : List UInt8, cmpBytes a b = -1 ∨ cmpBytes a b = 0 ∨ cmpBytes a b = 1
  | [], [] => .inr (.inl rfl)
  | [], _ :: _ => .inl rfl
  | _ :: _, [] => .inr (.inr rfl)
  | a :: l1, b :: l2 => by
    unfold cmpBytes
    split
    · exact .inl rfl
    · split
      · exact .inr (.inr rfl)
      · exact cmpBytes_in l1 l2
theorem run_bytesOf {w : World} {v : Value} {l : List UInt8} (h : (D l).p A w v) : (Extern.Bytes.bytesOf v).run P w = .ok ⟨l.toArray⟩ w := by
  obtain ⟨ad, c, e, h1, h2, h3, h4⟩ := D_one rfl h
  obtain rfl := (List.cons.inj e).1
  cases l with
  | nil =>
    cases ad with
    | none => rfl
    | some ad => rfl
  | cons x xs =>
    obtain ⟨b, off, rfl, -⟩ := h4 0 (by simp)
    have hl := Lib.run_loadBytesX (P := P) w ((x :: xs).map fun y => (y.toNat : Int)) ⟨b, off, none⟩ .empty (fun j z hj => by
      rw [List.getElem?_map] at hj
      obtain ⟨y, hy, rfl⟩ := Option.map_eq_some_iff.1 hj
      obtain ⟨hjl, hy2⟩ := List.getElem?_eq_some_iff.1 hy
      obtain ⟨b', off', e', -, es, g1, g2⟩ := h4 j hjl
      obtain ⟨rfl, rfl, -⟩ := Addr.mk.inj (Option.some.inj e')
      have g2 : es = [Value.int .u8 ((x :: xs)[j].toNat : Int)] := g2
      subst g2
      have g3 := g1 0 (by simp)
      rw [hy2] at g3
      have e2 : (⟨b, off, none⟩ : Addr).add j = ⟨b, off + j, none⟩ := by unfold Addr.add; split <;> simp_all
      rw [e2]
      have : Dat.sz UInt8 = 1 := rfl
      rw [this, Nat.mul_one, Nat.add_zero] at g3
      exact g3)
    have hb : (⟨ByteArray.empty.data ++ (Lib.bytesOf ((x :: xs).map fun y => (y.toNat : Int))).toArray⟩ : ByteArray) = ⟨(x :: xs).toArray⟩ := by
      apply ByteArray.ext
      show (#[] : Array UInt8) ++ (Lib.bytesOf ((x :: xs).map fun y => (y.toNat : Int))).toArray = _
      rw [Array.empty_append]
      congr 1
      unfold Lib.bytesOf
      rw [List.map_map]
      rw [List.map_congr_left (g := fun y => y) (fun y _ => by show (y.toNat : Int).toNat.toUInt8 = y; rw [Int.toNat_natCast]; simp), List.map_id']
    rw [hb, List.length_map] at hl
    exact hl
theorem OpY.cmp {f : FuncId} {ts : Array TypeId} [F : ExtCmp P f] {x1 x2 : Operand} {τ1 τ2 : Ty} {l1 l2 : List UInt8} [h1 : Has Γ x1 τ1] [k1 : AsL τ1 UInt8 instDatUInt8 l1] [h2 : Has Γ x2 τ2] [k2 : AsL τ2 UInt8 instDatUInt8 l2] :
    OpY P B0 A Ω Γ ⟨dst, .call { callee := .value (.func f), args := #[x1, x2], argTypes := ts }, ty, pos, aft, gd⟩ (D (cmpBytes l1 l2 : Int)) := fun a w hB hu hp hl => by
  have g1 := k1.le _ _ _ (h1.le a A w fun t e => hl t (by simp [Op.operands, Call.operands, e]))
  have g2 := k2.le _ _ _ (h2.le a A w fun t e => hl t (by simp [Op.operands, Call.operands, e]))
  have hr : (Extern.BytealgCompare.compare #[a.eval x1, a.eval x2]).run P w = .ok (.int .i64 (cmpBytes l1 l2)) w := by
    change Sem.run P (do pure (goInt (Extern.BytealgCompare.cmp (← Extern.Bytes.bytesOf (a.eval x1)) (← Extern.Bytes.bytesOf (a.eval x2))))) w = _
    simp only [Sem.run_bind, run_bytesOf (P := P) g1, run_bytesOf (P := P) g2, Result.andThen_ok, Sem.run_pure]
    rw [Lib.cmp_eq, cmpBytes_eq]
    rfl
  have : (execOp a.eval ⟨dst, .call { callee := .value (.func f), args := #[x1, x2], argTypes := ts }, ty, pos, aft, gd⟩).run P w = .ok (.value (.int .i64 (cmpBytes l1 l2))) w := by
    have e1 : a.eval (.func f) = .func (.func f) #[] #[] := rfl
    simp only [execOp, resolve, Deferred.ofValue, e1, Sem.run_bind, Sem.run_pure, Result.andThen_ok, invoke, Array.append_empty, Array.empty_append]
    rw [show (#[x1, x2].map a.eval) = #[a.eval x1, a.eval x2] by simp, F.h, hr]
    rfl
  rw [this]
  have := cmpBytes_in l1 l2
  exact ⟨Grow.refl _ _, ⟨[.int .i64 (cmpBytes l1 l2)], ⟨rfl, by unfold intIn; omega⟩, rfl⟩⟩
section arr
variable {β : Type} {j : Dat β} {n : Nat} [hn : BoolIs (Nat.ble 1 n) true]
theorem vec_set {A : Nat → Prop} {w : World} {cs ds : List Value} {v : Vec β n} {k : Nat} {y : β} (hk : k < n) (h : Dat.rd A w cs v) (hd : Dat.rd A w ds y) : Dat.rd A w (setSeg cs (k * Dat.sz β) ds) (v.set k y) := by
  obtain ⟨g1, g3⟩ := h
  have hv := v.h
  have l2 := Dat.len hd
  have hkn : k * Dat.sz β + Dat.sz β ≤ n * Dat.sz β := by rw [← Nat.succ_mul]; exact Nat.mul_le_mul_right _ hk
  refine ⟨by rw [setSeg_length (by omega), g1], fun q hq => ?_⟩
  have hq' : q < v.l.length := by simpa [Vec.set] using hq
  by_cases hqk : q = k
  · subst hqk
    have e9 := seg_setSeg_same (cs := cs) (o := q * Dat.sz β) (vs := ds) (by omega)
    rw [l2] at e9
    rw [e9]
    simp only [Vec.set, List.getElem_set_self]; exact hd
  · rw [seg_setSeg_other (by omega) (by rw [g1, ← Nat.succ_mul]; exact Nat.mul_le_mul_right _ (by omega)) ?_]
    · simp only [Vec.set, List.getElem_set_ne (fun h => hqk h.symm)]; exact g3 q hq'
    · rcases Nat.lt_or_ge q k with h6 | h6
      · left; rw [← Nat.succ_mul]; exact Nat.mul_le_mul_right _ (by omega)
      · right; rw [l2, ← Nat.succ_mul]; exact Nat.mul_le_mul_right _ (by omega)
class HasPartsA (Γ : Env) (ps : List (Nat × Operand)) (β : Type) (j : Dat β) (n : Nat) [hn : BoolIs (Nat.ble 1 n) true] (x0 : Vec β n) (x : outParam (Vec β n)) : Prop where
  h : ∀ (a : Act) A w, (∀ k, .tmp k ∈ ps.map (·.2) → (Γ k).p A w (a.tmps.getD k undef)) → ∀ cs, Dat.rd A w cs x0 →
    ∃ cs', Instr.fill (fun i => some (i * Dat.sz β, Dat.sz β)) cs.toArray (ps.map fun p => (p.1, a.eval p.2)) = some cs'.toArray ∧ Dat.rd A w cs' x
instance {x : Vec β n} : HasPartsA Γ [] β j n x x := ⟨fun a A w _ cs h => ⟨cs, by simp [Instr.fill], h⟩⟩
instance {x0 x : Vec β n} {p : Operand} {f : Nat} {ps : List (Nat × Operand)} {τ : Ty} {y : β} [hf : BoolIs (Nat.ble n f) false] [hp : Has Γ p τ] [hy : ToD τ β j y] [r : HasPartsA Γ ps β j n (x0.set f y) x] :
    HasPartsA Γ ((f, p) :: ps) β j n x0 x := ⟨fun a A w ha cs hr => by
  obtain ⟨es, e1, e2⟩ := D_cells (hy.le _ _ _ (hp.le a A w fun k e => ha k (by simp [e])))
  have hfn : f < n := by
    have h := hf.h
    rcases Nat.lt_or_ge f n with h1 | h1
    · exact h1
    · rw [Nat.ble_eq_true_of_le h1] at h; cases h
  have l1 : es.length = Dat.sz β := Dat.len e2
  have l2 : cs.length = n * Dat.sz β := Dat.len hr
  have l3 : f * Dat.sz β + Dat.sz β ≤ n * Dat.sz β := by rw [← Nat.succ_mul]; exact Nat.mul_le_mul_right _ hfn
  obtain ⟨cs', r1, r2⟩ := r.h a A w (fun k hk => ha k (List.mem_cons_of_mem _ hk)) _ (vec_set hfn hr e2)
  refine ⟨cs', ?_, r2⟩
  simp only [List.map_cons, Instr.fill, e1]
  rw [if_neg (by simp [l1]; omega)]
  have h5 := foldl_setSeg es 0 (f * Dat.sz β) cs (by omega)
  simp only [Nat.add_zero] at h5
  rw [← r1]
  congr 1
  rw [← h5]; simp⟩
theorem OpY.buildArr {t e : TypeId} {parts : Array (Nat × Operand)} {ps : List (Nat × Operand)} {bt be : Nat} {x : Vec β n} (y : Vec β n) [T : TEl P t (Vec β n) instVec bt] [E : TEl P e β j be] (hps : parts = ps.toArray) (hu : P.underlying t = some (.array n e))
    [h : HasPartsA Γ ps β j n Dat.z x] (hxy : x = y) : OpY P B0 A Ω Γ ⟨dst, .build t parts, ty, pos, aft, gd⟩ (D y) := hxy ▸
  OpY.val fun a w hl => by
    subst hps
    obtain ⟨ti, z, i1, i2, i3, i4, i5⟩ := T.h
    obtain ⟨ei, ez, k1, k2, k3, k4, k5⟩ := E.h
    obtain ⟨cs', r1, r2⟩ := h.h a A w (fun k hk => hl k (by simp only [Op.operands]; simpa using hk)) _ Dat.zrd
    refine ⟨.agg cs'.toArray, ?_, cs', r2, by unfold mkV; rfl⟩
    have hb : P.built t ((ps.toArray.map fun (i, x) => (i, a.eval x)).toList) = some cs'.toArray := by
      unfold Program.built
      rw [i1, hu]
      simp only [i2, k1, i5, k3]
      simpa using r1
    simp only [execOp, Sem.run_bind, run_build w t _ cs'.toArray hb, Result.andThen_ok, Sem.run_pure]
end arr
end Go.Proofs.Ytpknphecmahkaaa.Tr
namespace Go.Proofs.Ytpknphecmahkaaa.Tr
open Go Go.RowKit
section
variable {P : Program} {t u : TypeId} {n : Nat}
theorem EqN.up {α : Type} {i : Dat α} [DecidableEq α] {m : Nat} (h : EqN P t α i n) (hm : n ≤ m) : EqN P t α i m := ⟨fun {A} w d {cs ds x y} hx hy => by
  have := h.h w (d + (m - n)) hx hy
  rw [show d + (m - n) + n + 1 = d + m + 1 by omega] at this; exact this⟩
def eqElems (d : Nat) (u : TypeId) (n : Nat) (xs ys : Array Value) : Nat → Nat → Sem Bool
  | _, 0 => pure true
  | i, k + 1 => do if !(← Op.equalIn d u (← part u xs (i * n)) (← part u ys (i * n))) then pure false else eqElems d u n xs ys (i + 1) k
theorem run_equalIn_array {w : World} {d len : Nat} {xs ys : Array Value} (ht : P.underlying t = some (.array len u)) {m : Nat} (hm : ∀ w, (sizeOf u).run P w = .ok m w) :
    (Op.equalIn (d + 1) t (.agg xs) (.agg ys)).run P w = (eqElems d u m xs ys 0 len).run P w := by
  simp only [Op.equalIn, Sem.run_bind, run_underlying ht, Result.andThen_ok, hm]
  rw [Std.Legacy.Range.forIn_eq_forIn_range']
  simp only [Std.Legacy.Range.size, Nat.sub_zero, Nat.add_sub_cancel, Nat.div_one]
  clear ht hm
  generalize (0 : Nat) = i
  induction len generalizing i w with
  | zero => simp [eqElems]
  | succ k ih =>
    rw [List.range'_succ]
    simp only [List.forIn_cons, eqElems, Sem.run_bind]
    generalize (part u xs (i * m)).run P w = r1
    cases r1 with
    | ok a w1 =>
      simp only [Result.andThen_ok]
      generalize (part u ys (i * m)).run P w1 = r2
      cases r2 with
      | ok b w2 =>
        simp only [Result.andThen_ok]
        generalize (Op.equalIn d u a b).run P w2 = r3
        cases r3 with
        | ok r w3 =>
          cases r
          · simp only [Result.andThen_ok, Bool.not_false, if_true, Sem.run_pure]
          · simp only [Result.andThen_ok, Bool.not_true, Bool.false_eq_true, if_false, Sem.run_pure]
            exact ih (i + 1)
        | halt x w3 => simp [Result.andThen]
      | halt x w2 => simp [Result.andThen]
    | halt x w1 => simp [Result.andThen]
theorem EqN.vec {β : Type} {j : Dat β} [DecidableEq β] {len : Nat} [hn : BoolIs (Nat.ble 1 len) true] (hu : P.underlying t = some (.array len u)) [T : TDat P u β j] (E : EqN P u β j n) : EqN P t (Vec β len) instVec (n + 1) := ⟨fun {A} w d {cs ds x y} hx hy => by
  have e1 : mkV (Vec β len) cs = .agg cs.toArray := rfl
  have e2 : mkV (Vec β len) ds = .agg ds.toArray := rfl
  rw [e1, e2, show d + (n + 1) + 1 = (d + n + 1) + 1 by omega, run_equalIn_array hu T.sz]
  obtain ⟨x1, x2⟩ := hx
  obtain ⟨y1, y2⟩ := hy
  have hxl := x.h
  have hyl := y.h
  have key : ∀ (k i : Nat), i + k = len → (eqElems (d + n + 1) u (Dat.sz β) cs.toArray ds.toArray i k).run P w = .ok (decide (x.l.drop i = y.l.drop i)) w := by
    intro k
    induction k with
    | zero =>
      intro i hi
      rw [List.drop_of_length_le (by omega), List.drop_of_length_le (by omega)]
      simp [eqElems]
    | succ k ih =>
      intro i hi
      have hix : i < x.l.length := by omega
      have hiy : i < y.l.length := by omega
      have hb : i * Dat.sz β + Dat.sz β ≤ len * Dat.sz β := by rw [← Nat.succ_mul]; exact Nat.mul_le_mul_right _ (by omega)
      simp only [eqElems, Sem.run_bind, run_part (P := P) (u := u) (x2 i hix) (by omega), run_part (P := P) (u := u) (y2 i hiy) (by omega), Result.andThen_ok, E.h w d (x2 i hix) (y2 i hiy)]
      rw [List.drop_eq_getElem_cons hix, List.drop_eq_getElem_cons hiy]
      by_cases h : x.l[i] = y.l[i]
      · simp only [h, decide_true, Bool.not_true, Bool.false_eq_true, if_false, ih (i + 1) (by omega), List.cons.injEq, true_and]
      · simp only [h, decide_false, Bool.not_false, if_true, Sem.run_pure, List.cons.injEq, false_and]
  rw [key len 0 (by omega), List.drop_zero, List.drop_zero]
  congr 1
  rw [decide_eq_decide]
  exact ⟨fun h => Vec.ext h, fun h => by rw [h]⟩⟩
end
section
variable {P : Program} {B : Nat} {Ωs Ω Ωt Ωr : List Pe} {Γ : Env} {dst : Option Tmp} {ty : TypeId} {pos : String} {aft : Array Edge}
variable {f : FuncId} {ts : Array TypeId} {ν : Type} {τ : ν → Ty} {Ω' : ν → List Pe}
theorem OpT.callO6 {x1 : Operand} {τ1 : Ty} [h1 : Has Γ x1 τ1] {x2 : Operand} {τ2 : Ty} [h2 : Has Γ x2 τ2] {x3 : Operand} {τ3 : Ty} [h3 : Has Γ x3 τ3] {x4 : Operand} {τ4 : Ty} [h4 : Has Γ x4 τ4] {x5 : Operand} {τ5 : Ty} [h5 : Has Γ x5 τ5] {x6 : Operand} {τ6 : Ty} [h6 : Has Γ x6 τ6] [F : Fun P f] (bs : List Nat) [sp : Sel2 Ω bs Ωt Ωr]
    (h : ∀ {A : Nat → Prop} w v1 v2 v3 v4 v5 v6, (∀ k, w.heap.size ≤ k → A k) → OwnIn A Ωt → Apart Ωt → Pks (Pub A Ωt) Ωt w → τ1.p (Pub A Ωt) w v1 → τ2.p (Pub A Ωt) w v2 → τ3.p (Pub A Ωt) w v3 → τ4.p (Pub A Ωt) w v4 → τ5.p (Pub A Ωt) w v5 → τ6.p (Pub A Ωt) w v6 → Calls P f #[v1, v2, v3, v4, v5, v6] w (RetO A w Ωt τ Ω')) :
    OpT P B Ωs Ω Γ ⟨dst, .call { callee := .value (.func f), args := #[x1, x2, x3, x4, x5, x6], argTypes := ts }, ty, pos, aft, none⟩ τ fun g => Ω' g ++ Ωr :=
  OpT.callON sp.perm fun A a w hu ho ha hk hl => by
    rw [show (#[x1, x2, x3, x4, x5, x6].map a.eval) = #[a.eval x1, a.eval x2, a.eval x3, a.eval x4, a.eval x5, a.eval x6] by simp]
    exact h w _ _ _ _ _ _ hu ho ha hk (h1.le a _ w fun t e => hl t (by simp [e])) (h2.le a _ w fun t e => hl t (by simp [e])) (h3.le a _ w fun t e => hl t (by simp [e])) (h4.le a _ w fun t e => hl t (by simp [e])) (h5.le a _ w fun t e => hl t (by simp [e])) (h6.le a _ w fun t e => hl t (by simp [e]))
end
end Go.Proofs.Ytpknphecmahkaaa.Tr
namespace Go.Proofs.Ytpknphecmahkaaa.Tr
open Go Go.RowKit
set_option maxRecDepth 10000
structure Prefix where
  Bits : Int
  Len : Int
  Key : (Vec UInt8 16)
def Prefix_to : Prefix → (Int × (Int × (Vec UInt8 16))) := fun x => (x.Bits, x.Len, x.Key)
def Prefix_of : (Int × (Int × (Vec UInt8 16))) → Prefix := fun p => ⟨p.1, p.2.1, p.2.2⟩
instance Prefix_dat : Dat Prefix := Dat.iso Prefix_to Prefix_of (fun _ => rfl)
instance : Inhabited Prefix := ⟨Prefix_of default⟩
theorem Prefix_inj {x y : Prefix} (h : Prefix_to x = Prefix_to y) : x = y := by have e := congrArg Prefix_of h; exact e
instance : DecidableEq Prefix := fun x y => if h : Prefix_to x = Prefix_to y then isTrue (Prefix_inj h) else isFalse fun e => h (by rw [e])
instance : Flat Prefix Prefix_dat := Flat.iso (h := fun _ => rfl) inferInstance
instance : Fld Prefix Prefix_dat 0 Int inferInstance Prefix.Bits (fun y x => ⟨y, x.Len, x.Key⟩) := Fld.iso (f := Prefix_to) (g := Prefix_of) (h := fun _ => rfl) (Fld.fst (α := Int) (β := (Int × (Vec UInt8 16))))
instance : Fld Prefix Prefix_dat 1 Int inferInstance Prefix.Len (fun y x => ⟨x.Bits, y, x.Key⟩) := Fld.iso (f := Prefix_to) (g := Prefix_of) (h := fun _ => rfl) (Fld.next (α := Int) (β := (Int × (Vec UInt8 16))) (Fld.fst (α := Int) (β := (Vec UInt8 16))))
instance : Fld Prefix Prefix_dat 2 (Vec UInt8 16) inferInstance Prefix.Key (fun y x => ⟨x.Bits, x.Len, y⟩) := Fld.iso (f := Prefix_to) (g := Prefix_of) (h := fun _ => rfl) (Fld.next (α := Int) (β := (Int × (Vec UInt8 16))) (Fld.snd (α := Int) (β := (Vec UInt8 16))))
end Go.Proofs.Ytpknphecmahkaaa.Tr
namespace Go.Proofs.Ytpknphecmahkaaa.Tr
open Go
set_option maxRecDepth 100000
theorem mix : Try.prog.follows .mixedOrders = true := by kernel_rfl
instance : TIn Try.prog 3 .i64 := ⟨Try.underlying3⟩
instance : TEl Try.prog 3 Int inferInstance 8 := ⟨⟨Try.isAgg3, Try.sizeOf3⟩, Try.t3, _, Try.type3, rfl, rfl, rfl, rfl⟩
instance : TIn Try.prog 5 .u8 := ⟨Try.underlying5⟩
instance : TEl Try.prog 5 UInt8 inferInstance 1 := ⟨⟨Try.isAgg5, Try.sizeOf5⟩, Try.t5, _, Try.type5, rfl, rfl, rfl, rfl⟩
instance : TStr Try.prog 9 := ⟨Try.underlying9⟩
instance : TAr Try.prog 23 16 5 := ⟨Try.underlying23⟩
instance : TEl Try.prog 23 (Vec UInt8 16) inferInstance 16 := ⟨⟨Try.isAgg23, Try.sizeOf23⟩, Try.t23, _, Try.type23, rfl, rfl, rfl, rfl⟩
instance : TFld Try.prog 25 0 3 0 := ⟨_, _, Try.underlying25, rfl, rfl, rfl⟩
instance : TFld Try.prog 25 1 3 1 := ⟨_, _, Try.underlying25, rfl, rfl, rfl⟩
instance : TFld Try.prog 25 2 23 2 := ⟨_, _, Try.underlying25, rfl, rfl, rfl⟩
instance : TEl Try.prog 25 Prefix inferInstance 32 := ⟨⟨Try.isAgg25, Try.sizeOf25⟩, Try.t25, _, Try.type25, rfl, rfl, rfl, rfl⟩
instance : TSl Try.prog 26 25 := ⟨Try.underlying26⟩
instance : TIn Try.prog 47 .u64 := ⟨Try.underlying47⟩
instance : TSl Try.prog 64 5 := ⟨Try.underlying64⟩
instance : TIn Try.prog 80 .u32 := ⟨Try.underlying80⟩
instance : TIn Try.prog 82 .u64 := ⟨Try.underlying82⟩
instance : TIn Try.prog 83 .u64 := ⟨Try.underlying83⟩
instance : TEl Try.prog 83 UInt64 inferInstance 8 := ⟨⟨Try.isAgg83, Try.sizeOf83⟩, Try.t83, _, Try.type83, rfl, rfl, rfl, rfl⟩
theorem EqV_23 : EqN Try.prog 23 (Vec UInt8 16) inferInstance 1 := EqN.vec Try.underlying23 (EqN.u8 (n := 0) Try.underlying5)
theorem EqG_23 : Try.prog.eqGuardType Try.prog.depth 23 = false := by decide +kernel
theorem EqV_25 : EqN Try.prog 25 Prefix inferInstance 2 := EqN.struct Try.underlying25 (by decide +kernel) rfl fun {A} w d {cs ds x y} hx hy => by
  have h1 : cs.length = Dat.sz Prefix := Dat.len hx
  have h2 : ds.length = Dat.sz Prefix := Dat.len hy
  refine Eq.trans (b := .ok (decide (x.Bits = y.Bits) && (decide (x.Len = y.Len) && (decide (x.Key = y.Key) && true))) w) ?_ ?_
  · exact (eqF_cons (n := 1) (A := A) (off := 0) (β := Int) (a := x.Bits) (b := y.Bits) (by decide) rfl rfl (EqN.up (EqN.i64 (n := 0) Try.underlying3) (by decide)) (by rw [h1]; decide) (by rw [h2]; decide) (Fld.rd (α := Prefix) (off := 0) hx) (Fld.rd (α := Prefix) (off := 0) hy) (eqF_cons (n := 1) (A := A) (off := 1) (β := Int) (a := x.Len) (b := y.Len) (by decide) rfl rfl (EqN.up (EqN.i64 (n := 0) Try.underlying3) (by decide)) (by rw [h1]; decide) (by rw [h2]; decide) (Fld.rd (α := Prefix) (off := 1) hx) (Fld.rd (α := Prefix) (off := 1) hy) (eqF_cons (n := 1) (A := A) (off := 2) (β := (Vec UInt8 16)) (a := x.Key) (b := y.Key) (by decide) rfl rfl (EqN.up EqV_23 (by decide)) (by rw [h1]; decide) (by rw [h2]; decide) (Fld.rd (α := Prefix) (off := 2) hx) (Fld.rd (α := Prefix) (off := 2) hy) eqF_nil)))
  congr 1
  cases x; cases y
  rw [Bool.eq_iff_iff]; simp
theorem EqG_25 : Try.prog.eqGuardType Try.prog.depth 25 = false := by decide +kernel
instance : Fun Try.prog 7 := ⟨Try.call7⟩
instance : Fun Try.prog 8 := ⟨Try.call8⟩
instance : Fun Try.prog 9 := ⟨Try.call9⟩
instance : Fun Try.prog 10 := ⟨Try.call10⟩
instance : Fun Try.prog 11 := ⟨Try.call11⟩
instance : Fun Try.prog 12 := ⟨Try.call12⟩
instance : Fun Try.prog 13 := ⟨Try.call13⟩
instance : Fun Try.prog 21 := ⟨Try.call21⟩
instance : Fun Try.prog 23 := ⟨Try.call23⟩
instance : Fun Try.prog 26 := ⟨Try.call26⟩
instance : Fun Try.prog 27 := ⟨Try.call27⟩
instance : Fun Try.prog 28 := ⟨Try.call28⟩
instance : Fun Try.prog 29 := ⟨Try.call29⟩
instance : Fun Try.prog 30 := ⟨Try.call30⟩
instance : Fun Try.prog 31 := ⟨Try.call31⟩
instance : Fun Try.prog 32 := ⟨Try.call32⟩
instance : Fun Try.prog 33 := ⟨Try.call33⟩
instance : Fun Try.prog 34 := ⟨Try.call34⟩
instance : Fun Try.prog 39 := ⟨Try.call39⟩
instance : Fun Try.prog 40 := ⟨Try.call40⟩
instance : Fun Try.prog 41 := ⟨Try.call41⟩
instance : Fun Try.prog 42 := ⟨Try.call42⟩
instance : Fun Try.prog 43 := ⟨Try.call43⟩
instance : Fun Try.prog 44 := ⟨Try.call44⟩
instance : Fun Try.prog 45 := ⟨Try.call45⟩
instance : Fun Try.prog 46 := ⟨Try.call46⟩
instance : Fun Try.prog 48 := ⟨Try.call48⟩
instance : Fun Try.prog 50 := ⟨Try.call50⟩
instance : Fun Try.prog 51 := ⟨Try.call51⟩
instance : Fun Try.prog 52 := ⟨Try.call52⟩
instance : Fun Try.prog 53 := ⟨Try.call53⟩
instance : Fun Try.prog 54 := ⟨Try.call54⟩
instance : Fun Try.prog 55 := ⟨Try.call55⟩
instance : Fun Try.prog 56 := ⟨Try.call56⟩
instance : Fun Try.prog 57 := ⟨Try.call57⟩
instance : Fun Try.prog 58 := ⟨Try.call58⟩
instance : Fun Try.prog 59 := ⟨Try.call59⟩
instance : Fun Try.prog 60 := ⟨Try.call60⟩
instance : Fun Try.prog 61 := ⟨Try.call61⟩
instance : Fun Try.prog 62 := ⟨Try.call62⟩
instance : Fun Try.prog 63 := ⟨Try.call63⟩
instance : Fun Try.prog 64 := ⟨Try.call64⟩
instance : Fun Try.prog 65 := ⟨Try.call65⟩
instance : Fun Try.prog 66 := ⟨Try.call66⟩
instance : Fun Try.prog 67 := ⟨Try.call67⟩
instance : ExtCmp Try.prog 49 := ⟨fun args w => run_callFunc_extern Try.func49 (by kernel_rfl) (by kernel_rfl) (by kernel_rfl) (by kernel_rfl) args w⟩
end Go.Proofs.Ytpknphecmahkaaa.Tr
namespace Go.Proofs.Ytpknphecmahkaaa.Tr
open Go Go.RowKit Go.ChangeShapes Go.WideShapes Go.ChangeAt
class TOpen (P : Program) (t : TypeId) (α : outParam Type) (i : outParam (Dat α)) : Prop where
  h : ∀ {H : Type} {enc : TypeId × Value → H} {W : World} {base : Nat} {sp : Nat → Bool} {held : Bool} {fuel : Nat} {cs : List Value} {d : DataW H} {ps : List MemPlace},
    DataW.trod enc P W base sp held fuel t cs = some (d, ps) → (∀ n ∈ d.weights P t, n ≤ reachBytes) → ∃ x : α, Dat.rd (fun _ => True) W cs x
  s : ∀ {W : World} {base : Nat} {v : Value}, Value.okWide P W .any base t v → v = mkV α v.cells.toList
theorem wf_u8 {n : Int} (h : (Lit.int .u8 n).wf = true) : 0 ≤ n ∧ n < 256 := by
  simp [Lit.wf, IntKind.bits, IntKind.signed, IntKind.min, IntKind.max] at h
  omega
theorem wf_i64 {n : Int} (h : (Lit.int .i64 n).wf = true) : intIn n := by
  simp [Lit.wf, IntKind.bits, IntKind.signed, IntKind.min, IntKind.max] at h
  unfold intIn
  omega
theorem topen_i64 {P : Program} {t : TypeId} (ht : P.underlying t = some (.int .i64)) : TOpen P t Int inferInstance where
  h hd _ := by
    obtain ⟨n, rfl, -, hw⟩ := DataW.trod_int ht hd
    exact ⟨n, rfl, wf_i64 hw⟩
  s hv := by obtain ⟨n, rfl⟩ := okWide_int ht hv; rfl
theorem topen_u8 {P : Program} {t : TypeId} (ht : P.underlying t = some (.int .u8)) : TOpen P t UInt8 inferInstance where
  h hd _ := by
    obtain ⟨n, rfl, -, hw⟩ := DataW.trod_int ht hd
    have := wf_u8 hw
    refine ⟨UInt8.ofNat n.toNat, ?_⟩
    show [Value.int .u8 n] = [.int .u8 _]
    rw [UInt8.toNat_ofNat_of_lt' (by show n.toNat < 256; omega), Int.toNat_of_nonneg this.1]
  s hv := by obtain ⟨n, rfl⟩ := okWide_int ht hv; rfl
theorem weightsAll_mem {H : Type} {P : Program} {e : TypeId} {d : DataW H} {n : Nat} (hn : n ∈ d.weights P e) : ∀ {l : List (DataW H)}, d ∈ l → n ∈ DataW.weightsAll P e l
  | [], h => by cases h
  | x :: r, h => by
    simp only [DataW.weightsAll, List.mem_append]
    rcases List.mem_cons.1 h with rfl | h
    · exact .inl hn
    · exact .inr (weightsAll_mem hn h)
theorem weightsEach_mem {H : Type} {P : Program} : ∀ {ts : List TypeId} {ds : List (DataW H)} {j : Nat} {t : TypeId} {d : DataW H} {n : Nat}, ts[j]? = some t → ds[j]? = some d → n ∈ d.weights P t → n ∈ DataW.weightsEach P ts ds
  | [], _, _, _, _, _, h, _, _ => by simp at h
  | _ :: _, [], _, _, _, _, _, h, _ => by simp at h
  | t :: ts, d :: ds, 0, _, _, n, h1, h2, h3 => by
    obtain rfl : t = _ := by simpa using h1
    obtain rfl : d = _ := by simpa using h2
    simp only [DataW.weightsEach, List.mem_append]; exact .inl h3
  | t :: ts, d :: ds, j + 1, _, _, n, h1, h2, h3 => by
    simp only [DataW.weightsEach, List.mem_append]; exact .inr (weightsEach_mem (j := j) (by simpa using h1) (by simpa using h2) h3)
class TOpF (P : Program) (fs : List Field) (o : Nat) (α : Type) (i : Dat α) : Prop where
  h : ∀ {H : Type} {enc : TypeId × Value → H} {W : World} {base : Nat} {sp : Nat → Bool} {held : Bool} {fuel : Nat} {cs : List Value} {xs : List (DataW H × List MemPlace)},
    cs.length = o + Dat.sz α → (∀ (j : Nat) (f : Field), fs[j]? = some f → DataW.trod enc P W base sp held fuel f.type ((cs.drop f.offset).take (P.cellsOf f.type)) = xs[j]?) →
    xs.length = fs.length → (∀ n ∈ DataW.weightsEach P (fs.map (·.type)) (xs.map (·.1)), n ≤ reachBytes) → ∃ x : α, Dat.rd (fun _ => True) W (cs.drop o) x
theorem topf_one {P : Program} {f : Field} {α : Type} {i : Dat α} {o : Nat} {t : TypeId} (k : TOpen P t α i) (hc : P.cellsOf t = Dat.sz α) (ht : f.type = t) (ho : f.offset = o) : TOpF P [f] o α i where
  h {H enc W base sp held fuel cs xs} hl hx hn hw := by
    subst ht
    match xs, hn with
    | [x], _ =>
      have h0 := hx 0 f rfl
      rw [hc, ho] at h0
      have e : (cs.drop o).take (Dat.sz α) = cs.drop o := List.take_of_length_le (by rw [List.length_drop, hl]; omega)
      rw [e] at h0
      exact k.h h0 fun n hn => hw n (weightsEach_mem (j := 0) rfl rfl hn)
theorem topf_cons {P : Program} {f : Field} {fs : List Field} {α β : Type} {i : Dat α} {j : Dat β} {o o' : Nat} {t : TypeId} (k : TOpen P t α i) (hc : P.cellsOf t = Dat.sz α) (ht : f.type = t) (ho : f.offset = o) (ho' : o' = o + Dat.sz α) (r : TOpF P fs o' β j) : TOpF P (f :: fs) o (α × β) instProd where
  h {H enc W base sp held fuel cs xs} hl hx hn hw := by
    subst ht
    subst ho'
    match xs, hn with
    | x :: xs', hn =>
      have h0 := hx 0 f rfl
      rw [hc, ho] at h0
      obtain ⟨a, ha⟩ := k.h h0 fun n hn => hw n (weightsEach_mem (j := 0) rfl rfl hn)
      have hl' : cs.length = o + Dat.sz α + Dat.sz β := by
        have : Dat.sz (α × β) = Dat.sz α + Dat.sz β := rfl
        omega
      obtain ⟨b, hb⟩ := r.h hl' (fun q g hg => hx (q + 1) g hg) (by simpa using hn) fun n hn => hw n (by
        simp only [List.map_cons, DataW.weightsEach, List.mem_append]; exact .inr hn)
      refine ⟨(a, b), ?_, ?_, ?_⟩
      · rw [List.length_drop, hl']; omega
      · show Dat.rd _ W (seg (cs.drop o) 0 (Dat.sz α)) a
        simpa [seg] using ha
      · show Dat.rd _ W (seg (cs.drop o) (Dat.sz α) (Dat.sz β)) b
        have e : seg (cs.drop o) (Dat.sz α) (Dat.sz β) = cs.drop (o + Dat.sz α) := by
          simp only [seg, List.drop_drop]
          exact List.take_of_length_le (by rw [List.length_drop, hl']; omega)
        rw [e]; exact hb
theorem topen_struct {P : Program} {t : TypeId} {fs : Array Field} {α : Type} {i : Dat α} {β : Type} {j : Dat β} (f : α → β) (g : β → α) (hfg : ∀ y, f (g y) = y) (hi : i = Dat.iso f g hfg) (ht : P.underlying t = some (.struct fs)) (ha : Dat.agg β = true) (hc : P.cellsOf t = Dat.sz β) (k : TOpF P fs.toList 0 β j) : TOpen P t α i where
  h {H enc W base sp held fuel cs d ps} hd hw := by
    obtain ⟨xs, n, rfl, hx, hl, hn, hel⟩ := DataW.trod_struct ht hd
    injection hx with hx1 hx2
    subst hx1
    obtain ⟨y, hy⟩ := k.h (by rw [hl, hc]; omega) (fun q f hf => hel q f (by simpa using hf)) (by simpa using hn) (fun n hn => hw n (by simp only [DataW.weights, ht]; exact hn))
    subst hi
    refine ⟨g y, ?_⟩
    show Dat.rd _ W cs (f (g y))
    rw [hfg]
    simpa using hy
  s {W base v} hv := by
    simp only [Value.okWide, ht] at hv
    obtain ⟨cs, rfl, -⟩ := hv
    subst hi
    show _ = @mkV α (Dat.iso f g hfg) _
    have : @Dat.agg α (Dat.iso f g hfg) = true := ha
    simp [mkV, this, Value.cells]
theorem topen_vec {P : Program} {t e : TypeId} {n : Nat} {α : Type} {i : Dat α} [hn : BoolIs (Nat.ble 1 n) true] (ht : P.underlying t = some (.array n e)) (hc : P.cellsOf e = Dat.sz α) (hct : P.cellsOf t = n * Dat.sz α) [k : TOpen P e α i] : TOpen P t (Vec α n) instVec where
  h {H enc W base sp held fuel cs d ps} hd hw := by
    obtain ⟨xs, m, rfl, hx, hl, hm, hel⟩ := DataW.trod_array ht hd
    injection hx with hx1 hx2
    subst hx1
    have hx : ∀ q : Fin n, ∃ x : α, Dat.rd (fun _ => True) W (seg cs (q.1 * Dat.sz α) (Dat.sz α)) x := fun q => by
      have h1 := hel q.1 q.2
      rw [hc, List.getElem?_eq_getElem (by rw [hm]; exact q.2)] at h1
      refine k.h h1 fun w hwn => hw w ?_
      simp only [DataW.weights, ht]
      exact weightsAll_mem hwn (List.mem_map.2 ⟨_, List.getElem_mem _, rfl⟩)
    refine ⟨⟨List.ofFn fun q => Classical.choose (hx q), by simp⟩, by rw [hl, hct], fun q hq => ?_⟩
    have hq' : q < n := by simpa using hq
    have := Classical.choose_spec (hx ⟨q, hq'⟩)
    simpa using this
  s {W base v} hv := by
    simp only [Value.okWide, ht] at hv
    obtain ⟨cs, rfl, -⟩ := hv
    rfl
theorem top_open {P : Program} {t : TypeId} {α : Type} {i : Dat α} [k : TOpen P t α i] {H : Type} {enc : TypeId × Value → H} {W : World} {base b0 : Nat} {sp : Nat → Bool} {held : Bool} {v : Value} {d : DataW H} {ps : List MemPlace}
    (h : DataW.Trod enc P W base sp held t v d ps) (hv : Value.okWide P W .any b0 t v) (hw : ∀ n ∈ d.weights P t, n ≤ reachBytes) : ∃ x : α, (D x).p (fun _ => True) W v := by
  obtain ⟨fuel, hf⟩ := h
  obtain ⟨x, hx⟩ := k.h hf hw
  exact ⟨x, _, hx, k.s hv⟩
theorem trodAll_stays {H : Type} {enc : TypeId × Value → H} {P : Program} (hl : laidOutB P = true) {W W' : World} (hb : Below W.heap.size W W') : ∀ {ts : List TypeId} {vs : List Value} {ds : List (DataW H)} {ps : List MemPlace},
    (∀ t ∈ ts, P.readableRec t = true ∧ t < P.types.size) → DataW.TrodAll enc P W 0 (fun _ => true) true ts vs ds ps → DataW.TrodAll enc P W' 0 (fun b => decide (b < W.heap.size)) true ts vs ds ps
  | [], vs, ds, ps, _, h => by obtain ⟨rfl, rfl, rfl⟩ := trodAll_nil h; exact trodAll_mk0
  | t :: ts, vs, ds, ps, hr, h => by
    obtain ⟨v, vs', d, ds', p, q, rfl, rfl, rfl, h1, h2⟩ := trodAll_cons h
    have hlt : ∀ x ∈ p, x.block < W.heap.size := by obtain ⟨m, hm⟩ := h1; exact DataW.trod_lt m _ _ _ hm
    exact trodAll_cons_mk (Below.trod hl (hr t (List.mem_cons_self ..)).1 (hr t (List.mem_cons_self ..)).2 h1 hb hlt) (trodAll_stays hl hb (fun u hu => hr u (List.mem_cons_of_mem _ hu)) h2)
theorem law_post {H : Type} {enc : TypeId × Value → H} {P : Program} {f : Func} {s : ChangeSpec} {tb : TypeId} (hl : laidOutB P = true) (hb : P.underlying tb = some .bool) (hres : f.resultTypes = #[tb]) (hvars : s.vars = [])
    (hr : ∀ t ∈ f.params.toList, P.readableRec t = true ∧ t < P.types.size) {W W' : World} {args : Array Value} {ds gs : List (DataW H)} {before : List MemPlace} {e : Ending}
    (hs : s.fn H ds = { results := [.lit (.bool true)], args := ds })
    (hW : DataW.Whole enc P f.params.toList s.vars false W args.toList ds gs before) (h : Ret (fun _ => True) W (D true) e W') : ∃ v, e = .returned v ∧ s.post enc P f false true false false W args v W' := by
  obtain ⟨v, rfl, hg, hv⟩ := h
  obtain rfl : v = .bool true := by
    have := D_one rfl hv
    simpa [Dat.rd] using this
  have hW' := hW
  obtain ⟨p, q, hA, hV, rfl, -, -⟩ := hW
  rw [hvars] at hV
  obtain ⟨rfl, rfl⟩ := trodVars_none hV
  refine ⟨_, rfl, ds, [], p ++ [], [], p, [], hW', ?_, ?_, ?_, hg.below.frame _, fun h => by cases h⟩
  · rw [List.append_nil, hs, hres]
    exact trodAll_mk1 (shut_bool hb _)
  · rw [List.append_nil, hs]
    exact trodAll_stays hl hg.below hr hA
  · rw [List.append_nil, hs, hvars]
    rfl
end Go.Proofs.Ytpknphecmahkaaa.Tr
namespace Go.Proofs.Ytpknphecmahkaaa.Tr
open Go
theorem loopO_iter {σ ε : Type} {f : σ → Option (σ ⊕ ε)} (g : Nat → σ) (n : Nat) {e : ε} (hn : n < 18446744073709551616) (h : ∀ i, i < n → f (g i) = some (.inl (g (i + 1)))) (he : f (g n) = some (.inr e)) {s : σ} (hs : s = g 0) : loopO f s = some e := by
  have key : ∀ k i, i + k = n → loopN f (k + 1) (g i) = some e := by
    intro k
    induction k with
    | zero => intro i hi; obtain rfl : i = n := by omega
              exact loopN_done he
    | succ k ih => intro i hi; rw [loopN_next (h i (by omega))]; exact ih (i + 1) (by omega)
  subst hs
  exact loopO_of (n + 1) (by omega) (key n 0 (by omega))
theorem loopO_find {σ ε : Type} {f : σ → Option (σ ⊕ ε)} (g : Nat → σ) (n : Nat) (p : Nat → Bool) (x : Nat → ε) {y : ε} (hn : n < 18446744073709551616)
    (h : ∀ i, i < n → p i = false → f (g i) = some (.inl (g (i + 1)))) (hx : ∀ i, i < n → p i = true → f (g i) = some (.inr (x i))) (he : f (g n) = some (.inr y)) {s : σ} (hs : s = g 0) :
    (∃ i, i < n ∧ p i = true ∧ (∀ j, j < i → p j = false) ∧ loopO f s = some (x i)) ∨ ((∀ j, j < n → p j = false) ∧ loopO f s = some y) := by
  by_cases hex : ∃ i, i < n ∧ p i = true
  · left
    have key : ∀ m, (∃ i, i < m ∧ i < n ∧ p i = true) → ∃ i, i < n ∧ p i = true ∧ ∀ j, j < i → p j = false := by
      intro m
      induction m with
      | zero => rintro ⟨i, h, _⟩; omega
      | succ m ih =>
        rintro ⟨i, h1, h2, h3⟩
        by_cases hs : ∃ i, i < m ∧ i < n ∧ p i = true
        · exact ih hs
        · refine ⟨i, h2, h3, fun j hj => ?_⟩
          cases hp : p j with
          | false => rfl
          | true => exact absurd ⟨j, by omega, by omega, hp⟩ hs
    obtain ⟨i0, h0, h1⟩ := hex
    obtain ⟨i, h1, h2, h3⟩ := key (i0 + 1) ⟨i0, by omega, h0, h1⟩
    exact ⟨i, h1, h2, h3, loopO_iter g i (by omega) (fun j hj => h j (by omega) (h3 j hj)) (hx i h1 h2) hs⟩
  · right
    have hall : ∀ j, j < n → p j = false := fun j hj => by
      cases hp : p j with
      | false => rfl
      | true => exact absurd ⟨j, hj, hp⟩ hex
    exact ⟨hall, loopO_iter g n hn (fun j hj => h j hj (hall j hj)) he hs⟩
theorem lt_t {i n : Nat} (h : i < n) : decide ((i : Int) < (n : Int)) = true := by simpa using h
theorem lt_f {n : Nat} : decide ((n : Int) < (n : Int)) = false := by simp
theorem addI_1 {i : Nat} (h : i < 9223372036854775807) : addI (i : Int) 1 = some (((i + 1 : Nat)) : Int) := addI_nat h
theorem cond_true {α : Type} {b : Bool} {x y : α} (h : b = true) : (bif b then x else y) = x := by rw [h, cond_t]
theorem cond_false {α : Type} {b : Bool} {x y : α} (h : b = false) : (bif b then x else y) = y := by rw [h, cond_f]
theorem bind_of {α β : Type} {x : Option α} {a : α} {f : α → Option β} (h : x = some a) : x.bind f = f a := by rw [h, bind_s]
theorem gb_of2 {α : Type} [Inhabited α] {g : Bool} {x : Option α} {a : α} (h : x = some a) : gb g x = some (bif g then a else default) := gb_of fun _ => h
end Go.Proofs.Ytpknphecmahkaaa.Tr
namespace Go.Proofs.Ytpknphecmahkaaa.Tr
open Go
def Gets {α : Type} (x : Option α) (P : α → Prop) : Prop := ∃ v, x = some v ∧ P v
theorem Gets.s {α : Type} {v : α} {P : α → Prop} (h : P v) : Gets (some v) P := ⟨v, rfl, h⟩
theorem Gets.b {α β : Type} {x : Option α} {f : α → Option β} {P : α → Prop} {Q : β → Prop} (h : Gets x P) (k : ∀ v, P v → Gets (f v) Q) : Gets (x.bind f) Q := by
  obtain ⟨v, e, hv⟩ := h
  obtain ⟨u, e2, hu⟩ := k v hv
  exact ⟨u, by rw [e, bind_s, e2], hu⟩
theorem Gets.e {α : Type} {x : Option α} {v : α} (h : x = some v) : Gets x (fun u => u = v) := ⟨v, h, rfl⟩
theorem Gets.eq {α : Type} {x : Option α} {v : α} (h : Gets x (fun u => u = v)) : x = some v := by obtain ⟨u, e, rfl⟩ := h; exact e
theorem Gets.c {α : Type} {b : Bool} {x y : Option α} {P : α → Prop} (h1 : b = true → Gets x P) (h2 : b = false → Gets y P) : Gets (bif b then x else y) P := by
  cases b with
  | true => rw [cond_t]; exact h1 rfl
  | false => rw [cond_f]; exact h2 rfl
theorem Gets.g {α : Type} [Inhabited α] {c : Bool} {x : Option α} {P : α → Prop} (h : c = true → Gets x P) : Gets (gb c x) (fun v => c = true → P v) := by
  cases c with
  | true => rw [gb_true]; obtain ⟨v, e, hv⟩ := h rfl; exact ⟨v, e, fun _ => hv⟩
  | false => rw [gb_false]; exact ⟨_, rfl, fun h => by cases h⟩
theorem Gets.idx {α : Type} {l : List α} {k : Int} (h0 : 0 ≤ k) (h : k < l.length) : Gets (idx l k) (fun v => l[k.toNat]? = some v) := by
  rw [idx_of h0 h]; exact ⟨_, rfl, List.getElem?_eq_getElem (by omega)⟩
theorem Gets.loop {σ ε : Type} {f : σ → Option (σ ⊕ ε)} (I : σ → Prop) (μ : σ → Nat) {R : ε → Prop} (h : ∀ s, I s → Gets (f s) (fun x => (∃ s', x = .inl s' ∧ I s' ∧ μ s' < μ s) ∨ ∃ e, x = .inr e ∧ R e)) {s : σ} (hs : I s) (hm : μ s < 18446744073709551616) : Gets (loopO f s) R := by
  obtain ⟨e, h1, h2⟩ := loopO_inv (f := f) I μ R (fun s hs => by
    obtain ⟨x, e1, h1⟩ := h s hs
    rcases h1 with ⟨s', rfl, h2, h3⟩ | ⟨e, rfl, h2⟩
    · exact .inl ⟨s', e1, h2, h3⟩
    · exact .inr ⟨e, e1, h2⟩) hs hm
  exact ⟨e, h1, h2⟩
theorem Gets.l {σ ε : Type} {I : σ → Prop} {μ : σ → Nat} {R : ε → Prop} {m : Nat} {s' : σ} (h : I s') (hm : μ s' < m) : Gets (some (.inl s' : σ ⊕ ε)) (fun x => (∃ s', x = .inl s' ∧ I s' ∧ μ s' < m) ∨ ∃ e, x = .inr e ∧ R e) := ⟨_, rfl, .inl ⟨s', rfl, h, hm⟩⟩
theorem Gets.r {σ ε : Type} {I : σ → Prop} {μ : σ → Nat} {R : ε → Prop} {m : Nat} {e : ε} (h : R e) : Gets (some (.inr e : σ ⊕ ε)) (fun x => (∃ s', x = .inl s' ∧ I s' ∧ μ s' < m) ∨ ∃ e, x = .inr e ∧ R e) := ⟨_, rfl, .inr ⟨e, rfl, h⟩⟩
theorem Gets.elSl {α β γ : Type} {a : α} {f : α → Option γ} {g : β → Option γ} {P : γ → Prop} (h : Gets (f a) P) : Gets (elS (.inl a : α ⊕ β) f g) P := by rw [elS_inl]; exact h
theorem Gets.elSr {α β γ : Type} {a : β} {f : α → Option γ} {g : β → Option γ} {P : γ → Prop} (h : Gets (g a) P) : Gets (elS (.inr a : α ⊕ β) f g) P := by rw [elS_inr]; exact h
end Go.Proofs.Ytpknphecmahkaaa.Tr
namespace Go.Proofs.Ytpknphecmahkaaa.Tr
open Go Go.RowKit
set_option maxRecDepth 100000
set_option synthInstance.maxHeartbeats 400000
set_option synthInstance.maxSize 4096
def key_kind (bits0 : Int) : Option Bool :=
  some ((decide (bits0 = (32 : Int))) || (decide (bits0 = (128 : Int))))
theorem key_kind_c {A : Nat → Prop} {bits0 : Int}  {r : Bool} (w : World) (v0 : Value) (hA : ∀ k, w.heap.size ≤ k → A k)  (h0 : (D (bits0 : Int)).p A w v0) (H : key_kind bits0 = some r) :
    Calls Try.prog 43 #[v0] w (Ret A w (D (r : Bool))) := by
  unfold key_kind at H
  refine enter1 hA Try.func43 rfl Try.ntmps43 rfl h0 ?_; refine TC.seqS ?_; refine TS.s OpY.assign rfl ?_; refine TS.nil ?_; refine TE.then ?_; refine TC.kp [0] [] ?_; refine TC.seqS ?_; refine TS.s OpY.move rfl ?_; refine TS.s OpY.eql rfl ?_; refine TS.s OpY.move rfl ?_; refine TS.g 5 rfl (fun hg => OpY.move) rfl ?_; refine TS.g 5 rfl (fun hg => OpY.eql) rfl ?_; refine TS.s OpY.pickOr rfl ?_; refine TS.s OpY.assign rfl ?_; refine TS.nil ?_; refine TE.then ?_; refine TC.kp [2] [] ?_; refine TC.ret ?_
  obtain rfl := (Option.some.inj H)
  exact TE.ret1 rfl Cv.le
def key_Cut (k0 : (Vec UInt8 16)) (n0 : Int) : Option (Vec UInt8 16) :=
  bif (decide (n0 ≥ (128 : Int))) then (some k0) else (bif (decide (n0 < (1 : Int))) then (some Dat.z) else ((quoI n0 (8 : Int)).bind fun x_4 => (cut 16 0 x_4).bind fun u_5 => (cut 16 0 x_4).bind fun u_6 => (some ((Vec.put (Dat.z : Vec UInt8 16) (Int.toNat 0) (over (((Dat.z : Vec UInt8 16).l.drop (Int.toNat 0)).take ((x_4 - 0).toNat)) ((k0.l.drop (Int.toNat 0)).take ((x_4 - 0).toNat)))) : (Vec UInt8 16))).bind fun c_7 => ((remI n0 (8 : Int)).bind fun x_10 => bif (decide (x_10 > (0 : Int))) then ((idx k0.l x_4).bind fun x_11 => (cnt x_10).bind fun n_12 => (idx c_7.l x_4).bind fun x_13 => (some ((Vec.set c_7 (Int.toNat x_4) (x_11 &&& ~~~(shr8 (UInt8.ofNat 255) x_10))) : (Vec UInt8 16))).bind fun c_14 => some c_14) else (some c_7)).bind fun c_8 => some c_8))
theorem key_Cut_c {A : Nat → Prop} {k0 : (Vec UInt8 16)} {n0 : Int}  {r : (Vec UInt8 16)} (w : World) (v0 v1 : Value) (hA : ∀ k, w.heap.size ≤ k → A k)  (h0 : (D (k0 : (Vec UInt8 16))).p A w v0) (h1 : (D (n0 : Int)).p A w v1) (H : key_Cut k0 n0 = some r) :
    Calls Try.prog 39 #[v0, v1] w (Ret A w (D (r : (Vec UInt8 16)))) := by
  unfold key_Cut at H
  refine enter2 hA Try.func39 rfl Try.ntmps39 rfl h0 h1 ?_; refine TC.seqS ?_; refine TS.box rfl fun b2_0 => ?_; refine TS.alloc (α := (Vec UInt8 16)) rfl fun b4_1 => ?_; refine TS.nil ?_; refine TE.then ?_; refine TC.kp [1, 2, 4] [b2_0, b4_1] ?_; refine TC.seq ?_; refine TC.seqS ?_; refine TS.s OpY.move rfl ?_; refine TS.s OpY.geq rfl ?_; refine TS.nil ?_; refine TE.then ?_; refine TC.kp [1, 2, 4, 9] [b2_0, b4_1] ?_; refine TC.cond (fun hc => ?_) (fun hc => ?_)
  · replace H := cT H hc
    refine TC.seqS ?_; refine TS.s (OpD.ldq Pl.one) rfl ?_; refine TS.un (OpT.storeq (y := (k0 : (Vec UInt8 16))) Pl.one) ?_; refine TS.nil ?_; refine TE.then ?_; refine TC.kp [4] [b4_1] ?_; refine TC.ret ?_; refine TE.then_ret ?_
    obtain rfl := (Option.some.inj H)
    exact TE.ret1 rfl Cv.le
  · replace H := cF H hc
    refine TC.skip ?_; refine TE.then ?_; refine TC.kp [1, 2, 4] [b2_0, b4_1] ?_; refine TC.seqS ?_; refine TS.alloc (α := (Vec UInt8 16)) rfl fun b5_2 => ?_; refine TS.nil ?_; refine TE.then ?_; refine TC.kp [1, 2, 4, 5] [b2_0, b4_1, b5_2] ?_; refine TC.seq ?_; refine TC.seqS ?_; refine TS.s OpY.move rfl ?_; refine TS.s OpY.lss rfl ?_; refine TS.nil ?_; refine TE.then ?_; refine TC.kp [1, 2, 4, 5, 12] [b2_0, b4_1, b5_2] ?_; refine TC.cond (fun hc => ?_) (fun hc => ?_)
    · replace H := cT H hc
      refine TC.seqS ?_; refine TS.s (OpD.ldq Pl.one) rfl ?_; refine TS.un (OpT.storeq (y := (Dat.z : (Vec UInt8 16))) Pl.one) ?_; refine TS.nil ?_; refine TE.then ?_; refine TC.kp [4] [b4_1] ?_; refine TC.ret ?_; refine TE.then_ret ?_
      obtain rfl := (Option.some.inj H)
      exact TE.ret1 rfl Cv.le
    · replace H := cF H hc
      refine TC.skip ?_; refine TE.then ?_; refine TC.kp [1, 2, 4, 5] [b2_0, b4_1, b5_2] ?_; refine TC.seqS ?_; refine TS.s OpY.move rfl ?_
      obtain ⟨x_4, ex_4, H⟩ := bnd H
      refine TS.s (OpD.quo ex_4) rfl ?_; refine TS.s OpY.assign rfl ?_; refine TS.nil ?_; refine TE.then ?_; refine TC.kp [1, 2, 4, 5, 6] [b2_0, b4_1, b5_2] ?_; refine TC.seqD [4] [b2_0, b5_2] mix (by kernel_rfl) (by kernel_rfl) ?_; refine TR.s OpY.move rfl ?_
      obtain ⟨u_5, eu_5, H⟩ := bnd H
      refine TR.s (OpY.sliceAr (cut_some eu_5).1 (cut_some eu_5).2.1 (cut_some eu_5).2.2 (by decide)) rfl ?_; refine TR.s OpY.move rfl ?_
      obtain ⟨u_6, eu_6, H⟩ := bnd H
      refine TR.s (OpY.sliceAr (cut_some eu_6).1 (cut_some eu_6).2.1 (cut_some eu_6).2.2 (by decide)) rfl ?_; refine TR.t (fun g => (OpT.copyBy (ys := ((k0.l.drop (Int.toNat 0)).take ((x_4 - 0).toNat))) (SrcOf.sv (PlS.vec Pl.one (cut_le eu_6) (by decide)) (cut_len eu_6 (Vec.h _))) (PlS.vec Pl.one (cut_le eu_5) (by decide)) (cut_len eu_5 (Vec.h _)) (fun _ h => by simp [h, splice, Vec.put_nil]))) rfl ?_; refine TR.nil ?_
      rintro ⟨_, _⟩
      dsimp only [Fam.nextS, Fam.nextN, Fam.one, List.cons_append, List.nil_append]
      refine TC.kp [1, 2, 4, 5, 6] [b2_0, b4_1, b5_2] ?_
      obtain ⟨c_7, ec_7, H⟩ := bnd H
      refine TC.nmB b5_2 (nm_one ec_7) ?_; refine TC.seq ?_
      obtain ⟨o_9, H9, H⟩ := bnd H
      refine TC.cutP (fun s : (Vec UInt8 16) => o_9 = s) (fun (c_8 : (Vec UInt8 16)) (_ : Unit) => (Env.set (Env.set Env.nil 4 (Pt b4_1 0)) 5 (Pt b5_2 0))) (fun (c_8 : (Vec UInt8 16)) (_ : Unit) => [⟨b4_1, True, (One (Dat.z : (Vec UInt8 16)))⟩, ⟨b5_2, True, (One (c_8 : (Vec UInt8 16)))⟩]) ?_ ?_
      · skip
        refine TC.seqS ?_; refine TS.s OpY.move rfl ?_
        obtain ⟨x_10, ex_10, H9⟩ := bnd H9
        refine TS.s (OpD.rem ex_10) rfl ?_; refine TS.s OpY.assign rfl ?_; refine TS.nil ?_; refine TE.then ?_; refine TC.kp [2, 4, 5, 6, 7] [b2_0, b4_1, b5_2] ?_; refine TC.seqS ?_; refine TS.s OpY.move rfl ?_; refine TS.s OpY.gtr rfl ?_; refine TS.nil ?_; refine TE.then ?_; refine TC.kp [2, 4, 5, 6, 7, 24] [b2_0, b4_1, b5_2] ?_; refine TC.cond (fun hc => ?_) (fun hc => ?_)
        · replace H9 := cT H9 hc
          refine TC.regD [8] [b5_2] mix (by kernel_rfl) (by kernel_rfl) ?_; refine TR.s OpY.move rfl ?_; refine TR.s OpY.move rfl ?_
          obtain ⟨x_11, ex_11, H9⟩ := bnd H9
          refine TR.s (OpD.indexArq (idx_in ex_11 (Vec.h _).symm)) rfl ?_; refine TR.s (OpD.ldq (Pl.vec (α := UInt8) Pl.one ex_11)) rfl ?_; refine TR.s OpY.move rfl ?_
          obtain ⟨n_12, en_12, H9⟩ := bnd H9
          refine TR.s (OpD.shr8 (cnt_some en_12).1) rfl ?_; refine TR.s OpY.andNot8 rfl ?_
          obtain ⟨x_13, ex_13, H9⟩ := bnd H9
          refine TR.s (OpD.indexArq (idx_in ex_13 (Vec.h _).symm)) rfl ?_; refine TR.tn (fun g => (OpT.storeq (y := ((x_11 &&& ~~~(shr8 (UInt8.ofNat 255) x_10)) : UInt8)) (Pl.vec (α := UInt8) Pl.one ex_13))) rfl ?_; refine TR.nil ?_
          rintro ⟨_, _⟩
          dsimp only [Fam.nextS, Fam.nextN, Fam.one, List.cons_append, List.nil_append]
          refine TE.kp [4, 5] [b4_1, b5_2] ?_
          obtain ⟨c_14, ec_14, H9⟩ := bnd H9
          refine TE.nmB b5_2 (nm_one ec_14) ?_; exact TE.cutP c_14 () (Option.some.inj H9).symm (Env.cv (Env.cv (Env.le_nil _))) (Less.pk rfl (Less.pk rfl (Less.nil _)))
        · replace H9 := cF H9 hc
          refine TC.skip ?_; exact TE.cutP c_7 () (Option.some.inj H9).symm (Env.cv (Env.cv (Env.le_nil _))) (Less.pk rfl (Less.pk rfl (Less.nil _)))
      rintro c_8 ⟨⟩ hp
      replace hp := hp.symm
      subst hp
      refine TE.then ?_; refine TC.kp [4, 5] [b4_1, b5_2] ?_; refine TC.seqS ?_; refine TS.s (OpD.ldq Pl.one) rfl ?_; refine TS.un (OpT.storeq (y := (c_8 : (Vec UInt8 16))) Pl.one) ?_; refine TS.nil ?_; refine TE.then ?_; refine TC.kp [4] [b4_1] ?_; refine TC.ret ?_
      obtain rfl := (Option.some.inj H)
      exact TE.ret1 rfl Cv.le
def key_May (p0 : Prefix) : Option Bool :=
  (key_kind p0.Bits).bind fun x_2 => bif (((!x_2) || (decide (p0.Len < (0 : Int)))) || (decide (p0.Len > p0.Bits))) then (some false) else ((key_Cut p0.Key p0.Len).bind fun x_3 => some (decide (x_3 = p0.Key)))
theorem key_May_c {A : Nat → Prop} {p0 : Prefix}  {r : Bool} (w : World) (v0 : Value) (hA : ∀ k, w.heap.size ≤ k → A k)  (h0 : (D (p0 : Prefix)).p A w v0) (H : key_May p0 = some r) :
    Calls Try.prog 28 #[v0] w (Ret A w (D (r : Bool))) := by
  unfold key_May at H
  refine enter1 hA Try.func28 rfl Try.ntmps28 rfl h0 ?_; refine TC.seqS ?_; refine TS.box rfl fun b1_0 => ?_; refine TS.s OpY.assign rfl ?_; refine TS.nil ?_; refine TE.then ?_; refine TC.kp [1] [b1_0] ?_; refine TC.seq ?_; refine TC.seqS ?_; refine TS.s OpY.fieldAddr rfl ?_; refine TS.s (OpD.ldq (Pl.fld (off := 0) (α := Prefix) (β := Int) Pl.one)) rfl ?_
  obtain ⟨x_2, ex_2, H⟩ := bnd H
  refine TS.s (OpY.call1 fun w v0 hA h0 => key_kind_c w v0 hA (toD h0) ex_2) rfl ?_; refine TS.s OpY.notB rfl ?_; refine TS.s OpY.move rfl ?_; refine TS.g 7 rfl (fun hg => OpY.fieldAddr) rfl ?_; refine TS.g 7 rfl (fun hg => (OpD.ldq (Pl.fld (off := 1) (α := Prefix) (β := Int) Pl.one))) rfl ?_; refine TS.g 7 rfl (fun hg => OpY.lss) rfl ?_; refine TS.s OpY.pickOr rfl ?_; refine TS.s OpY.move rfl ?_; refine TS.g 12 rfl (fun hg => OpY.fieldAddr) rfl ?_; refine TS.g 12 rfl (fun hg => (OpD.ldq (Pl.fld (off := 1) (α := Prefix) (β := Int) Pl.one))) rfl ?_; refine TS.g 12 rfl (fun hg => OpY.fieldAddr) rfl ?_; refine TS.g 12 rfl (fun hg => (OpD.ldq (Pl.fld (off := 0) (α := Prefix) (β := Int) Pl.one))) rfl ?_; refine TS.g 12 rfl (fun hg => OpY.gtr) rfl ?_; refine TS.s OpY.pickOr rfl ?_; refine TS.nil ?_; refine TE.then ?_; refine TC.kp [1, 18] [b1_0] ?_; refine TC.cond (fun hc => ?_) (fun hc => ?_)
  · replace H := cT H hc
    refine TC.seqS ?_; refine TS.s OpY.assign rfl ?_; refine TS.nil ?_; refine TE.then ?_; refine TC.kp [2] [] ?_; refine TC.ret ?_; refine TE.then_ret ?_
    obtain rfl := (Option.some.inj H)
    exact TE.ret1 rfl Cv.le
  · replace H := cF H hc
    refine TC.skip ?_; refine TE.then ?_; refine TC.kp [1] [b1_0] ?_; refine TC.seqD0 mix (by kernel_rfl) ?_; refine TR.s OpY.fieldAddr rfl ?_; refine TR.s (OpD.ldq (Pl.fld (off := 2) (α := Prefix) (β := (Vec UInt8 16)) Pl.one)) rfl ?_; refine TR.s OpY.fieldAddr rfl ?_; refine TR.s (OpD.ldq (Pl.fld (off := 1) (α := Prefix) (β := Int) Pl.one)) rfl ?_
    obtain ⟨x_3, ex_3, H⟩ := bnd H
    refine TR.s (OpY.call2 fun w v0 v1 hA h0 h1 => key_Cut_c w v0 v1 hA (toD h0) (toD h1) ex_3) rfl ?_; refine TR.s OpY.fieldAddr rfl ?_; refine TR.s (OpD.ldq (Pl.fld (off := 2) (α := Prefix) (β := (Vec UInt8 16)) Pl.one)) rfl ?_; refine TR.s (OpY.eql_agg EqV_23 (by decide) EqG_23 rfl) rfl ?_; refine TR.s OpY.assign rfl ?_; refine TR.nil ?_; refine TC.kp [2] [] ?_; refine TC.ret ?_
    obtain rfl := (Option.some.inj H)
    exact TE.ret1 rfl Cv.le
def math_bits_Len8_t1 : List UInt8 := ([0, 1, 2, 2, 3, 3, 3, 3, 4, 4, 4, 4, 4, 4, 4, 4, 5, 5, 5, 5, 5, 5, 5, 5, 5, 5, 5, 5, 5, 5, 5, 5, 6, 6, 6, 6, 6, 6, 6, 6, 6, 6, 6, 6, 6, 6, 6, 6, 6, 6, 6, 6, 6, 6, 6, 6, 6, 6, 6, 6, 6, 6, 6, 6, 7, 7, 7, 7, 7, 7, 7, 7, 7, 7, 7, 7, 7, 7, 7, 7, 7, 7, 7, 7, 7, 7, 7, 7, 7, 7, 7, 7, 7, 7, 7, 7, 7, 7, 7, 7, 7, 7, 7, 7, 7, 7, 7, 7, 7, 7, 7, 7, 7, 7, 7, 7, 7, 7, 7, 7, 7, 7, 7, 7, 7, 7, 7, 7, 8, 8, 8, 8, 8, 8, 8, 8, 8, 8, 8, 8, 8, 8, 8, 8, 8, 8, 8, 8, 8, 8, 8, 8, 8, 8, 8, 8, 8, 8, 8, 8, 8, 8, 8, 8, 8, 8, 8, 8, 8, 8, 8, 8, 8, 8, 8, 8, 8, 8, 8, 8, 8, 8, 8, 8, 8, 8, 8, 8, 8, 8, 8, 8, 8, 8, 8, 8, 8, 8, 8, 8, 8, 8, 8, 8, 8, 8, 8, 8, 8, 8, 8, 8, 8, 8, 8, 8, 8, 8, 8, 8, 8, 8, 8, 8, 8, 8, 8, 8, 8, 8, 8, 8, 8, 8, 8, 8, 8, 8, 8, 8, 8, 8, 8, 8, 8, 8, 8, 8, 8, 8, 8, 8, 8, 8, 8, 8] : List UInt8)
def math_bits_Len8 (x0 : UInt8) : Option Int :=
  (idx math_bits_Len8_t1 (x0.toNat : Int)).bind fun x_1 => some (x_1.toNat : Int)
theorem math_bits_Len8_c {A : Nat → Prop} {x0 : UInt8}  {r : Int} (w : World) (v0 : Value) (hA : ∀ k, w.heap.size ≤ k → A k)  (h0 : (D (x0 : UInt8)).p A w v0) (H : math_bits_Len8 x0 = some r) :
    Calls Try.prog 61 #[v0] w (Ret A w (D (r : Int))) := by
  unfold math_bits_Len8 at H
  refine enter1 hA Try.func61 rfl Try.ntmps61 rfl h0 ?_; refine TC.seqS ?_; refine TS.s OpY.assign rfl ?_; refine TS.nil ?_; refine TE.then ?_; refine TC.kp [0] [] ?_; refine TC.seqS ?_; refine TS.s OpY.move rfl ?_
  obtain ⟨x_1, ex_1, H⟩ := bnd H
  refine TS.s (OpY.indexStr rfl ex_1) rfl ?_; refine TS.s OpD.conv8_i rfl ?_; refine TS.s OpY.assign rfl ?_; refine TS.nil ?_; refine TE.then ?_; refine TC.kp [2] [] ?_; refine TC.ret ?_
  obtain rfl := (Option.some.inj H)
  exact TE.ret1 rfl Cv.le
def math_bits_LeadingZeros8 (x0 : UInt8) : Option Int :=
  (math_bits_Len8 x0).bind fun x_1 => (subI (8 : Int) x_1).bind fun x_2 => some x_2
theorem math_bits_LeadingZeros8_c {A : Nat → Prop} {x0 : UInt8}  {r : Int} (w : World) (v0 : Value) (hA : ∀ k, w.heap.size ≤ k → A k)  (h0 : (D (x0 : UInt8)).p A w v0) (H : math_bits_LeadingZeros8 x0 = some r) :
    Calls Try.prog 48 #[v0] w (Ret A w (D (r : Int))) := by
  unfold math_bits_LeadingZeros8 at H
  refine enter1 hA Try.func48 rfl Try.ntmps48 rfl h0 ?_; refine TC.seqS ?_; refine TS.s OpY.assign rfl ?_; refine TS.nil ?_; refine TE.then ?_; refine TC.kp [0] [] ?_; refine TC.seqS ?_; refine TS.s OpY.move rfl ?_
  obtain ⟨x_1, ex_1, H⟩ := bnd H
  refine TS.s (OpY.call1 fun w v0 hA h0 => math_bits_Len8_c w v0 hA (toD h0) ex_1) rfl ?_
  obtain ⟨x_2, ex_2, H⟩ := bnd H
  refine TS.s (OpD.sub ex_2) rfl ?_; refine TS.s OpY.assign rfl ?_; refine TS.nil ?_; refine TE.then ?_; refine TC.kp [2] [] ?_; refine TC.ret ?_
  obtain rfl := (Option.some.inj H)
  exact TE.ret1 rfl Cv.le
def key_Common_l1 (a0 : (Vec UInt8 16)) (b0 : (Vec UInt8 16)) (x_4 : Int) : Option (Int ⊕ (Unit ⊕ Int)) :=
  bif (decide (x_4 < (16 : Int))) then ((idx a0.l x_4).bind fun x_6 => (idx b0.l x_4).bind fun x_7 => bif (decide (x_6 ≠ x_7)) then ((mulI (8 : Int) x_4).bind fun x_8 => (idx a0.l x_4).bind fun x_9 => (idx b0.l x_4).bind fun x_10 => (math_bits_LeadingZeros8 (x_9 ^^^ x_10)).bind fun x_11 => (addI x_8 x_11).bind fun x_12 => some (.inr (.inr x_12))) else ((addI x_4 (1 : Int)).bind fun x_14 => some (.inl x_14))) else (some (.inr (.inl ())))
def key_Common (a0 : (Vec UInt8 16)) (b0 : (Vec UInt8 16)) : Option Int :=
  (loopO (fun s => key_Common_l1 a0 b0 s) (0 : Int)).bind fun o_3 => elS o_3 (fun _ => some (128 : Int)) (fun q => some q)
theorem key_Common_c {A : Nat → Prop} {a0 : (Vec UInt8 16)} {b0 : (Vec UInt8 16)}  {r : Int} (w : World) (v0 v1 : Value) (hA : ∀ k, w.heap.size ≤ k → A k)  (h0 : (D (a0 : (Vec UInt8 16))).p A w v0) (h1 : (D (b0 : (Vec UInt8 16))).p A w v1) (H : key_Common a0 b0 = some r) :
    Calls Try.prog 40 #[v0, v1] w (Ret A w (D (r : Int))) := by
  unfold key_Common at H
  refine enter2 hA Try.func40 rfl Try.ntmps40 rfl h0 h1 ?_; refine TC.seqS ?_; refine TS.box rfl fun b2_0 => ?_; refine TS.box rfl fun b3_1 => ?_; refine TS.s OpY.assign rfl ?_; refine TS.nil ?_; refine TE.then ?_; refine TC.kp [2, 3] [b2_0, b3_1] ?_; refine TC.seq ?_; refine TC.seqS ?_; refine TS.s OpY.move rfl ?_; refine TS.nil ?_; refine TE.then ?_; refine TC.kp [2, 3, 6] [b2_0, b3_1] ?_
  obtain ⟨o_3, H3, H⟩ := bnd H
  refine TC.cutP (fun s : Unit => o_3 = .inl s) (fun (_ : Unit) (_ : Unit) => Env.nil) (fun (_ : Unit) (_ : Unit) => []) ?_ ?_
  · skip
    refine TC.block ?_; refine TC.loopP H3 (fun (x_4 : Int) (_ : Unit) => (Env.set (Env.set (Env.set Env.nil 2 (Pt b2_0 0)) 3 (Pt b3_1 0)) 6 (D (x_4 : Int)))) (fun (x_4 : Int) (_ : Unit) => [⟨b2_0, True, (One (a0 : (Vec UInt8 16)))⟩, ⟨b3_1, True, (One (b0 : (Vec UInt8 16)))⟩]) () (Env.cv (Env.cv (Env.cv (Env.le_nil _)))) (Less.pk rfl (Less.pk rfl (Less.nil _))) ?_
    rintro x_4 ⟨⟩ x_5 H5 he5
    replace H5 : key_Common_l1 a0 b0 x_4 = some x_5 := H5
    unfold key_Common_l1 at H5
    refine TC.seqS ?_; refine TS.s OpY.lss rfl ?_; refine TS.nil ?_; refine TE.then ?_; refine TC.kp [2, 3, 6, 7] [b2_0, b3_1] ?_; refine TC.seq ?_; refine TC.cond (fun hc => ?_) (fun hc => ?_)
    · replace H5 := cT H5 hc
      refine TC.skip ?_; refine TE.then ?_; refine TC.kp [2, 3, 6] [b2_0, b3_1] ?_; refine TC.seq ?_; refine TC.block ?_; refine TC.seqS ?_; refine TS.s OpY.move rfl ?_; refine TS.s OpY.assign rfl ?_; refine TS.nil ?_; refine TE.then ?_; refine TC.kp [2, 3, 5, 6] [b2_0, b3_1] ?_; refine TC.seqD0 mix (by kernel_rfl) ?_; refine TR.s OpY.move rfl ?_
      obtain ⟨x_6, ex_6, H5⟩ := bnd H5
      refine TR.s (OpD.indexArq (idx_in ex_6 (Vec.h _).symm)) rfl ?_; refine TR.s (OpD.ldq (Pl.vec (α := UInt8) Pl.one ex_6)) rfl ?_; refine TR.s OpY.move rfl ?_
      obtain ⟨x_7, ex_7, H5⟩ := bnd H5
      refine TR.s (OpD.indexArq (idx_in ex_7 (Vec.h _).symm)) rfl ?_; refine TR.s (OpD.ldq (Pl.vec (α := UInt8) Pl.one ex_7)) rfl ?_; refine TR.s OpY.neq8 rfl ?_; refine TR.nil ?_; refine TC.kp [2, 3, 5, 6, 15] [b2_0, b3_1] ?_; refine TC.cond (fun hc => ?_) (fun hc => ?_)
      · replace H5 := cT H5 hc
        refine TC.seqD0 mix (by kernel_rfl) ?_; refine TR.s OpY.move rfl ?_
        obtain ⟨x_8, ex_8, H5⟩ := bnd H5
        refine TR.s (OpD.mul ex_8) rfl ?_; refine TR.s OpY.move rfl ?_
        obtain ⟨x_9, ex_9, H5⟩ := bnd H5
        refine TR.s (OpD.indexArq (idx_in ex_9 (Vec.h _).symm)) rfl ?_; refine TR.s (OpD.ldq (Pl.vec (α := UInt8) Pl.one ex_9)) rfl ?_; refine TR.s OpY.move rfl ?_
        obtain ⟨x_10, ex_10, H5⟩ := bnd H5
        refine TR.s (OpD.indexArq (idx_in ex_10 (Vec.h _).symm)) rfl ?_; refine TR.s (OpD.ldq (Pl.vec (α := UInt8) Pl.one ex_10)) rfl ?_; refine TR.s OpY.xor8 rfl ?_
        obtain ⟨x_11, ex_11, H5⟩ := bnd H5
        refine TR.s (OpY.call1 fun w v0 hA h0 => math_bits_LeadingZeros8_c w v0 hA (toD h0) ex_11) rfl ?_
        obtain ⟨x_12, ex_12, H5⟩ := bnd H5
        refine TR.s (OpD.add ex_12) rfl ?_; refine TR.s OpY.assign rfl ?_; refine TR.nil ?_; refine TC.kp [4] [] ?_; refine TC.ret ?_; refine TE.inBlock_ret ?_; refine TE.then_ret ?_; refine TE.then_ret ?_; refine TE.inBlock_ret ?_; refine TE.cut_ret ?_
        have R12 := elS_r (he5 _ (Option.some.inj H5).symm) H
        refine TE.then_ret ?_
        obtain rfl := (Option.some.inj R12)
        exact TE.ret1 rfl Cv.le
      · replace H5 := cF H5 hc
        refine TC.skip ?_; refine TE.inBlock_normal ?_; refine TE.then ?_; refine TC.kp [2, 3, 6] [b2_0, b3_1] ?_; refine TC.regionS ?_
        obtain ⟨x_14, ex_14, H5⟩ := bnd H5
        refine TS.s (OpD.add ex_14) rfl ?_; refine TS.s OpY.move rfl ?_; refine TS.nil ?_; refine TE.kp [2, 3, 6] [b2_0, b3_1] ?_; exact TE.backP x_14 () (Option.some.inj H5).symm (Env.cv (Env.cv (Env.cv (Env.le_nil _)))) (Less.pk rfl (Less.pk rfl (Less.nil _)))
    · replace H5 := cF H5 hc
      refine TC.exit ?_; refine TE.then_exit ?_; refine TE.then_exit ?_; refine TE.inBlock_here ?_; exact TE.cutP () () (he5 _ (Option.some.inj H5).symm).symm (Env.le_nil _) (Less.nil _)
  rintro ⟨⟩ ⟨⟩ hp
  replace H := elS_l hp H
  refine TE.then ?_; refine TC.kp [] [] ?_; refine TC.seqS ?_; refine TS.s OpY.assign rfl ?_; refine TS.nil ?_; refine TE.then ?_; refine TC.kp [4] [] ?_; refine TC.ret ?_
  obtain rfl := (Option.some.inj H)
  exact TE.ret1 rfl Cv.le
def key_Fits (p0 : Prefix) (k0 : (Vec UInt8 16)) : Option Bool :=
  (key_May p0).bind fun x_3 => (gb (!(!x_3)) (key_Cut k0 p0.Bits)).bind fun x_4 => bif ((!x_3) || (decide (x_4 ≠ k0))) then (some false) else ((key_Common p0.Key k0).bind fun x_5 => some (decide (x_5 ≥ p0.Len)))
theorem key_Fits_c {A : Nat → Prop} {p0 : Prefix} {k0 : (Vec UInt8 16)}  {r : Bool} (w : World) (v0 v1 : Value) (hA : ∀ k, w.heap.size ≤ k → A k)  (h0 : (D (p0 : Prefix)).p A w v0) (h1 : (D (k0 : (Vec UInt8 16))).p A w v1) (H : key_Fits p0 k0 = some r) :
    Calls Try.prog 21 #[v0, v1] w (Ret A w (D (r : Bool))) := by
  unfold key_Fits at H
  refine enter2 hA Try.func21 rfl Try.ntmps21 rfl h0 h1 ?_; refine TC.seqS ?_; refine TS.box rfl fun b2_0 => ?_; refine TS.box rfl fun b3_1 => ?_; refine TS.s OpY.assign rfl ?_; refine TS.nil ?_; refine TE.then ?_; refine TC.kp [2, 3] [b2_0, b3_1] ?_; refine TC.seq ?_; refine TC.seqD0 mix (by kernel_rfl) ?_; refine TR.s (OpD.ldq Pl.one) rfl ?_
  obtain ⟨x_3, ex_3, H⟩ := bnd H
  refine TR.s (OpY.call1 fun w v0 hA h0 => key_May_c w v0 hA (toD h0) ex_3) rfl ?_; refine TR.s OpY.notB rfl ?_; refine TR.s OpY.move rfl ?_; refine TR.g 8 rfl (fun hg => (OpD.ldq Pl.one)) rfl ?_; refine TR.g 8 rfl (fun hg => OpY.fieldAddr) rfl ?_; refine TR.g 8 rfl (fun hg => (OpD.ldq (Pl.fld (off := 0) (α := Prefix) (β := Int) Pl.one))) rfl ?_
  obtain ⟨x_4, ex_4, H⟩ := bnd H
  refine TR.g 8 rfl (fun hg => (OpY.call2 fun w v0 v1 hA h0 h1 => key_Cut_c w v0 v1 hA (toD h0) (toD h1) (gb_some ex_4 (nF hg.h)))) rfl ?_; refine TR.g 8 rfl (fun hg => (OpD.ldq Pl.one)) rfl ?_; refine TR.g 8 rfl (fun hg => (OpY.neq_agg EqV_23 (by decide) EqG_23 rfl)) rfl ?_; refine TR.s OpY.pickOr rfl ?_; refine TR.nil ?_; refine TC.kp [2, 3, 15] [b2_0, b3_1] ?_; refine TC.cond (fun hc => ?_) (fun hc => ?_)
  · replace H := cT H hc
    refine TC.seqS ?_; refine TS.s OpY.assign rfl ?_; refine TS.nil ?_; refine TE.then ?_; refine TC.kp [4] [] ?_; refine TC.ret ?_; refine TE.then_ret ?_
    obtain rfl := (Option.some.inj H)
    exact TE.ret1 rfl Cv.le
  · replace H := cF H hc
    refine TC.skip ?_; refine TE.then ?_; refine TC.kp [2, 3] [b2_0, b3_1] ?_; refine TC.seqD0 mix (by kernel_rfl) ?_; refine TR.s OpY.fieldAddr rfl ?_; refine TR.s (OpD.ldq (Pl.fld (off := 2) (α := Prefix) (β := (Vec UInt8 16)) Pl.one)) rfl ?_; refine TR.s (OpD.ldq Pl.one) rfl ?_
    obtain ⟨x_5, ex_5, H⟩ := bnd H
    refine TR.s (OpY.call2 fun w v0 v1 hA h0 h1 => key_Common_c w v0 v1 hA (toD h0) (toD h1) ex_5) rfl ?_; refine TR.s OpY.fieldAddr rfl ?_; refine TR.s (OpD.ldq (Pl.fld (off := 1) (α := Prefix) (β := Int) Pl.one)) rfl ?_; refine TR.s OpY.geq rfl ?_; refine TR.s OpY.assign rfl ?_; refine TR.nil ?_; refine TC.kp [4] [] ?_; refine TC.ret ?_
    obtain rfl := (Option.some.inj H)
    exact TE.ret1 rfl Cv.le
def key_Covers (p0 : Prefix) (q0 : Prefix) : Option Bool :=
  (key_May p0).bind fun x_3 => (gb (!(!x_3)) (key_May q0)).bind fun x_4 => bif ((((!x_3) || (!x_4)) || (decide (p0.Bits ≠ q0.Bits))) || (decide (q0.Len < p0.Len))) then (some false) else ((key_Fits p0 q0.Key).bind fun x_5 => some x_5)
theorem key_Covers_c {A : Nat → Prop} {p0 : Prefix} {q0 : Prefix}  {r : Bool} (w : World) (v0 v1 : Value) (hA : ∀ k, w.heap.size ≤ k → A k)  (h0 : (D (p0 : Prefix)).p A w v0) (h1 : (D (q0 : Prefix)).p A w v1) (H : key_Covers p0 q0 = some r) :
    Calls Try.prog 27 #[v0, v1] w (Ret A w (D (r : Bool))) := by
  unfold key_Covers at H
  refine enter2 hA Try.func27 rfl Try.ntmps27 rfl h0 h1 ?_; refine TC.seqS ?_; refine TS.box rfl fun b2_0 => ?_; refine TS.box rfl fun b3_1 => ?_; refine TS.s OpY.assign rfl ?_; refine TS.nil ?_; refine TE.then ?_; refine TC.kp [2, 3] [b2_0, b3_1] ?_; refine TC.seq ?_; refine TC.seqS ?_; refine TS.s (OpD.ldq Pl.one) rfl ?_
  obtain ⟨x_3, ex_3, H⟩ := bnd H
  refine TS.s (OpY.call1 fun w v0 hA h0 => key_May_c w v0 hA (toD h0) ex_3) rfl ?_; refine TS.s OpY.notB rfl ?_; refine TS.s OpY.move rfl ?_; refine TS.g 8 rfl (fun hg => (OpD.ldq Pl.one)) rfl ?_
  obtain ⟨x_4, ex_4, H⟩ := bnd H
  refine TS.g 8 rfl (fun hg => (OpY.call1 fun w v0 hA h0 => key_May_c w v0 hA (toD h0) (gb_some ex_4 (nF hg.h)))) rfl ?_; refine TS.g 8 rfl (fun hg => OpY.notB) rfl ?_; refine TS.s OpY.pickOr rfl ?_; refine TS.s OpY.move rfl ?_; refine TS.g 13 rfl (fun hg => OpY.fieldAddr) rfl ?_; refine TS.g 13 rfl (fun hg => (OpD.ldq (Pl.fld (off := 0) (α := Prefix) (β := Int) Pl.one))) rfl ?_; refine TS.g 13 rfl (fun hg => OpY.fieldAddr) rfl ?_; refine TS.g 13 rfl (fun hg => (OpD.ldq (Pl.fld (off := 0) (α := Prefix) (β := Int) Pl.one))) rfl ?_; refine TS.g 13 rfl (fun hg => OpY.neq) rfl ?_; refine TS.s OpY.pickOr rfl ?_; refine TS.s OpY.move rfl ?_; refine TS.g 20 rfl (fun hg => OpY.fieldAddr) rfl ?_; refine TS.g 20 rfl (fun hg => (OpD.ldq (Pl.fld (off := 1) (α := Prefix) (β := Int) Pl.one))) rfl ?_; refine TS.g 20 rfl (fun hg => OpY.fieldAddr) rfl ?_; refine TS.g 20 rfl (fun hg => (OpD.ldq (Pl.fld (off := 1) (α := Prefix) (β := Int) Pl.one))) rfl ?_; refine TS.g 20 rfl (fun hg => OpY.lss) rfl ?_; refine TS.s OpY.pickOr rfl ?_; refine TS.nil ?_; refine TE.then ?_; refine TC.kp [2, 3, 26] [b2_0, b3_1] ?_; refine TC.cond (fun hc => ?_) (fun hc => ?_)
  · replace H := cT H hc
    refine TC.seqS ?_; refine TS.s OpY.assign rfl ?_; refine TS.nil ?_; refine TE.then ?_; refine TC.kp [4] [] ?_; refine TC.ret ?_; refine TE.then_ret ?_
    obtain rfl := (Option.some.inj H)
    exact TE.ret1 rfl Cv.le
  · replace H := cF H hc
    refine TC.skip ?_; refine TE.then ?_; refine TC.kp [2, 3] [b2_0, b3_1] ?_; refine TC.seqS ?_; refine TS.s (OpD.ldq Pl.one) rfl ?_; refine TS.s OpY.fieldAddr rfl ?_; refine TS.s (OpD.ldq (Pl.fld (off := 2) (α := Prefix) (β := (Vec UInt8 16)) Pl.one)) rfl ?_
    obtain ⟨x_5, ex_5, H⟩ := bnd H
    refine TS.s (OpY.call2 fun w v0 v1 hA h0 h1 => key_Fits_c w v0 v1 hA (toD h0) (toD h1) ex_5) rfl ?_; refine TS.s OpY.assign rfl ?_; refine TS.nil ?_; refine TE.then ?_; refine TC.kp [4] [] ?_; refine TC.ret ?_
    obtain rfl := (Option.some.inj H)
    exact TE.ret1 rfl Cv.le
def bytes_Compare (a0 : (List UInt8)) (b0 : (List UInt8)) : Option Int :=
  some (cmpBytes a0 b0)
theorem bytes_Compare_c {A : Nat → Prop} {a0 : (List UInt8)} {b0 : (List UInt8)}  {r : Int} (w : World) (v0 v1 : Value) (hA : ∀ k, w.heap.size ≤ k → A k)  (h0 : (D (a0 : (List UInt8))).p A w v0) (h1 : (D (b0 : (List UInt8))).p A w v1) (H : bytes_Compare a0 b0 = some r) :
    Calls Try.prog 41 #[v0, v1] w (Ret A w (D (r : Int))) := by
  unfold bytes_Compare at H
  refine enter2 hA Try.func41 rfl Try.ntmps41 rfl h0 h1 ?_; refine TC.seqS ?_; refine TS.s OpY.assign rfl ?_; refine TS.nil ?_; refine TE.then ?_; refine TC.kp [0, 1] [] ?_; refine TC.seqS ?_; refine TS.s OpY.move rfl ?_; refine TS.s OpY.move rfl ?_; refine TS.s OpY.cmp rfl ?_; refine TS.s OpY.assign rfl ?_; refine TS.nil ?_; refine TE.then ?_; refine TC.kp [4] [] ?_; refine TC.ret ?_
  obtain rfl := (Option.some.inj H)
  exact TE.ret1 rfl Cv.le
def key_Less (p0 : Prefix) (q0 : Prefix) : Option Bool :=
  (key_May p0).bind fun x_3 => (gb (!(!x_3)) (key_May q0)).bind fun x_4 => bif ((!x_3) || (!x_4)) then (some false) else (bif (decide (p0.Bits ≠ q0.Bits)) then (some (decide (p0.Bits = (32 : Int)))) else ((cut 16 0 (16 : Int)).bind fun u_5 => (cut 16 0 (16 : Int)).bind fun u_6 => (bytes_Compare ((p0.Key.l.drop (Int.toNat 0)).take (((16 : Int) - 0).toNat)) ((q0.Key.l.drop (Int.toNat 0)).take (((16 : Int) - 0).toNat))).bind fun x_7 => bif (decide (x_7 ≠ (0 : Int))) then (some (decide (x_7 < (0 : Int)))) else (some (decide (p0.Len < q0.Len)))))
theorem key_Less_c {A : Nat → Prop} {p0 : Prefix} {q0 : Prefix}  {r : Bool} (w : World) (v0 v1 : Value) (hA : ∀ k, w.heap.size ≤ k → A k)  (h0 : (D (p0 : Prefix)).p A w v0) (h1 : (D (q0 : Prefix)).p A w v1) (H : key_Less p0 q0 = some r) :
    Calls Try.prog 26 #[v0, v1] w (Ret A w (D (r : Bool))) := by
  unfold key_Less at H
  refine enter2 hA Try.func26 rfl Try.ntmps26 rfl h0 h1 ?_; refine TC.seqS ?_; refine TS.box rfl fun b2_0 => ?_; refine TS.box rfl fun b3_1 => ?_; refine TS.s OpY.assign rfl ?_; refine TS.nil ?_; refine TE.then ?_; refine TC.kp [2, 3] [b2_0, b3_1] ?_; refine TC.seq ?_; refine TC.seqS ?_; refine TS.s (OpD.ldq Pl.one) rfl ?_
  obtain ⟨x_3, ex_3, H⟩ := bnd H
  refine TS.s (OpY.call1 fun w v0 hA h0 => key_May_c w v0 hA (toD h0) ex_3) rfl ?_; refine TS.s OpY.notB rfl ?_; refine TS.s OpY.move rfl ?_; refine TS.g 9 rfl (fun hg => (OpD.ldq Pl.one)) rfl ?_
  obtain ⟨x_4, ex_4, H⟩ := bnd H
  refine TS.g 9 rfl (fun hg => (OpY.call1 fun w v0 hA h0 => key_May_c w v0 hA (toD h0) (gb_some ex_4 (nF hg.h)))) rfl ?_; refine TS.g 9 rfl (fun hg => OpY.notB) rfl ?_; refine TS.s OpY.pickOr rfl ?_; refine TS.nil ?_; refine TE.then ?_; refine TC.kp [2, 3, 13] [b2_0, b3_1] ?_; refine TC.cond (fun hc => ?_) (fun hc => ?_)
  · replace H := cT H hc
    refine TC.seqS ?_; refine TS.s OpY.assign rfl ?_; refine TS.nil ?_; refine TE.then ?_; refine TC.kp [4] [] ?_; refine TC.ret ?_; refine TE.then_ret ?_
    obtain rfl := (Option.some.inj H)
    exact TE.ret1 rfl Cv.le
  · replace H := cF H hc
    refine TC.skip ?_; refine TE.then ?_; refine TC.kp [2, 3] [b2_0, b3_1] ?_; refine TC.seq ?_; refine TC.seqS ?_; refine TS.s OpY.fieldAddr rfl ?_; refine TS.s (OpD.ldq (Pl.fld (off := 0) (α := Prefix) (β := Int) Pl.one)) rfl ?_; refine TS.s OpY.fieldAddr rfl ?_; refine TS.s (OpD.ldq (Pl.fld (off := 0) (α := Prefix) (β := Int) Pl.one)) rfl ?_; refine TS.s OpY.neq rfl ?_; refine TS.nil ?_; refine TE.then ?_; refine TC.kp [2, 3, 18] [b2_0, b3_1] ?_; refine TC.cond (fun hc => ?_) (fun hc => ?_)
    · replace H := cT H hc
      refine TC.seqS ?_; refine TS.s OpY.fieldAddr rfl ?_; refine TS.s (OpD.ldq (Pl.fld (off := 0) (α := Prefix) (β := Int) Pl.one)) rfl ?_; refine TS.s OpY.eql rfl ?_; refine TS.s OpY.assign rfl ?_; refine TS.nil ?_; refine TE.then ?_; refine TC.kp [4] [] ?_; refine TC.ret ?_; refine TE.then_ret ?_
      obtain rfl := (Option.some.inj H)
      exact TE.ret1 rfl Cv.le
    · replace H := cF H hc
      refine TC.skip ?_; refine TE.then ?_; refine TC.kp [2, 3] [b2_0, b3_1] ?_; refine TC.seq ?_; refine TC.seqD0 mix (by kernel_rfl) ?_; refine TR.s OpY.fieldAddr rfl ?_
      obtain ⟨u_5, eu_5, H⟩ := bnd H
      refine TR.s (OpY.sliceAr (cut_some eu_5).1 (cut_some eu_5).2.1 (cut_some eu_5).2.2 (by decide)) rfl ?_; refine TR.s OpY.fieldAddr rfl ?_
      obtain ⟨u_6, eu_6, H⟩ := bnd H
      refine TR.s (OpY.sliceAr (cut_some eu_6).1 (cut_some eu_6).2.1 (cut_some eu_6).2.2 (by decide)) rfl ?_
      obtain ⟨x_7, ex_7, H⟩ := bnd H
      refine TR.s (OpY.callB2 [b2_0, b3_1] (ArgB.sv (PlS.vec (Pl.fld (off := 2) (α := Prefix) (β := (Vec UInt8 16)) Pl.one) (cut_le eu_5) (by decide)) (cut_len eu_5 (Vec.h _)) (by simp)) (ArgB.sv (PlS.vec (Pl.fld (off := 2) (α := Prefix) (β := (Vec UInt8 16)) Pl.one) (cut_le eu_6) (by decide)) (cut_len eu_6 (Vec.h _)) (by simp)) fun w v0 v1 hA h0 h1 => bytes_Compare_c w v0 v1 hA (toD h0) (toD h1) ex_7) rfl ?_; refine TR.s OpY.assign rfl ?_; refine TR.nil ?_; refine TC.kp [2, 3, 5] [b2_0, b3_1] ?_; refine TC.seqS ?_; refine TS.s OpY.move rfl ?_; refine TS.s OpY.neq rfl ?_; refine TS.nil ?_; refine TE.then ?_; refine TC.kp [2, 3, 5, 28] [b2_0, b3_1] ?_; refine TC.cond (fun hc => ?_) (fun hc => ?_)
      · replace H := cT H hc
        refine TC.seqS ?_; refine TS.s OpY.move rfl ?_; refine TS.s OpY.lss rfl ?_; refine TS.s OpY.assign rfl ?_; refine TS.nil ?_; refine TE.then ?_; refine TC.kp [4] [] ?_; refine TC.ret ?_; refine TE.then_ret ?_
        obtain rfl := (Option.some.inj H)
        exact TE.ret1 rfl Cv.le
      · replace H := cF H hc
        refine TC.skip ?_; refine TE.then ?_; refine TC.kp [2, 3] [b2_0, b3_1] ?_; refine TC.seqS ?_; refine TS.s OpY.fieldAddr rfl ?_; refine TS.s (OpD.ldq (Pl.fld (off := 1) (α := Prefix) (β := Int) Pl.one)) rfl ?_; refine TS.s OpY.fieldAddr rfl ?_; refine TS.s (OpD.ldq (Pl.fld (off := 1) (α := Prefix) (β := Int) Pl.one)) rfl ?_; refine TS.s OpY.lss rfl ?_; refine TS.s OpY.assign rfl ?_; refine TS.nil ?_; refine TE.then ?_; refine TC.kp [4] [] ?_; refine TC.ret ?_
        obtain rfl := (Option.some.inj H)
        exact TE.ret1 rfl Cv.le
end Go.Proofs.Ytpknphecmahkaaa.Tr
namespace Go.Proofs.Ytpknphecmahkaaa.Tr
open Go
set_option maxRecDepth 100000
def kvl (l : List UInt8) : Nat := l.foldl (fun a b => a * 256 + b.toNat) 0
theorem kvl_acc : ∀ (l : List UInt8) (a : Nat), l.foldl (fun a b => a * 256 + b.toNat) a = a * 256 ^ l.length + kvl l
  | [], a => by simp [kvl]
  | x :: l, a => by
    unfold kvl
    simp only [List.foldl_cons, List.length_cons]
    rw [kvl_acc l, kvl_acc l (0 * 256 + x.toNat), Nat.pow_succ, Nat.add_mul, Nat.zero_mul, Nat.zero_add, Nat.mul_assoc, Nat.mul_comm 256, Nat.add_assoc]
theorem kvl_append (xs ys : List UInt8) : kvl (xs ++ ys) = kvl xs * 256 ^ ys.length + kvl ys := by
  unfold kvl
  rw [List.foldl_append, kvl_acc]; rfl
theorem kvl_cons (x : UInt8) (l : List UInt8) : kvl (x :: l) = x.toNat * 256 ^ l.length + kvl l := by
  rw [show x :: l = [x] ++ l from rfl, kvl_append]; simp [kvl]
theorem kvl_lt : ∀ l : List UInt8, kvl l < 256 ^ l.length
  | [] => by simp [kvl]
  | x :: l => by
    rw [kvl_cons, List.length_cons, Nat.pow_succ]
    have := kvl_lt l
    have hx := x.toNat_lt
    have : (x.toNat + 1) * 256 ^ l.length ≤ 256 * 256 ^ l.length := Nat.mul_le_mul_right _ (by omega)
    rw [Nat.add_mul] at this
    omega
theorem kvl_inj : ∀ {l m : List UInt8}, l.length = m.length → kvl l = kvl m → l = m
  | [], [], _, _ => rfl
  | x :: l, y :: m, hl, h => by
    rw [kvl_cons, kvl_cons] at h
    simp only [List.length_cons, Nat.add_right_cancel_iff] at hl
    rw [hl] at h
    have h1 := kvl_lt l
    have h2 := kvl_lt m
    rw [hl] at h1
    have hP : 0 < 256 ^ m.length := Nat.pos_of_neZero _
    have e1 : x.toNat = y.toNat := by
      have : (x.toNat * 256 ^ m.length + kvl l) / 256 ^ m.length = (y.toNat * 256 ^ m.length + kvl m) / 256 ^ m.length := by rw [h]
      rw [Nat.mul_comm, Nat.mul_add_div hP, Nat.div_eq_of_lt h1, Nat.mul_comm, Nat.mul_add_div hP, Nat.div_eq_of_lt h2] at this
      omega
    have e2 : x = y := UInt8.toNat_inj.1 e1
    subst e2
    rw [kvl_inj hl (by omega)]
theorem kvl_zeros : ∀ n, kvl (List.replicate n 0) = 0
  | 0 => rfl
  | n + 1 => by rw [List.replicate_succ, kvl_cons, kvl_zeros n]; simp
def mkl : Nat → Nat → List UInt8
  | 0, _ => []
  | m + 1, n => mkl m (n / 256) ++ [UInt8.ofNat (n % 256)]
theorem mkl_length : ∀ m n, (mkl m n).length = m
  | 0, n => rfl
  | m + 1, n => by rw [mkl, List.length_append, mkl_length m]; rfl
theorem kvl_mkl : ∀ m n, kvl (mkl m n) = n % 256 ^ m
  | 0, n => by simp [mkl, kvl, Nat.mod_one]
  | m + 1, n => by
    rw [mkl, kvl_append, kvl_mkl m]
    simp only [List.length_singleton, Nat.pow_one, kvl, List.foldl_cons, List.foldl_nil, Nat.zero_mul, Nat.zero_add]
    rw [UInt8.toNat_ofNat_of_lt' (show n % 256 < 256 by omega), Nat.pow_succ, Nat.mul_comm (256 ^ m) 256, Nat.mod_mul]; omega
def kv (v : Vec UInt8 16) : Nat := kvl v.l
def mk (n : Nat) : Vec UInt8 16 := ⟨mkl 16 n, mkl_length 16 n⟩
theorem p256 (n : Nat) : 256 ^ n = 2 ^ (8 * n) := by rw [Nat.pow_mul]
theorem kv_lt (v : Vec UInt8 16) : kv v < 2 ^ 128 := by
  have := kvl_lt v.l
  rw [v.h, p256] at this; exact this
theorem kv_inj {v w : Vec UInt8 16} (h : kv v = kv w) : v = w := Vec.ext (kvl_inj (by rw [v.h, w.h]) h)
theorem kv_mk {n : Nat} (h : n < 2 ^ 128) : kv (mk n) = n := by
  show kvl (mkl 16 n) = n
  rw [kvl_mkl, p256, Nat.mod_eq_of_lt h]
theorem kv_zero : kv (Dat.z : Vec UInt8 16) = 0 := kvl_zeros 16
theorem cmp_kvl : ∀ {l m : List UInt8}, l.length = m.length → cmpBytes l m = if kvl l < kvl m then -1 else if kvl m < kvl l then 1 else 0
  | [], [], _ => rfl
  | x :: l, y :: m, hl => by
    simp only [List.length_cons, Nat.add_right_cancel_iff] at hl
    rw [cmpBytes, kvl_cons, kvl_cons, hl]
    have h1 := kvl_lt l
    have h2 := kvl_lt m
    rw [hl] at h1
    have ih := cmp_kvl hl
    rcases Nat.lt_trichotomy x.toNat y.toNat with h | h | h
    · have h3 : (x.toNat + 1) * 256 ^ m.length ≤ y.toNat * 256 ^ m.length := Nat.mul_le_mul_right _ h
      rw [Nat.add_mul] at h3
      rw [if_pos (UInt8.lt_iff_toNat_lt.2 h), if_pos (by omega)]
    · have e : x = y := UInt8.toNat_inj.1 h
      subst e
      rw [if_neg (UInt8.lt_irrefl x), if_neg (UInt8.lt_irrefl x), ih]
      simp only [Nat.add_lt_add_iff_left]
    · have h3 : (y.toNat + 1) * 256 ^ m.length ≤ x.toNat * 256 ^ m.length := Nat.mul_le_mul_right _ h
      rw [Nat.add_mul] at h3
      rw [if_neg (fun h4 => by have := UInt8.lt_iff_toNat_lt.1 h4; omega), if_pos (UInt8.lt_iff_toNat_lt.2 h), if_neg (by omega), if_pos (by omega)]
theorem all16 (v : Vec UInt8 16) : ((v.l.drop (Int.toNat 0)).take (((16 : Int) - 0).toNat)) = v.l := by
  show (v.l.drop 0).take 16 = v.l
  rw [List.drop_zero, List.take_of_length_le (by rw [v.h]; exact Nat.le_refl _)]
def cmpK (v w : Vec UInt8 16) : Int := if kv v < kv w then -1 else if kv w < kv v then 1 else 0
theorem cmpK_eq (v w : Vec UInt8 16) : bytes_Compare ((v.l.drop (Int.toNat 0)).take (((16 : Int) - 0).toNat)) ((w.l.drop (Int.toNat 0)).take (((16 : Int) - 0).toNat)) = some (cmpK v w) := by
  rw [all16, all16]; unfold bytes_Compare cmpK kv
  rw [cmp_kvl (by rw [v.h, w.h])]
theorem cmpK_lt {v w : Vec UInt8 16} : cmpK v w < 0 ↔ kv v < kv w := by
  unfold cmpK
  by_cases h : kv v < kv w
  · rw [if_pos h]; omega
  · rw [if_neg h]
    by_cases h2 : kv w < kv v
    · rw [if_pos h2]; omega
    · rw [if_neg h2]; omega
theorem cmpK_ne {v w : Vec UInt8 16} : cmpK v w ≠ 0 ↔ kv v ≠ kv w := by
  unfold cmpK
  by_cases h : kv v < kv w
  · rw [if_pos h]; omega
  · rw [if_neg h]
    by_cases h2 : kv w < kv v
    · rw [if_pos h2]; omega
    · rw [if_neg h2]; omega
theorem cut16 : cut 16 0 (16 : Int) = some () := cut_ok (by omega) (by omega) (by omega)
theorem byte_and : ∀ r : Fin 8, ∀ x : Fin 256, 0 < r.val → ((UInt8.ofNat x.val) &&& ~~~(shr8 (UInt8.ofNat 255) (r.val : Int))).toNat = x.val / 2 ^ (8 - r.val) * 2 ^ (8 - r.val) := by decide +kernel
theorem byte_or : ∀ r : Fin 8, ∀ x : Fin 256, x.val % 2 ^ (8 - r.val) = 0 → ((UInt8.ofNat x.val) ||| (shr8 (UInt8.ofNat 128) (r.val : Int))).toNat = x.val + 2 ^ (7 - r.val) := by decide +kernel
theorem byte_and' {x : UInt8} {r : Nat} (h0 : 0 < r) (h : r < 8) : (x &&& ~~~(shr8 (UInt8.ofNat 255) (r : Int))).toNat = x.toNat / 2 ^ (8 - r) * 2 ^ (8 - r) := by
  have := byte_and ⟨r, h⟩ ⟨x.toNat, x.toNat_lt⟩ h0
  simpa using this
theorem byte_or' {x : UInt8} {r : Nat} (h : r < 8) (hx : x.toNat % 2 ^ (8 - r) = 0) : (x ||| (shr8 (UInt8.ofNat 128) (r : Int))).toNat = x.toNat + 2 ^ (7 - r) := by
  have := byte_or ⟨r, h⟩ ⟨x.toNat, x.toNat_lt⟩ hx
  simpa using this
theorem kv_part (v : Vec UInt8 16) {w : Nat} (hw : w < 16) : kv v = (kvl (v.l.take w) * 256 + (v.l[w]'(by rw [v.h]; exact hw)).toNat) * 256 ^ (15 - w) + kvl (v.l.drop (w + 1)) ∧ kvl (v.l.drop (w + 1)) < 256 ^ (15 - w) := by
  have hl : w < v.l.length := by rw [v.h]; exact hw
  have e : v.l = v.l.take w ++ (v.l[w] :: v.l.drop (w + 1)) := by rw [← List.drop_eq_getElem_cons hl, List.take_append_drop]
  have hd : (v.l.drop (w + 1)).length = 15 - w := by rw [List.length_drop, v.h]; omega
  refine ⟨?_, by have := kvl_lt (v.l.drop (w + 1)); rwa [hd] at this⟩
  unfold kv
  conv => lhs; rw [e]
  rw [kvl_append, kvl_cons, List.length_cons, hd, Nat.pow_succ, Nat.add_mul, Nat.mul_assoc, Nat.mul_comm 256, Nat.add_assoc]
theorem kv_setb (v : Vec UInt8 16) {w : Nat} (hw : w < 16) (b : UInt8) : kv (v.set w b) = (kvl (v.l.take w) * 256 + b.toNat) * 256 ^ (15 - w) + kvl (v.l.drop (w + 1)) := by
  have hl : w < v.l.length := by rw [v.h]; exact hw
  have hd : (v.l.drop (w + 1)).length = 15 - w := by rw [List.length_drop, v.h]; omega
  show kvl (v.l.set w b) = _
  rw [List.set_eq_take_append_cons_drop, if_pos hl, kvl_append, kvl_cons, List.length_cons, hd, Nat.pow_succ, Nat.add_mul, Nat.mul_assoc, Nat.mul_comm 256, Nat.add_assoc]
theorem pow_part {w r : Nat} (hw : w < 16) (hr : r ≤ 8) : 2 ^ (128 - (8 * w + r)) = 2 ^ (8 - r) * 256 ^ (15 - w) := by
  rw [p256, ← Nat.pow_add]; congr 1; omega
def cutK (v : Vec UInt8 16) (n : Int) : Vec UInt8 16 := mk (kv v / 2 ^ (128 - n.toNat) * 2 ^ (128 - n.toNat))
theorem cut_lt (v : Vec UInt8 16) (s : Nat) : kv v / s * s < 2 ^ 128 := Nat.lt_of_le_of_lt (Nat.div_mul_le_self _ _) (kv_lt v)
theorem kv_cut (v : Vec UInt8 16) (n : Int) : kv (cutK v n) = kv v / 2 ^ (128 - n.toNat) * 2 ^ (128 - n.toNat) := kv_mk (cut_lt v _)
theorem part_div {A M r s : Nat} (hM : 0 < M) (hr : r < M) : (A * M + r) / (s * M) = A / s := by
  rw [Nat.mul_comm s M, ← Nat.div_div_eq_div_mul, Nat.mul_comm A M, Nat.mul_add_div hM, Nat.div_eq_of_lt hr, Nat.add_zero]
theorem byte_div (A x : Nat) {r : Nat} (hr : r ≤ 8) : (A * 256 + x) / 2 ^ (8 - r) * 2 ^ (8 - r) = A * 256 + x / 2 ^ (8 - r) * 2 ^ (8 - r) := by
  have e9 : A * 256 = 2 ^ (8 - r) * (A * 2 ^ r) := by
    have e : 2 ^ r * 2 ^ (8 - r) = 256 := by rw [← Nat.pow_add, show r + (8 - r) = 8 by omega]
    rw [Nat.mul_comm (2 ^ (8 - r)), Nat.mul_assoc, e]
  generalize 2 ^ (8 - r) = s at e9 ⊢
  rw [e9]
  rcases Nat.eq_zero_or_pos s with rfl | hs
  · simp
  · rw [Nat.mul_add_div hs, Nat.add_mul, Nat.mul_comm s]
theorem key_Cut_eq (v : Vec UInt8 16) (n : Int) : key_Cut v n = some (cutK v n) := by
  unfold key_Cut
  by_cases h1 : n ≥ 128
  · rw [decide_eq_true h1, cond_t]
    congr 1
    refine kv_inj ?_; rw [kv_cut, show 128 - n.toNat = 0 by omega, Nat.pow_zero, Nat.div_one, Nat.mul_one]
  · rw [decide_eq_false h1, cond_f]
    by_cases h2 : n < 1
    · rw [decide_eq_true h2, cond_t]
      congr 1
      refine kv_inj ?_; rw [kv_cut, kv_zero, show 128 - n.toNat = 128 by omega, Nat.div_eq_of_lt (kv_lt v), Nat.zero_mul]
    · rw [decide_eq_false h2, cond_f]
      obtain ⟨m, rfl⟩ := Int.eq_ofNat_of_zero_le (show 0 ≤ n by omega)
      obtain ⟨w, r, rfl, hr⟩ : ∃ w r, m = 8 * w + r ∧ r < 8 := ⟨m / 8, m % 8, by omega, by omega⟩
      have hw : w < 16 := by omega
      have q : quoI ((8 * w + r : Nat) : Int) 8 = some (w : Int) := by rw [quoI_ok (by omega) (by omega)]; congr 1; omega
      have q2 : remI ((8 * w + r : Nat) : Int) 8 = some (r : Int) := by rw [remI_ok (by omega) (by omega)]; congr 1; omega
      have hcut : cut 16 0 (w : Int) = some () := cut_ok (by omega) (by omega) (by omega)
      rw [q, bind_s, hcut, bind_s, bind_s, bind_s, q2, bind_s]
      have hl : w < v.l.length := by rw [v.h]; exact hw
      -- the first bytes
      have hput : (Vec.put (Dat.z : Vec UInt8 16) (Int.toNat 0) (over (((Dat.z : Vec UInt8 16).l.drop (Int.toNat 0)).take (((w : Int) - 0).toNat)) ((v.l.drop (Int.toNat 0)).take (((w : Int) - 0).toNat)))).l = v.l.take w ++ List.replicate (16 - w) 0 := by
        have e1 : ((Dat.z : Vec UInt8 16).l.drop (Int.toNat 0)).take (((w : Int) - 0).toNat) = List.replicate w 0 := by
          show ((List.replicate 16 (0 : UInt8)).drop 0).take (((w : Int) - 0).toNat) = _
          rw [List.drop_zero, show (((w : Int) - 0).toNat) = w by omega, List.take_replicate, Nat.min_eq_left (by omega)]
        have e2 : (v.l.drop (Int.toNat 0)).take (((w : Int) - 0).toNat) = v.l.take w := by
          show (v.l.drop 0).take _ = _
          rw [List.drop_zero, show (((w : Int) - 0).toNat) = w by omega]
        have e3 : over (List.replicate w (0 : UInt8)) (v.l.take w) = v.l.take w := by
          unfold over
          rw [List.length_replicate, List.take_take, Nat.min_self, List.length_take, Nat.min_eq_left (by omega), List.drop_of_length_le (by simp), List.append_nil]
        have e4 : splice (Dat.z : Vec UInt8 16).l (Int.toNat 0) (v.l.take w) = v.l.take w ++ List.replicate (16 - w) 0 := by
          show splice (List.replicate 16 (0 : UInt8)) 0 (v.l.take w) = _
          unfold splice
          rw [List.take_zero, List.nil_append, List.length_take, Nat.min_eq_left (by omega), Nat.zero_add, List.drop_replicate]
        rw [e1, e2, e3]
        unfold Vec.put
        rw [dif_pos (by rw [e4]; simp; omega)]
        exact e4
      generalize Vec.put (Dat.z : Vec UInt8 16) (Int.toNat 0) (over (((Dat.z : Vec UInt8 16).l.drop (Int.toNat 0)).take (((w : Int) - 0).toNat)) ((v.l.drop (Int.toNat 0)).take (((w : Int) - 0).toNat))) = c at hput ⊢
      obtain ⟨p1, p2⟩ := kv_part v hw
      have hM : 0 < 256 ^ (15 - w) := Nat.pos_of_neZero _
      by_cases h0 : r = 0
      · subst h0
        rw [show decide (((0 : Nat) : Int) > 0) = false by decide, cond_f, bind_s]
        congr 1
        refine kv_inj ?_; rw [kv_cut, Int.toNat_natCast, pow_part hw (by omega), p1, part_div hM p2]
        have e5 : kv c = kvl (v.l.take w) * 256 ^ (16 - w) := by unfold kv; rw [hput, kvl_append, kvl_zeros, List.length_replicate, Nat.add_zero]
        have e6 : 256 ^ (16 - w) = 256 * 256 ^ (15 - w) := by rw [← Nat.pow_succ']; congr 1; omega
        have hx := (v.l[w]).toNat_lt
        rw [e5, e6, show 2 ^ (8 - 0) = 256 from rfl, Nat.mul_comm _ 256, Nat.mul_add_div (by omega), Nat.div_eq_of_lt hx, Nat.add_zero]
      · have hi : idx v.l (w : Int) = some v.l[w] := idx_nat hl
        have hci : w < c.l.length := by rw [c.h]; exact hw
        have hcnt : cnt (r : Int) = some r := by unfold cnt; rw [if_pos (by omega), Int.toNat_natCast]
        rw [decide_eq_true (show (r : Int) > 0 by omega), cond_t, hi, bind_s, hcnt, bind_s, idx_nat hci, bind_s, bind_s, bind_s]
        refine congrArg some (kv_inj ?_)
        rw [kv_cut, Int.toNat_natCast, Int.toNat_natCast, pow_part hw (by omega), p1, part_div hM p2, kv_setb c hw, byte_and' (by omega) hr, hput]
        have e7 : (v.l.take w ++ List.replicate (16 - w) 0).take w = v.l.take w := by rw [List.take_append_of_le_length (by simp; omega), List.take_take, Nat.min_self]
        have e8 : (v.l.take w ++ List.replicate (16 - w) 0).drop (w + 1) = List.replicate (15 - w) 0 := by
          rw [List.drop_append, List.drop_of_length_le (by simp; omega), List.nil_append, List.length_take, Nat.min_eq_left (by omega), List.drop_replicate, show 16 - w - (w + 1 - w) = 15 - w by omega]
        rw [e7, e8, kvl_zeros (15 - w), Nat.add_zero, ← byte_div (kvl (v.l.take w)) v.l[w].toNat (show r ≤ 8 by omega)]
        generalize (kvl (v.l.take w) * 256 + v.l[w].toNat) / 2 ^ (8 - r) = Z
        exact Nat.mul_assoc ..
end Go.Proofs.Ytpknphecmahkaaa.Tr
namespace Go.Proofs.Ytpknphecmahkaaa.Tr
open Go
set_option maxRecDepth 100000
theorem xor_zero {a b : Nat} : a ^^^ b = 0 ↔ a = b := by
  constructor
  · intro h
    apply Nat.eq_of_testBit_eq
    intro i
    have := Nat.testBit_xor a b i
    rw [h, Nat.zero_testBit] at this
    revert this
    cases a.testBit i <;> cases b.testBit i <;> decide
  · rintro rfl; exact Nat.xor_self a
theorem len8 : ∀ z : Fin 256, ∀ m : Fin 9, (z.val < 2 ^ m.val ↔ (math_bits_Len8_t1.getD z.val 0).toNat ≤ m.val) := by decide +kernel
theorem lead_eq (x y : UInt8) : ∃ c : Nat, math_bits_LeadingZeros8 (x ^^^ y) = some (c : Int) ∧ c ≤ 8 ∧ ∀ j, j ≤ 8 → (j ≤ c ↔ x.toNat / 2 ^ (8 - j) = y.toNat / 2 ^ (8 - j)) := by
  have hz := (x ^^^ y).toNat_lt
  have hl : math_bits_Len8_t1.length = 256 := by decide +kernel
  have h8 := len8 ⟨(x ^^^ y).toNat, hz⟩
  have hL : (math_bits_Len8_t1.getD (x ^^^ y).toNat 0).toNat ≤ 8 := (h8 ⟨8, by omega⟩).1 hz
  refine ⟨8 - (math_bits_Len8_t1.getD (x ^^^ y).toNat 0).toNat, ?_, by omega, fun j hj => ?_⟩
  · unfold math_bits_LeadingZeros8 math_bits_Len8
    have hi : (x ^^^ y).toNat < math_bits_Len8_t1.length := by rw [hl]; exact hz
    have e : math_bits_Len8_t1.getD (x ^^^ y).toNat 0 = math_bits_Len8_t1[(x ^^^ y).toNat] := by rw [List.getD_eq_getElem?_getD, List.getElem?_eq_getElem hi]; rfl
    rw [idx_nat hi, bind_s, bind_s, ← e, subI_ok (by omega) (by omega), bind_s]
    congr 1; omega
  · have h9 := h8 ⟨8 - j, by omega⟩
    dsimp only at h9
    have h10 : x.toNat / 2 ^ (8 - j) = y.toNat / 2 ^ (8 - j) ↔ (x ^^^ y).toNat < 2 ^ (8 - j) := by
      rw [UInt8.toNat_xor, ← xor_zero, ← Nat.xor_div_two_pow]
      constructor
      · intro h
        have hP : 0 < 2 ^ (8 - j) := Nat.pos_of_neZero _
        rcases Nat.lt_or_ge (x.toNat ^^^ y.toNat) (2 ^ (8 - j)) with h1 | h1
        · exact h1
        · have := Nat.div_pos h1 hP; omega
      · exact Nat.div_eq_of_lt
    rw [h10, h9]; omega
def agree (a b n : Nat) : Prop := a / 2 ^ (128 - n) = b / 2 ^ (128 - n)
theorem agree.le {a b n m : Nat} (h : agree a b n) (hm : m ≤ n) (hn : n ≤ 128) : agree a b m := by
  unfold agree at *
  have e : 2 ^ (128 - m) = 2 ^ (128 - n) * 2 ^ (n - m) := by rw [← Nat.pow_add]; congr 1; omega
  rw [e, ← Nat.div_div_eq_div_mul, ← Nat.div_div_eq_div_mul, h]
theorem part_byte {P x y j : Nat} (hj : j ≤ 8) : ((P * 256 + x) / 2 ^ (8 - j) = (P * 256 + y) / 2 ^ (8 - j)) ↔ x / 2 ^ (8 - j) = y / 2 ^ (8 - j) := by
  have e9 : P * 256 = 2 ^ (8 - j) * (P * 2 ^ j) := by
    have e : 2 ^ j * 2 ^ (8 - j) = 256 := by rw [← Nat.pow_add, show j + (8 - j) = 8 by omega]
    rw [Nat.mul_comm (2 ^ (8 - j)), Nat.mul_assoc, e]
  have hP : 0 < 2 ^ (8 - j) := Nat.pos_of_neZero _
  rw [e9, Nat.mul_add_div hP, Nat.mul_add_div hP]
  omega
theorem common_eq (v w : Vec UInt8 16) : ∃ m : Nat, key_Common v w = some (m : Int) ∧ m ≤ 128 ∧ ∀ n, n ≤ 128 → (n ≤ m ↔ agree (kv v) (kv w) n) := by
  unfold key_Common
  have hv : ∀ {i : Nat}, i < 16 → i < v.l.length := fun h => by rw [v.h]; exact h
  have hw : ∀ {i : Nat}, i < 16 → i < w.l.length := fun h => by rw [w.h]; exact h
  have lead : ∀ i : Nat, ∃ c : Nat, math_bits_LeadingZeros8 (v.l.getD i 0 ^^^ w.l.getD i 0) = some (c : Int) ∧ c ≤ 8 ∧ ∀ j, j ≤ 8 → (j ≤ c ↔ (v.l.getD i 0).toNat / 2 ^ (8 - j) = (w.l.getD i 0).toNat / 2 ^ (8 - j)) := fun i => lead_eq _ _
  obtain ⟨lz, lead⟩ := Classical.axiomOfChoice lead
  have gv : ∀ {i : Nat} (h : i < 16), v.l[i]'(hv h) = v.l.getD i 0 := fun h => by rw [List.getD_eq_getElem?_getD, List.getElem?_eq_getElem (hv h)]; rfl
  have gw : ∀ {i : Nat} (h : i < 16), w.l[i]'(hw h) = w.l.getD i 0 := fun h => by rw [List.getD_eq_getElem?_getD, List.getElem?_eq_getElem (hw h)]; rfl
  rcases loopO_find (f := fun s => key_Common_l1 v w s) (fun i => (i : Int)) 16 (fun i => decide (v.l.getD i 0 ≠ w.l.getD i 0)) (fun i => .inr ((8 * i + lz i : Nat) : Int)) (y := .inl ()) (by omega) (fun i hi hp => by
      have e : v.l.getD i 0 = w.l.getD i 0 := by simpa using hp
      unfold key_Common_l1
      rw [show (16 : Int) = ((16 : Nat) : Int) from rfl, lt_t hi, cond_t, idx_nat (hv hi), bind_s, idx_nat (hw hi), bind_s, gv hi, gw hi, cond_false (decide_eq_false (fun h => h e)), addI_1 (by omega), bind_s]) (fun i hi hp => by
      have e : v.l.getD i 0 ≠ w.l.getD i 0 := by simpa using hp
      obtain ⟨c1, c2, c3⟩ := lead i
      unfold key_Common_l1
      rw [show (16 : Int) = ((16 : Nat) : Int) from rfl, lt_t hi, cond_t, idx_nat (hv hi), bind_s, idx_nat (hw hi), bind_s, gv hi, gw hi, cond_true (decide_eq_true e), mulI_ok (by omega) (by omega), bind_s, bind_s, bind_s, c1, bind_s, addI_ok (by omega) (by omega), bind_s]
      rfl) (by unfold key_Common_l1; rfl) (s := (0 : Int)) rfl with ⟨i, hi, hp, hall, e⟩ | ⟨hall, e⟩
  · rw [e, bind_s, elS_inr]
    have hne : v.l.getD i 0 ≠ w.l.getD i 0 := by simpa using hp
    obtain ⟨c1, c2, c3⟩ := lead i
    refine ⟨_, rfl, by omega, fun n hn => ?_⟩
    generalize lz i = c at c1 c2 c3 ⊢
    have hpre : v.l.take i = w.l.take i := by
      apply List.ext_getElem
      · simp [v.h, w.h]
      · intro j h1 h2
        have hj : j < i := by simp at h1; omega
        have := hall j hj
        rw [List.getElem_take, List.getElem_take, gv (by omega), gw (by omega)]
        simpa using this
    obtain ⟨p1, p2⟩ := kv_part v hi
    obtain ⟨q1, q2⟩ := kv_part w hi
    rw [gv hi] at p1
    rw [gw hi] at q1
    rw [← hpre] at q1
    have hM : 0 < 256 ^ (15 - i) := Nat.pos_of_neZero _
    have key : ∀ j, j ≤ 8 → (agree (kv v) (kv w) (8 * i + j) ↔ (v.l.getD i 0).toNat / 2 ^ (8 - j) = (w.l.getD i 0).toNat / 2 ^ (8 - j)) := fun j hj => by
      unfold agree
      rw [pow_part hi hj, p1, q1, part_div hM p2, part_div hM q2, part_byte hj]
    have h0 : agree (kv v) (kv w) (8 * i) := by
      have := (key 0 (by omega)).2 (by
        have h1 := (v.l.getD i 0).toNat_lt
        have h2 := (w.l.getD i 0).toNat_lt
        show _ / 256 = _ / 256
        omega)
      simpa using this
    rcases Nat.lt_or_ge n (8 * i + 1) with h1 | h1
    · exact ⟨fun _ => h0.le (by omega) (by omega), fun _ => by omega⟩
    · have hc8 : c < 8 := by
        rcases Nat.lt_or_ge c 8 with h | h
        · exact h
        · have := (c3 8 (by omega)).1 (by omega)
          simp only [Nat.sub_self, Nat.pow_zero, Nat.div_one] at this
          exact absurd (UInt8.toNat_inj.1 this) hne
      rcases Nat.lt_or_ge (8 * i + 8) n with h2 | h2
      · refine ⟨fun h => by omega, fun h => ?_⟩
        have := (key 8 (by omega)).1 (h.le (by omega) hn)
        simp only [Nat.sub_self, Nat.pow_zero, Nat.div_one] at this
        exact absurd (UInt8.toNat_inj.1 this) hne
      · obtain ⟨j, rfl⟩ : ∃ j, n = 8 * i + j := ⟨n - 8 * i, by omega⟩
        rw [key j (by omega), ← c3 j (by omega)]; omega
  · rw [e, bind_s, elS_inl]
    refine ⟨128, rfl, Nat.le_refl _, fun n hn => ⟨fun _ => ?_, fun _ => hn⟩⟩
    have : v = w := by
      refine Vec.ext (List.ext_getElem (by rw [v.h, w.h]) fun j h1 h2 => ?_)
      have hj : j < 16 := by rw [v.h] at h1; exact h1
      have := hall j hj
      rw [gv hj, gw hj]; simpa using this
    subst this
    rfl
def PM (p : Prefix) : Prop := (p.Bits = 32 ∨ p.Bits = 128) ∧ 0 ≤ p.Len ∧ p.Len ≤ p.Bits ∧ kv p.Key % 2 ^ (128 - p.Len.toNat) = 0
instance (p : Prefix) : Decidable (PM p) := by unfold PM; exact inferInstance
theorem cut_same {v : Vec UInt8 16} {n : Int} : cutK v n = v ↔ kv v % 2 ^ (128 - n.toNat) = 0 := by
  constructor
  · intro h
    have := congrArg kv h
    rw [kv_cut] at this
    have h2 := Nat.div_add_mod (kv v) (2 ^ (128 - n.toNat))
    rw [Nat.mul_comm, this] at h2; omega
  · intro h
    refine kv_inj ?_; rw [kv_cut]
    exact Nat.div_mul_cancel (Nat.dvd_of_mod_eq_zero h)
theorem key_May_eq (p : Prefix) : key_May p = some (decide (PM p)) := by
  unfold key_May key_kind
  rw [bind_s]
  by_cases h : (p.Bits = 32 ∨ p.Bits = 128) ∧ 0 ≤ p.Len ∧ p.Len ≤ p.Bits
  · rw [cond_false (by
      simp only [Bool.or_eq_false_iff, Bool.not_eq_false', Bool.or_eq_true, decide_eq_true_eq, decide_eq_false_iff_not]; omega), key_Cut_eq, bind_s]
    refine congrArg some ?_; rw [decide_eq_decide, cut_same]
    unfold PM
    exact ⟨fun h2 => ⟨h.1, h.2.1, h.2.2, h2⟩, fun h2 => h2.2.2.2⟩
  · rw [cond_true (by
      simp only [Bool.or_eq_true, Bool.not_eq_true', Bool.or_eq_false_iff, decide_eq_true_eq, decide_eq_false_iff_not]; omega)]
    refine congrArg some ?_; rw [eq_comm, decide_eq_false_iff_not]
    exact fun h2 => h ⟨h2.1, h2.2.1, h2.2.2.1⟩
def KF (p : Prefix) (k : Vec UInt8 16) : Prop := PM p ∧ kv k % 2 ^ (128 - p.Bits.toNat) = 0 ∧ agree (kv p.Key) (kv k) p.Len.toNat
instance (p : Prefix) (k : Vec UInt8 16) : Decidable (KF p k) := by unfold KF agree; exact inferInstance
theorem PM.len {p : Prefix} (h : PM p) : p.Len.toNat ≤ p.Bits.toNat ∧ p.Bits.toNat ≤ 128 ∧ (p.Len.toNat : Int) = p.Len ∧ (p.Bits.toNat : Int) = p.Bits := by
  obtain ⟨h1, h2, h3, -⟩ := h; omega
theorem key_Fits_eq (p : Prefix) (k : Vec UInt8 16) : key_Fits p k = some (decide (KF p k)) := by
  unfold key_Fits
  rw [key_May_eq, bind_s]
  by_cases h : PM p
  · rw [decide_eq_true h, show (!(!true)) = true from rfl, gb_true, key_Cut_eq, bind_s]
    by_cases h2 : cutK k p.Bits = k
    · rw [cond_false (by simp [h2])]
      obtain ⟨m, e, h3, h4⟩ := common_eq p.Key k
      obtain ⟨l1, l2, l3, l4⟩ := h.len
      rw [e, bind_s]
      refine congrArg some ?_; rw [decide_eq_decide]
      unfold KF
      rw [← h4 _ (by omega)]
      constructor
      · intro h5; exact ⟨h, cut_same.1 h2, by omega⟩
      · intro h5; have := h5.2.2; omega
    · rw [cond_true (by simp [h2])]
      refine congrArg some ?_; rw [eq_comm, decide_eq_false_iff_not]
      exact fun h5 => h2 (cut_same.2 h5.2.1)
  · rw [decide_eq_false h, show (!(!false)) = false from rfl, gb_false, bind_s, cond_true (by simp)]
    refine congrArg some ?_; rw [eq_comm, decide_eq_false_iff_not]
    exact fun h5 => h h5.1
def PC (p q : Prefix) : Prop := PM p ∧ PM q ∧ p.Bits = q.Bits ∧ p.Len ≤ q.Len ∧ agree (kv p.Key) (kv q.Key) p.Len.toNat
instance (p q : Prefix) : Decidable (PC p q) := by unfold PC agree; exact inferInstance
theorem mod_le {a m n : Nat} (h : a % 2 ^ n = 0) (hm : m ≤ n) : a % 2 ^ m = 0 :=
  Nat.mod_eq_zero_of_dvd (Nat.dvd_trans (Nat.pow_dvd_pow 2 hm) (Nat.dvd_of_mod_eq_zero h))
theorem key_Covers_eq (p q : Prefix) : key_Covers p q = some (decide (PC p q)) := by
  unfold key_Covers
  rw [key_May_eq, bind_s]
  by_cases h : PM p
  · rw [decide_eq_true h, show (!(!true)) = true from rfl, gb_true, key_May_eq, bind_s]
    by_cases h2 : PM q ∧ p.Bits = q.Bits ∧ p.Len ≤ q.Len
    · rw [cond_false (by simp [h2]), key_Fits_eq, bind_s]
      refine congrArg some ?_; rw [decide_eq_decide]
      unfold KF PC
      obtain ⟨l1, l2, l3, l4⟩ := h2.1.len
      constructor
      · intro h3; exact ⟨h, h2.1, h2.2.1, h2.2.2, h3.2.2⟩
      · intro h3; exact ⟨h, mod_le h2.1.2.2.2 (by rw [h2.2.1]; omega), h3.2.2.2.2⟩
    · rw [cond_true (by
        simp only [Bool.or_eq_true, Bool.not_eq_true', decide_eq_true_eq, decide_eq_false_iff_not, Bool.not_true, Bool.false_eq_true, false_or]
        by_cases g1 : PM q
        · by_cases g2 : p.Bits = q.Bits
          · right; have : ¬ p.Len ≤ q.Len := fun g3 => h2 ⟨g1, g2, g3⟩; omega
          · exact .inl (.inr g2)
        · exact .inl (.inl g1))]
      refine congrArg some ?_; rw [eq_comm, decide_eq_false_iff_not]
      exact fun h5 => h2 ⟨h5.2.1, h5.2.2.1, h5.2.2.2.1⟩
  · rw [decide_eq_false h, show (!(!false)) = false from rfl, gb_false, bind_s, cond_true (by simp)]
    refine congrArg some ?_; rw [eq_comm, decide_eq_false_iff_not]
    exact fun h5 => h h5.1
def PL (p q : Prefix) : Prop := PM p ∧ PM q ∧ (p.Bits < q.Bits ∨ p.Bits = q.Bits ∧ (kv p.Key < kv q.Key ∨ kv p.Key = kv q.Key ∧ p.Len < q.Len))
instance (p q : Prefix) : Decidable (PL p q) := by unfold PL; exact inferInstance
theorem key_Less_eq (p q : Prefix) : key_Less p q = some (decide (PL p q)) := by
  unfold key_Less
  rw [key_May_eq, bind_s]
  by_cases h : PM p
  · rw [decide_eq_true h, show (!(!true)) = true from rfl, gb_true, key_May_eq, bind_s]
    by_cases h2 : PM q
    · rw [decide_eq_true h2, show ((!true) || (!true)) = false from rfl, cond_f]
      have b1 := h.1
      have b2 := h2.1
      by_cases h3 : p.Bits = q.Bits
      · rw [cond_false (by simp [h3]), cut16, bind_s, bind_s, cmpK_eq, bind_s]
        have c1 := @cmpK_ne p.Key q.Key
        have c2 := @cmpK_lt p.Key q.Key
        by_cases h4 : kv p.Key = kv q.Key
        · rw [cond_false (decide_eq_false (fun h => c1.1 h h4))]
          refine congrArg some ?_; rw [decide_eq_decide]
          unfold PL
          exact ⟨fun h5 => ⟨h, h2, .inr ⟨h3, .inr ⟨h4, h5⟩⟩⟩, fun h5 => by obtain ⟨-, -, h5⟩ := h5; omega⟩
        · rw [cond_true (decide_eq_true (c1.2 h4))]
          refine congrArg some ?_; rw [decide_eq_decide, c2]
          unfold PL
          exact ⟨fun h5 => ⟨h, h2, .inr ⟨h3, .inl h5⟩⟩, fun h5 => by obtain ⟨-, -, h5⟩ := h5; omega⟩
      · rw [cond_true (by simp [h3])]
        refine congrArg some ?_; rw [decide_eq_decide]
        unfold PL
        exact ⟨fun h5 => ⟨h, h2, .inl (by omega)⟩, fun h5 => by obtain ⟨-, -, h5⟩ := h5; omega⟩
    · rw [decide_eq_false h2, cond_true (by simp)]
      refine congrArg some ?_; rw [eq_comm, decide_eq_false_iff_not]
      exact fun h5 => h2 h5.2.1
  · rw [decide_eq_false h, show (!(!false)) = false from rfl, gb_false, bind_s, cond_true (by simp)]
    refine congrArg some ?_; rw [eq_comm, decide_eq_false_iff_not]
    exact fun h5 => h h5.1
end Go.Proofs.Ytpknphecmahkaaa.Tr
