/- Arrays. Conditions: none. -/
import Derived.Test.YtfdmajkeihdhnaaFn
namespace Go.Proofs.Ytfdmajkeihdhnaa.Tr
open Go Go.RowKit
set_option linter.unusedVariables false
set_option linter.unnecessarySimpa false

structure Vec (α : Type) (n : Nat) where
  l : List α
  h : l.length = n
theorem Vec.ext {α : Type} {n : Nat} {x y : Vec α n} (h : x.l = y.l) : x = y := by cases x; cases y; cases h; rfl
instance {α : Type} {n : Nat} [DecidableEq α] : DecidableEq (Vec α n) := fun x y => if h : x.l = y.l then isTrue (Vec.ext h) else isFalse fun e => h (by rw [e])
def Vec.set {α : Type} {n : Nat} (v : Vec α n) (k : Nat) (x : α) : Vec α n := ⟨v.l.set k x, by rw [List.length_set, v.h]⟩
def Vec.put {α : Type} {n : Nat} (v : Vec α n) (k : Nat) (ys : List α) : Vec α n := if h : (splice v.l k ys).length = n then ⟨splice v.l k ys, h⟩ else v
def Vec.rep {α : Type} (n : Nat) (x : α) : Vec α n := ⟨List.replicate n x, by simp⟩
instance {α : Type} {n : Nat} [Inhabited α] : Inhabited (Vec α n) := ⟨Vec.rep n default⟩
theorem flat_seg {zs : List Value} : ∀ (n j : Nat), j < n → seg (List.replicate n zs).flatten (j * zs.length) zs.length = zs
  | n + 1, 0, _ => by simp [seg, List.replicate_succ]
  | n + 1, j + 1, h => by
    have := flat_seg (zs := zs) n j (by omega)
    rw [List.replicate_succ, List.flatten_cons, Nat.succ_mul, Nat.add_comm]
    unfold seg at *
    rw [← List.drop_drop, List.drop_left]; exact this
theorem flat_len {zs : List Value} (n : Nat) : (List.replicate n zs).flatten.length = n * zs.length := by
  simp [List.length_flatten]
instance instVec {α : Type} {n : Nat} [i : Dat α] [hn : BoolIs (Nat.ble 1 n) true] : Dat (Vec α n) where
  agg := true
  sz := n * Dat.sz α
  rd A w cs x := cs.length = n * Dat.sz α ∧ elemsIn A w cs x.l
  wf x := ∀ y ∈ x.l, Dat.wf y
  len h := h.1
  one h := by cases h
  pos := Nat.mul_pos (Nat.le_of_ble_eq_true hn.h) Dat.pos
  ok {A w cs x} h y hy := by
    obtain ⟨j, hj, rfl⟩ := List.getElem_of_mem hy
    exact Dat.ok (h.2 j hj)
  plain h := by cases h
  mono k h := ⟨h.1, h.2.keep k⟩
  scal {A w cs x} h := h.2.scal (by rw [h.1, x.h])
  z := Vec.rep n Dat.z
  zc := (List.replicate n (Dat.zc α)).flatten
  zrd {A w} := by
    have hl := zc_length α
    refine ⟨by rw [flat_len, hl], fun j hj => ?_⟩
    have hj' : j < n := by simpa [Vec.rep] using hj
    have := flat_seg (zs := Dat.zc α) n j hj'
    rw [hl] at this
    rw [this]
    simp only [Vec.rep, List.getElem_replicate]; exact Dat.zrd
instance {α : Type} {n : Nat} [i : Dat α] [hn : BoolIs (Nat.ble 1 n) true] [h : Flat α i] : Flat (Vec α n) instVec := ⟨fun ⟨h1, h2⟩ => ⟨h1, fun j hj => h.h (h2 j hj)⟩⟩

theorem elemsIn.all {α : Type} [Dat α] {A : Nat → Prop} {w : World} {cs : List Value} {xs : List α} (h : elemsIn A w cs xs) {k m : Nat} (hm : k + m ≤ xs.length) (hl : xs.length * Dat.sz α ≤ cs.length) : elemsIn A w (seg cs (k * Dat.sz α) (m * Dat.sz α)) ((xs.drop k).take m) := fun j hj => by
  have hj' : j < m := by simp at hj; omega
  have hfit : k * Dat.sz α + m * Dat.sz α ≤ cs.length := Nat.le_trans (by rw [← Nat.add_mul]; exact Nat.mul_le_mul_right _ hm) hl
  rw [seg_seg (by rw [← Nat.succ_mul]; exact Nat.mul_le_mul_right _ (by omega)) hfit, ← Nat.add_mul]
  have e : ((xs.drop k).take m)[j] = xs[k + j]'(by omega) := by rw [List.getElem_take, List.getElem_drop]
  rw [e]; exact h _ (by omega)
section pl
variable {α : Type} {n : Nat} [i : Dat α] [hn : BoolIs (Nat.ble 1 n) true] {C : Ct} {o : Nat} {v : Vec α n} {upd : Vec α n → Ct}
/-- an element of an array within a private block -/
theorem Pl.vec (h : Pl C o (Vec α n) instVec v upd) {k : Int} {x : α} (hk : idx v.l k = some x) : Pl C (o + k.toNat * Dat.sz α) α i x fun y => upd (v.set k.toNat y) := by
  obtain ⟨h1, h2⟩ := idx_some hk
  obtain ⟨h3, h4⟩ := List.getElem?_eq_some_iff.1 h2
  have hv := v.h
  have hkn : k.toNat * Dat.sz α + Dat.sz α ≤ n * Dat.sz α := by rw [← Nat.succ_mul]; exact Nat.mul_le_mul_right _ (by omega)
  refine ⟨⟨fun {A w cs} hc => ?_⟩, fun y => ⟨fun {A w cs ds} hc hd => ?_⟩⟩
  · obtain ⟨g1, g2, g3⟩ := h.rd.h hc
    have g1 : o + n * Dat.sz α ≤ cs.length := g1
    refine ⟨by omega, ?_⟩
    have g4 := g3 k.toNat h3
    rw [h4] at g4
    have e : seg (seg cs o (Dat.sz (Vec α n))) (k.toNat * Dat.sz α) (Dat.sz α) = seg cs (o + k.toNat * Dat.sz α) (Dat.sz α) := seg_seg hkn g1
    rwa [e] at g4
  · obtain ⟨g1, g2, g3⟩ := h.rd.h hc
    have g1 : o + n * Dat.sz α ≤ cs.length := g1
    have l2 := Dat.len hd
    have hsl : (seg cs o (n * Dat.sz α)).length = n * Dat.sz α := seg_length g1
    have hes : Dat.rd A w (setSeg (seg cs o (n * Dat.sz α)) (k.toNat * Dat.sz α) ds) (v.set k.toNat y) := by
      refine ⟨by rw [setSeg_length (by omega), hsl], fun q hq => ?_⟩
      have hq' : q < v.l.length := by simpa [Vec.set] using hq
      by_cases hqk : q = k.toNat
      · subst hqk
        have e9 := seg_setSeg_same (cs := seg cs o (n * Dat.sz α)) (o := k.toNat * Dat.sz α) (vs := ds) (by omega)
        rw [l2] at e9
        rw [e9]
        simp only [Vec.set, List.getElem_set_self]; exact hd
      · rw [seg_setSeg_other (by omega) (by rw [hsl, ← Nat.succ_mul]; exact Nat.mul_le_mul_right _ (by omega)) ?_]
        · simp only [Vec.set, List.getElem_set_ne (fun h => hqk h.symm)]; exact g3 q hq'
        · rcases Nat.lt_or_ge q k.toNat with h6 | h6
          · left; rw [← Nat.succ_mul]; exact Nat.mul_le_mul_right _ (by omega)
          · right; rw [l2, ← Nat.succ_mul]; exact Nat.mul_le_mul_right _ (by omega)
    obtain ⟨-, g5⟩ := (h.st (v.set k.toNat y)).h hc hes
    refine ⟨by omega, ?_⟩
    have e : setSeg cs o (setSeg (seg cs o (n * Dat.sz α)) (k.toNat * Dat.sz α) ds) = setSeg cs (o + k.toNat * Dat.sz α) ds := by
      have hl2 : (setSeg (seg cs o (n * Dat.sz α)) (k.toNat * Dat.sz α) ds).length = n * Dat.sz α := by rw [setSeg_length (by omega), hsl]
      refine getD_ext (by rw [setSeg_length (by omega), setSeg_length (by omega)]) fun j hj => ?_
      rw [setSeg_length (by omega)] at hj
      rw [setSeg_getD (cs := cs) (o := o) (by omega), setSeg_getD (cs := cs) (o := o + k.toNat * Dat.sz α) (by omega), hl2]
      by_cases c1 : o ≤ j ∧ j < o + n * Dat.sz α
      · rw [if_pos c1, setSeg_getD (by omega)]
        by_cases c2 : k.toNat * Dat.sz α ≤ j - o ∧ j - o < k.toNat * Dat.sz α + ds.length
        · rw [if_pos c2, if_pos (by omega)]; congr 1; omega
        · rw [if_neg c2, if_neg (by omega), seg_getD (by omega)]; congr 1; omega
      · rw [if_neg c1, if_neg (by omega)]
    rwa [e] at g5
/-- some elements of an array within a private block -/
theorem PlS.vec (h : Pl C o (Vec α n) instVec v upd) {k m : Nat} (hk : k + m ≤ n) (hmo : n ≤ most) : PlS C (o + k * Dat.sz α) α i ((v.l.drop k).take m) fun ys => upd (v.put k ys) := by
  have hv := v.h
  have hl : ((v.l.drop k).take m).length = m := by simp; omega
  have hfit0 : k * Dat.sz α + m * Dat.sz α ≤ n * Dat.sz α := by rw [← Nat.add_mul]; exact Nat.mul_le_mul_right _ hk
  refine ⟨fun _ => by omega, fun {A w cs} hc => ?_, fun {A w cs news} ys hy hc hnw he => ?_⟩
  · obtain ⟨g1, g2, g3⟩ := h.rd.h hc
    have g1 : o + n * Dat.sz α ≤ cs.length := g1
    rw [hl]
    refine ⟨by omega, ?_⟩
    have hsl : (seg cs o (n * Dat.sz α)).length = n * Dat.sz α := seg_length g1
    have g4 := g3.all (k := k) (m := m) (by omega) (by rw [hv]; exact Nat.le_of_eq hsl.symm)
    have e : seg (seg cs o (Dat.sz (Vec α n))) (k * Dat.sz α) (m * Dat.sz α) = seg cs (o + k * Dat.sz α) (m * Dat.sz α) := seg_seg hfit0 g1
    rwa [e] at g4
  · obtain ⟨g1, g2, g3⟩ := h.rd.h hc
    have g1 : o + n * Dat.sz α ≤ cs.length := g1
    have hsl : (seg cs o (n * Dat.sz α)).length = n * Dat.sz α := seg_length g1
    have hyl : ys.length = m := by omega
    have hsp : (splice v.l k ys).length = n := by rw [splice_len (by omega)]; omega
    have hes : Dat.rd A w (setSeg (seg cs o (n * Dat.sz α)) (k * Dat.sz α) news) (v.put k ys) := by
      have h8 := elemsIn.splice (k := k) g3 he hnw (by rw [hv]; exact Nat.le_of_eq hsl.symm) (by omega) (by
        have e : (seg cs o (Dat.sz (Vec α n))).length = n * Dat.sz α := hsl
        rw [e, hyl]; exact Nat.mul_le_mul_right _ hk)
      refine ⟨by rw [setSeg_length (by rw [hnw, hyl, hsl]; omega), hsl], ?_⟩
      unfold Vec.put
      rw [dif_pos hsp]; exact h8
    obtain ⟨-, g5⟩ := (h.st (v.put k ys)).h hc hes
    have e : setSeg cs o (setSeg (seg cs o (n * Dat.sz α)) (k * Dat.sz α) news) = setSeg cs (o + k * Dat.sz α) news := by
      have hnl : news.length = m * Dat.sz α := by rw [hnw, hyl]
      have hl2 : (setSeg (seg cs o (n * Dat.sz α)) (k * Dat.sz α) news).length = n * Dat.sz α := by rw [setSeg_length (by omega), hsl]
      refine getD_ext (by rw [setSeg_length (by omega), setSeg_length (by omega)]) fun j hj => ?_
      rw [setSeg_length (by omega)] at hj
      rw [setSeg_getD (cs := cs) (o := o) (by omega), setSeg_getD (cs := cs) (o := o + k * Dat.sz α) (by omega), hl2]
      by_cases c1 : o ≤ j ∧ j < o + n * Dat.sz α
      · rw [if_pos c1, setSeg_getD (by omega)]
        by_cases c2 : k * Dat.sz α ≤ j - o ∧ j - o < k * Dat.sz α + news.length
        · rw [if_pos c2, if_pos (by omega)]; congr 1; omega
        · rw [if_neg c2, if_neg (by omega), seg_getD (by omega)]; congr 1; omega
      · rw [if_neg c1, if_neg (by omega)]
    rwa [e] at g5
end pl

/-- what a program's tables say of an array's type -/
class TAr (P : Program) (t : TypeId) (n : outParam Nat) (e : outParam TypeId) : Prop where
  h : P.underlying t = some (.array n e)
section ops
variable {P : Program} {B0 : Nat} {A : Nat → Prop} {Ω : List Pe} {Γ : Env} {dst : Option Tmp} {ty : TypeId} {pos : String} {aft : Array Edge} {gd : Option (Nat × Bool)}
variable {α : Type} {i : Dat α} {t e : TypeId} {n : Nat}
/-- the place of an element of an array in a private block -/
theorem OpY.indexAr [S : TAr P t n e] [T : TDat P e α i] {x y : Operand} {σ : Ty} {b o : Nat} {k : Int} [hx : Has Γ x (Pt b o)] [Has Γ y σ] [hy : AsIx σ k] (h0 : 0 ≤ k) (h1 : k < n) :
    OpY P B0 A Ω Γ ⟨dst, .indexAddr t x y, ty, pos, aft, gd⟩ (Pt b (o + k.toNat * Dat.sz α)) :=
  OpY.val fun a w hl => by
    have e1 : a.eval x = .pointer (some ⟨b, o, none⟩) := Has.ev (x := x) (τ := Pt b o) (op := .indexAddr t x y) (by simp [Op.operands]) hl
    obtain ⟨kd, e2⟩ := hy.h (Has.ev (x := y) (τ := σ) (op := .indexAddr t x y) (by simp [Op.operands]) hl)
    refine ⟨_, ?_, rfl⟩
    have hin : 0 ≤ k ∧ k < (n : Int) := ⟨h0, h1⟩
    simp only [execOp, e1, e2, Instr.indexAt, asIntOf, Instr.sureAddr, Sem.run_bind, Sem.run_pure, Result.andThen_ok, run_underlying S.h, hin, and_self, if_true, T.sz, addr_add]
/-- the place of an element of an array that is data -/
theorem OpY.indexArD [S : TAr P t n e] [T : TDat P e α i] [hn : BoolIs (Nat.ble 1 n) true] {x y : Operand} {τ σ : Ty} {v : Vec α n} {k : Int} {z : α} [hx : Has Γ x τ] [hp : AsPtr τ (Vec α n) instVec v] [Has Γ y σ] [hy : AsIx σ k] (hk : idx v.l k = some z) :
    OpY P B0 A Ω Γ ⟨dst, .indexAddr t x y, ty, pos, aft, gd⟩ (PtrD z) :=
  OpY.val fun a w hl => by
    obtain ⟨b, o, cs, e1, hA, hr, hl2, he⟩ := hp.le _ _ _ (Has.ev (x := x) (τ := τ) (op := .indexAddr t x y) (by simp [Op.operands]) hl)
    obtain ⟨kd, e2⟩ := hy.h (Has.ev (x := y) (τ := σ) (op := .indexAddr t x y) (by simp [Op.operands]) hl)
    obtain ⟨h1, h2⟩ := idx_some hk
    obtain ⟨h3, h4⟩ := List.getElem?_eq_some_iff.1 h2
    have hv := v.h
    have hkn : k.toNat * Dat.sz α + Dat.sz α ≤ n * Dat.sz α := by rw [← Nat.succ_mul]; exact Nat.mul_le_mul_right _ (by omega)
    refine ⟨_, ?_, b, o + k.toNat * Dat.sz α, seg cs (k.toNat * Dat.sz α) (Dat.sz α), rfl, hA, rowAt_seg hr (by omega), by have := he k.toNat h3; rwa [h4] at this⟩
    have hin : 0 ≤ k ∧ k < (n : Int) := by omega
    simp only [execOp, e1, e2, Instr.indexAt, asIntOf, Instr.sureAddr, Sem.run_bind, Sem.run_pure, Result.andThen_ok, run_underlying S.h, hin, and_self, if_true, T.sz, addr_add]
/-- a bound that may be left out -/
class HasLo (Γ : Env) (x : Option Operand) (d : Int) (l : outParam Int) : Prop where
  h : ∀ (a : Act) (A : Nat → Prop) (w : World), (∀ s, some (.tmp s) = x → (Γ s).p A w (a.tmps.getD s undef)) → x.map a.eval = some (.int .i64 l) ∨ x = none ∧ l = d
instance {Γ : Env} {d : Int} : HasLo Γ none d d := ⟨fun _ _ _ _ => .inr ⟨rfl, rfl⟩⟩
instance {Γ : Env} {x : Operand} {d l : Int} {τ : Ty} [h : Has Γ x τ] [k : AsI τ l] : HasLo Γ (some x) d l := ⟨fun a A w hl => .inl (by
  have e : a.eval x = .int .i64 l := k.le _ _ _ (h.le a A w fun t e => hl t (by rw [e]))
  simp [e])⟩
/-- a slice of an array in a private block -/
theorem OpY.sliceAr [S : TAr P t n e] [T : TDat P e α i] {x : Operand} {lo hi : Option Operand} {b o : Nat} {l r : Int} [hx : Has Γ x (Pt b o)] [hlo : HasLo Γ lo 0 l] [hhi : HasLo Γ hi n r]
    (h0 : 0 ≤ l) (h1 : l ≤ r) (h2 : r ≤ n) (hml : n ≤ maxLen) :
    OpY P B0 A Ω Γ ⟨dst, .slice t x lo hi none, ty, pos, aft, gd⟩ (Sv b True (o + l.toNat * Dat.sz α) (r - l).toNat) :=
  OpY.val fun a w hl => by
    have e1 : a.eval x = .pointer (some ⟨b, o, none⟩) := Has.ev (x := x) (τ := Pt b o) (op := .slice t x lo hi none) (by simp [Op.operands]) hl
    have el := hlo.h a A w fun s hs => hl s (by simp only [Op.operands]; simp [← hs])
    have eh := hhi.h a A w fun s hs => hl s (by simp only [Op.operands]; simp [← hs])
    refine ⟨.slice (some (if n = l.toNat then ⟨b, o, none⟩ else ⟨b, o + l.toNat * Dat.sz α, none⟩)) (r.toNat - l.toNat) (n - l.toNat), ?_, ?_⟩
    · have c1 : 0 ≤ r ∧ r ≤ (n : Int) := by omega
      have c2 : 0 ≤ l ∧ l ≤ (r.toNat : Int) := by omega
      have hif : (Value.slice (some (if n = l.toNat then (⟨b, o, none⟩ : Addr) else ⟨b, o + l.toNat * Dat.sz α, none⟩)) (r.toNat - l.toNat) (n - l.toNat)) = Value.slice (some (if n = l.toNat then (⟨b, o, none⟩ : Addr) else (⟨b, o, none⟩ : Addr).add (l.toNat * Dat.sz α))) (r.toNat - l.toNat) (n - l.toNat) := by rw [addr_add]
      rw [hif]
      rcases el with el | ⟨rfl, rfl⟩ <;> rcases eh with eh | ⟨rfl, rfl⟩
      · simp only [execOp, e1, el, eh, Option.map_none, Instr.sliceAt, Instr.sureAddr, run_underlying S.h, Instr.sliceBounds, Instr.sliceBound, asIntOf, Sem.run_bind, Sem.run_pure, Result.andThen_ok, c1, c2, and_self, if_true, T.sz]
      · have c3 : 0 ≤ l ∧ l ≤ (n : Int) := by omega
        simp only [execOp, e1, el, Option.map_none, Instr.sliceAt, Instr.sureAddr, run_underlying S.h, Instr.sliceBounds, Instr.sliceBound, asIntOf, Sem.run_bind, Sem.run_pure, Result.andThen_ok, c3, and_self, if_true, T.sz, Int.toNat_natCast]
      · simp only [execOp, e1, eh, Option.map_none, Instr.sliceAt, Instr.sureAddr, run_underlying S.h, Instr.sliceBounds, Instr.sliceBound, asIntOf, Sem.run_bind, Sem.run_pure, Result.andThen_ok, c1, and_self, if_true, T.sz, Int.toNat_zero]
      · simp only [execOp, e1, Option.map_none, Instr.sliceAt, Instr.sureAddr, run_underlying S.h, Instr.sliceBounds, Instr.sliceBound, asIntOf, Sem.run_bind, Sem.run_pure, Result.andThen_ok, and_self, if_true, T.sz, Int.toNat_zero, Int.toNat_natCast]
    · left
      refine ⟨trivial, if n = l.toNat then o else o + l.toNat * Dat.sz α, n - l.toNat, by rw [show (r - l).toNat = r.toNat - l.toNat by omega]; split <;> rfl, ⟨by omega, by omega⟩, fun h => by rw [if_neg (by omega)]⟩
end ops
end Go.Proofs.Ytfdmajkeihdhnaa.Tr
