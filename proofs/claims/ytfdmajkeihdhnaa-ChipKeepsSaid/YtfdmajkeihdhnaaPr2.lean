/- Reading and writing what is private, fields, results, entries. Conditions: none. -/
import Derived.Test.YtfdmajkeihdhnaaPrv
namespace Go.Proofs.Ytfdmajkeihdhnaa.Tr
open Go Go.RowKit
set_option linter.unusedVariables false
set_option linter.unnecessarySimpa false

theorem seg_self {cs : List Value} {n : Nat} (h : cs.length = n) : seg cs 0 n = cs := by subst h; simp [seg]
theorem setSeg_self {cs vs : List Value} (h : cs.length = vs.length) : setSeg cs 0 vs = vs := by
  unfold setSeg
  rw [Nat.zero_add, ← h]; simp

/-- what a private block holds at a place -/
class CtAt (C : Ct) (off : Nat) (α : Type) (i : Dat α) (x : outParam α) : Prop where
  h : ∀ {A w cs}, C.p A w cs → off + Dat.sz α ≤ cs.length ∧ Dat.rd A w (seg cs off (Dat.sz α)) x
/-- what it holds when y is put there -/
class CtSet (C : Ct) (off : Nat) (α : Type) (i : Dat α) (y : α) (C' : outParam Ct) : Prop where
  h : ∀ {A w cs ds}, C.p A w cs → Dat.rd A w ds y → off + Dat.sz α ≤ cs.length ∧ C'.p A w (setSeg cs off ds)

instance (priority := 2000) {α : Type} {i : Dat α} {x : α} : CtAt (One x) 0 α i x := ⟨fun {A w cs} h => by
  have h : Dat.rd A w cs x := h
  have l := Dat.len h
  rw [seg_self l]; exact ⟨by omega, h⟩⟩
instance {α β : Type} {i : Dat α} {j : Dat β} {off : Nat} {get : α → β} {set : β → α → α} {x : α} [L : Fld α i off β j get set] : CtAt (One x) off β j (get x) := ⟨fun {A w cs} h => by
  have h : Dat.rd A w cs x := h
  have l := Dat.len h
  have := L.le
  exact ⟨by omega, L.rd h⟩⟩
instance (priority := 2000) {α : Type} {i : Dat α} {x y : α} : CtSet (One x) 0 α i y (One y) := ⟨fun {A w cs ds} h k => by
  have h : Dat.rd A w cs x := h
  have l := Dat.len h
  have l2 := Dat.len k
  refine ⟨by omega, ?_⟩
  show Dat.rd A w (setSeg cs 0 ds) y
  rw [setSeg_self (by omega)]; exact k⟩
instance {α β : Type} {i : Dat α} {j : Dat β} {off : Nat} {get : α → β} {set : β → α → α} {x : α} {y : β} [L : Fld α i off β j get set] : CtSet (One x) off β j y (One (set y x)) := ⟨fun {A w cs ds} h k => by
  have h : Dat.rd A w cs x := h
  have l := Dat.len h
  have := L.le
  exact ⟨by omega, L.st h k⟩⟩
theorem Row.at {α : Type} [i : Dat α] {xs : List α} {c j : Nat} (hj : j < xs.length) : CtAt (Row xs c) (j * Dat.sz α) α i xs[j] := ⟨fun {A w cs} h => by
  obtain ⟨h1, h2, h3, h4, h5⟩ := h
  exact ⟨by rw [h1, ← Nat.succ_mul]; exact Nat.mul_le_mul_right _ (by omega), h5 j hj⟩⟩
theorem Row.set {α : Type} [i : Dat α] {xs : List α} {c j : Nat} {y : α} (hj : j < xs.length) : CtSet (Row xs c) (j * Dat.sz α) α i y (Row (xs.set j y) c) := ⟨fun {A w cs ds} h k => by
  obtain ⟨h1, h2, h3, h4, h5⟩ := h
  have l2 := Dat.len k
  have hfit : j * Dat.sz α + Dat.sz α ≤ cs.length := by rw [h1, ← Nat.succ_mul]; exact Nat.mul_le_mul_right _ (by omega)
  refine ⟨hfit, by rw [setSeg_length (by omega)]; exact h1, by simpa using h2, h3, by simpa using h4, fun q hq => ?_⟩
  simp only [List.length_set] at hq
  by_cases hqj : q = j
  · subst hqj
    have e9 := seg_setSeg_same (cs := cs) (o := q * Dat.sz α) (vs := ds) (by omega)
    rw [l2] at e9
    rw [e9, List.getElem_set_self]; exact k
  · rw [seg_setSeg_other (by omega) (by rw [h1, ← Nat.succ_mul]; exact Nat.mul_le_mul_right _ (by omega)) ?_, List.getElem_set_ne (fun h => hqj h.symm)]
    · exact h5 q hq
    · rcases Nat.lt_or_ge q j with h6 | h6
      · left; rw [← Nat.succ_mul]; exact Nat.mul_le_mul_right _ (by omega)
      · right; rw [l2, ← Nat.succ_mul]; exact Nat.mul_le_mul_right _ (by omega)⟩
/-- the same at a field of an element -/
theorem CtAt.fld {α β : Type} {i : Dat α} {j : Dat β} {C : Ct} {o off : Nat} {get : α → β} {set : β → α → α} {x : α} (h : CtAt C o α i x) (L : Fld α i off β j get set) : CtAt C (o + off) β j (get x) := ⟨fun {A w cs} hc => by
  obtain ⟨h1, h2⟩ := h.h hc
  have h3 := L.le
  have h4 := L.rd h2
  rw [seg_seg (by omega) (by omega)] at h4
  exact ⟨by omega, h4⟩⟩
theorem Row.setFld {α β : Type} [i : Dat α] {j : Dat β} {xs : List α} {c q off : Nat} {get : α → β} {set : β → α → α} {y : β} (hq : q < xs.length) (L : Fld α i off β j get set) : CtSet (Row xs c) (q * Dat.sz α + off) β j y (Row (xs.set q (set y xs[q])) c) := ⟨fun {A w cs ds} h k => by
  have h0 := h
  obtain ⟨h1, h2, h3, h4, h5⟩ := h
  have l2 := Dat.len k
  have hL := L.le
  have hfit : q * Dat.sz α + Dat.sz α ≤ cs.length := by rw [h1, ← Nat.succ_mul]; exact Nat.mul_le_mul_right _ (by omega)
  obtain ⟨-, g2⟩ := (Row.set (y := set y xs[q]) hq).h h0 (L.st (h5 q hq) k)
  refine ⟨by omega, ?_⟩
  have e : setSeg cs (q * Dat.sz α) (setSeg (seg cs (q * Dat.sz α) (Dat.sz α)) off ds) = setSeg cs (q * Dat.sz α + off) ds := by
    have hl : (seg cs (q * Dat.sz α) (Dat.sz α)).length = Dat.sz α := seg_length hfit
    have hl2 : (setSeg (seg cs (q * Dat.sz α) (Dat.sz α)) off ds).length = Dat.sz α := by rw [setSeg_length (by omega), hl]
    refine getD_ext (by rw [setSeg_length (by omega), setSeg_length (by omega)]) fun j hj => ?_
    rw [setSeg_length (by omega)] at hj
    rw [setSeg_getD (cs := cs) (o := q * Dat.sz α) (by omega), setSeg_getD (cs := cs) (o := q * Dat.sz α + off) (by omega), hl2]
    by_cases c1 : q * Dat.sz α ≤ j ∧ j < q * Dat.sz α + Dat.sz α
    · rw [if_pos c1, setSeg_getD (by omega)]
      by_cases c2 : off ≤ j - q * Dat.sz α ∧ j - q * Dat.sz α < off + ds.length
      · rw [if_pos c2, if_pos (by omega)]; congr 1; omega
      · rw [if_neg c2, if_neg (by omega), seg_getD (by omega)]; congr 1; omega
    · rw [if_neg c1, if_neg (by omega)]
  rw [e] at g2; exact g2⟩

/-- a place in a private block: what stands there, and what the block holds when something else is put there -/
structure Pl (C : Ct) (o : Nat) (α : Type) (i : Dat α) (x : α) (upd : α → Ct) : Prop where
  rd : CtAt C o α i x
  st : ∀ y, CtSet C o α i y (upd y)
theorem Pl.one {α : Type} {i : Dat α} {x : α} : Pl (One x) 0 α i x One := ⟨inferInstance, fun y => inferInstance⟩
theorem Pl.fld {α β : Type} {i : Dat α} {j : Dat β} {C : Ct} {o off : Nat} {get : α → β} {set : β → α → α} {x : α} {upd : α → Ct} (h : Pl C o α i x upd) [L : Fld α i off β j get set] : Pl C (o + off) β j (get x) fun y => upd (set y x) :=
  ⟨h.rd.fld L, fun y => ⟨fun {A w cs ds} hc hd => by
    obtain ⟨h1, h2⟩ := h.rd.h hc
    have l2 := Dat.len hd
    have hL := L.le
    obtain ⟨-, g2⟩ := (h.st (set y x)).h hc (L.st h2 hd)
    refine ⟨by omega, ?_⟩
    have e : setSeg cs o (setSeg (seg cs o (Dat.sz α)) off ds) = setSeg cs (o + off) ds := by
      have hl : (seg cs o (Dat.sz α)).length = Dat.sz α := seg_length h1
      have hl2 : (setSeg (seg cs o (Dat.sz α)) off ds).length = Dat.sz α := by rw [setSeg_length (by omega), hl]
      refine getD_ext (by rw [setSeg_length (by omega), setSeg_length (by omega)]) fun j hj => ?_
      rw [setSeg_length (by omega)] at hj
      rw [setSeg_getD (cs := cs) (o := o) (by omega), setSeg_getD (cs := cs) (o := o + off) (by omega), hl2]
      by_cases c1 : o ≤ j ∧ j < o + Dat.sz α
      · rw [if_pos c1, setSeg_getD (by omega)]
        by_cases c2 : off ≤ j - o ∧ j - o < off + ds.length
        · rw [if_pos c2, if_pos (by omega)]; congr 1; omega
        · rw [if_neg c2, if_neg (by omega), seg_getD (by omega)]; congr 1; omega
      · rw [if_neg c1, if_neg (by omega)]
    rw [e] at g2; exact g2⟩⟩
/-- the element of a list at an integer -/
def idx {α : Type} (xs : List α) (k : Int) : Option α := if 0 ≤ k then xs[k.toNat]? else none
theorem idx_some {α : Type} {xs : List α} {k : Int} {x : α} (h : idx xs k = some x) : 0 ≤ k ∧ xs[k.toNat]? = some x := by
  unfold idx at h; split at h
  · exact ⟨‹_›, h⟩
  · cases h
theorem idx_lt {α : Type} {xs : List α} {k : Int} {x : α} (h : idx xs k = some x) : 0 ≤ k ∧ k < xs.length := by
  obtain ⟨h1, h2⟩ := idx_some h
  have := (List.getElem?_eq_some_iff.1 h2).1
  omega
theorem Pl.row {α : Type} {i : Dat α} {xs : List α} {c : Nat} {k : Int} {x : α} (h : idx xs k = some x) : Pl (Row xs c) (k.toNat * Dat.sz α) α i x fun y => Row (xs.set k.toNat y) c := by
  obtain ⟨h1, h2⟩ := idx_some h
  obtain ⟨h3, h4⟩ := List.getElem?_eq_some_iff.1 h2
  subst h4
  exact ⟨Row.at h3, fun y => Row.set h3⟩

/-- a content one of whose cells holds something that is no datum -/
def Ct.mix (C : Ct) (o : Nat) (τ : Ty) : Ct :=
  ⟨fun A w cs => ∃ cs0 v, C.p A w cs0 ∧ o < cs0.length ∧ τ.p A w v ∧ cs = cs0.set o v, fun k ⟨cs0, v, h1, h2, h3, h4⟩ => ⟨cs0, v, C.keep k h1, h2, τ.keep k h3, h4⟩⟩
theorem seg_set_other {cs : List Value} {o off n : Nat} {v : Value} (h : o < off ∨ off + n ≤ o) (hl : off + n ≤ cs.length) : seg (cs.set o v) off n = seg cs off n := by
  refine getD_ext (by rw [seg_length (by simpa using hl), seg_length hl]) fun j hj => ?_
  rw [seg_length (by simpa using hl)] at hj
  rw [seg_getD hj, seg_getD hj]
  simp only [List.getD_eq_getElem?_getD]
  rw [List.getElem?_set_ne (by omega)]
theorem setSeg_set_other {cs ds : List Value} {o off : Nat} {v : Value} (h : o < off ∨ off + ds.length ≤ o) (hl : off + ds.length ≤ cs.length) : setSeg (cs.set o v) off ds = (setSeg cs off ds).set o v := by
  refine getD_ext (by rw [setSeg_length (by simpa using hl), List.length_set, List.length_set, setSeg_length hl]) fun j hj => ?_
  rw [setSeg_length (by simpa using hl), List.length_set] at hj
  rw [setSeg_getD (by simpa using hl)]
  by_cases hjo : j = o
  · subst hjo
    rw [if_neg (by omega)]
    simp only [List.getD_eq_getElem?_getD]
    rw [List.getElem?_set_self (by omega), List.getElem?_set_self (by rw [setSeg_length hl]; omega)]
  · have e1 : ((setSeg cs off ds).set o v).getD j undef = (setSeg cs off ds).getD j undef := by
      simp only [List.getD_eq_getElem?_getD]; rw [List.getElem?_set_ne (fun h => hjo h.symm)]
    have e2 : (cs.set o v).getD j undef = cs.getD j undef := by
      simp only [List.getD_eq_getElem?_getD]; rw [List.getElem?_set_ne (fun h => hjo h.symm)]
    rw [e1, e2, setSeg_getD hl]
theorem setSeg_set_in {cs ds : List Value} {o off : Nat} {v : Value} (h : off ≤ o ∧ o < off + ds.length) (hl : off + ds.length ≤ cs.length) : setSeg (cs.set o v) off ds = setSeg cs off ds := by
  refine getD_ext (by rw [setSeg_length (by simpa using hl), setSeg_length hl, List.length_set]) fun j hj => ?_
  rw [setSeg_length (by simpa using hl), List.length_set] at hj
  rw [setSeg_getD (by simpa using hl), setSeg_getD hl]
  split
  · rfl
  · rename_i hn
    simp only [List.getD_eq_getElem?_getD]; rw [List.getElem?_set_ne (by omega)]
/-- what stands beside is read, and put, as before -/
theorem CtAt.mix {C : Ct} {o off : Nat} {τ : Ty} {α : Type} {i : Dat α} {x : α} (h : CtAt C off α i x) (hd : o < off ∨ off + Dat.sz α ≤ o) : CtAt (C.mix o τ) off α i x := ⟨fun {A w cs} ⟨cs0, v, h1, h2, h3, h4⟩ => by
  obtain ⟨g1, g2⟩ := h.h h1
  subst h4
  exact ⟨by simpa using g1, by rw [seg_set_other hd g1]; exact g2⟩⟩
theorem CtSet.mix {C C' : Ct} {o off : Nat} {τ : Ty} {α : Type} {i : Dat α} {y : α} (h : CtSet C off α i y C') (hd : o < off ∨ off + Dat.sz α ≤ o) : CtSet (C.mix o τ) off α i y (C'.mix o τ) := ⟨fun {A w cs ds} ⟨cs0, v, h1, h2, h3, h4⟩ k => by
  obtain ⟨g1, g2⟩ := h.h h1 k
  have l := Dat.len k
  subst h4
  exact ⟨by simpa using g1, setSeg cs0 off ds, v, g2, by rw [setSeg_length (by omega)]; exact h2, h3, setSeg_set_other (by omega) (by omega)⟩⟩
/-- a datum put over it -/
theorem CtSet.over {C C' : Ct} {o off : Nat} {τ : Ty} {α : Type} {i : Dat α} {y : α} (h : CtSet C off α i y C') (hd : off ≤ o ∧ o < off + Dat.sz α) : CtSet (C.mix o τ) off α i y C' := ⟨fun {A w cs ds} ⟨cs0, v, h1, h2, h3, h4⟩ k => by
  obtain ⟨g1, g2⟩ := h.h h1 k
  have l := Dat.len k
  subst h4
  exact ⟨by simpa using g1, by rw [setSeg_set_in (by omega) (by omega)]; exact g2⟩⟩
theorem Pl.mix {C : Ct} {o off : Nat} {τ : Ty} {α : Type} {i : Dat α} {x : α} {upd : α → Ct} (h : Pl C off α i x upd) (hd : o < off ∨ off + Dat.sz α ≤ o) : Pl (C.mix o τ) off α i x fun y => (upd y).mix o τ := ⟨h.rd.mix hd, fun y => (h.st y).mix hd⟩

section ops
variable {P : Program} {B0 : Nat} {A : Nat → Prop} {Ω : List Pe} {Γ : Env} {dst : Option Tmp} {ty : TypeId} {pos : String} {aft : Array Edge} {gd : Option (Nat × Bool)}
variable {α β : Type} {i : Dat α} {j : Dat β} {t u : TypeId} {f off : Nat} {get : α → β} {set : β → α → α}

theorem run_part {w : World} {cs : List Value} {x : β} [T : TDat P u β j] (h : Dat.rd A w (seg cs off (Dat.sz β)) x) (hl : off + Dat.sz β ≤ cs.length) : (part u cs.toArray off).run P w = .ok (mkV β (seg cs off (Dat.sz β))) w := by
  unfold part mkV
  rw [Sem.run_bind, T.ag]
  simp only [Result.andThen_ok]
  cases ha : Dat.agg β with
  | true =>
    simp only [if_true]
    rw [Sem.run_bind, T.sz]
    simp only [Result.andThen_ok, Sem.run_pure]
    congr 2
    simp [seg, List.extract_eq_take_drop]
  | false =>
    simp only [Bool.false_eq_true, if_false]
    have h1 := Dat.one ha
    have hlt : off < cs.length := by have := Dat.pos (α := β); omega
    have e : cs.toArray[off]? = some (cs.getD off undef) := by
      simp [List.getD_eq_getElem?_getD, List.getElem?_eq_getElem hlt]
    rw [e]
    simp only [Sem.run_pure]
    rw [seg_getD (by omega), Nat.add_zero]


theorem OpY.field {x : Operand} {τ : Ty} {v : α} [Has Γ x τ] [hx : AsD τ α i v] [F : TFld P t f u off] [T : TDat P u β j] [L : Fld α i off β j get set] :
    OpY P B0 A Ω Γ ⟨dst, .field t x f, ty, pos, aft, gd⟩ (D (get v)) :=
  OpY.val fun a w hl => by
    obtain ⟨cs, h1, h2⟩ := hx.le _ _ _ (Has.ev (x := x) (τ := τ) (op := .field t x f) (by simp [Op.operands]) hl)
    have e1 : a.eval x = .agg cs.toArray := by rw [h2]; unfold mkV; rw [L.agg]; rfl
    obtain ⟨fs, fl, g1, g2, g3, g4⟩ := F.h
    have hl2 := L.le
    have hlen : cs.length = Dat.sz α := Dat.len h1
    refine ⟨_, ?_, seg cs off (Dat.sz β), L.rd h1, rfl⟩
    have := run_part (P := P) (u := u) (A := A) (w := w) (cs := cs) (off := off) (x := get v) (L.rd h1) (by omega)
    simp only [execOp, e1, Instr.field, Sem.run_bind, run_underlying g1, Result.andThen_ok, g2, asAgg, Sem.run_pure, g3, g4, this]

theorem run_fieldPlace {w : World} {b o : Nat} {fl : Field} [T : TDat P u β j] (h3 : fl.type = u) (h4 : fl.offset = off) : (fieldPlace ⟨b, o, none⟩ fl).run P w = .ok ⟨b, o + off, none⟩ w := by
  unfold fieldPlace
  rw [Sem.run_bind, h3, T.sz]
  have := Dat.pos (α := β)
  simp only [Result.andThen_ok]
  rw [if_neg (by omega), Sem.run_pure, h4, addr_add]

theorem rowAt_seg {w : World} {b o n : Nat} {cs : List Value} (h : rowAt w b o cs) (hl : off + n ≤ cs.length) : rowAt w b (o + off) (seg cs off n) := fun q hq => by
  rw [seg_length hl] at hq
  rw [seg_getD hq, Nat.add_assoc]
  exact h _ (by omega)


/-- where a field lies -/
class FaP (τ : Ty) (α : Type) (off : Nat) (β : Type) (σ : outParam Ty) : Prop where
  h : ∀ {A w v}, τ.p A w v → ∃ b o, v = .pointer (some ⟨b, o, none⟩) ∧ σ.p A w (.pointer (some ⟨b, o + off, none⟩))
instance {x : α} [L : Fld α i off β j get set] : FaP (PtrD x) α off β (PtrD (get x)) := ⟨fun {A w v} ⟨b, o, cs, h1, h2, h3, h4⟩ => by
  have hl2 := L.le
  have hlen : cs.length = Dat.sz α := Dat.len h4
  exact ⟨b, o, h1, b, o + off, seg cs off (Dat.sz β), rfl, h2, rowAt_seg h3 (by omega), L.rd h4⟩⟩
instance {b o : Nat} : FaP (Pt b o) α off β (Pt b (o + off)) := ⟨fun h => ⟨b, o, h, rfl⟩⟩
instance {p : Prop} {τ σ : Ty} [h : Ft p] [k : FaP τ α off β σ] : FaP (Cond p τ) α off β σ := ⟨fun x => k.h (x.1 h.h)⟩
theorem OpY.fieldAddr {x : Operand} {τ σ : Ty} [Has Γ x τ] [F : TFld P t f u off] [S : TDat P t α i] [T : TDat P u β j] [k : FaP τ α off β σ] :
    OpY P B0 A Ω Γ ⟨dst, .fieldAddr t x f, ty, pos, aft, gd⟩ σ :=
  OpY.val fun a w hl => by
    obtain ⟨b, o, h1, h2⟩ := k.h (Has.ev (x := x) (τ := τ) (op := .fieldAddr t x f) (by simp [Op.operands]) hl)
    obtain ⟨fs, fl, g1, g2, g3, g4⟩ := F.h
    refine ⟨_, ?_, h2⟩
    simp only [execOp, h1, Instr.fieldAt, Sem.run_bind, run_underlying g1, Result.andThen_ok, g2, Instr.sureAddr, Sem.run_pure, run_fieldPlace (P := P) (u := u) g3 g4]

/-- what is read at a place -/
class LdP (Ω : List Pe) (τ : Ty) (α : Type) (i : Dat α) (x : outParam α) : Prop where
  h : ∀ {A w v}, Pks A Ω w → τ.p A w v → ∃ b o cs, v = .pointer (some ⟨b, o, none⟩) ∧ rowAt w b o cs ∧ Dat.rd A w cs x
instance {x : α} : LdP Ω (PtrD x) α i x := ⟨fun _ ⟨b, o, cs, h1, _, h3, h4⟩ => ⟨b, o, cs, h1, h3, h4⟩⟩
theorem LdP.pt {b o : Nat} {pr : Prop} {C : Ct} {x : α} (hb : HasB Ω b pr C) (hp : pr) (c : CtAt C o α i x) : LdP Ω (Pt b o) α i x := ⟨fun {A w v} hk hv => by
  obtain ⟨cs, h1, h2⟩ := hk _ hb.h hp
  obtain ⟨h3, h4⟩ := c.h h2
  exact ⟨b, o, _, hv, h1.row h3, h4⟩⟩
instance {b o : Nat} {pr : Prop} {C : Ct} {x : α} [hb : HasB Ω b pr C] [hp : Ft pr] [c : CtAt C o α i x] : LdP Ω (Pt b o) α i x := LdP.pt hb hp.h c
instance {p : Prop} {τ : Ty} {x : α} [h : Ft p] [k : LdP Ω τ α i x] : LdP Ω (Cond p τ) α i x := ⟨fun hk y => k.h hk (y.1 h.h)⟩
theorem OpY.ldBy {x : Operand} {τ : Ty} {v : α} [hx : Has Γ x τ] [T : TDat P t α i] (k : LdP Ω τ α i v) : OpY P B0 A Ω Γ ⟨dst, .load t x, ty, pos, aft, gd⟩ (D v) := fun a w _ _ hp hl => by
  obtain ⟨b, o, cs, h1, h2, h3⟩ := k.h hp (Has.ev (x := x) (τ := τ) (op := .load t x) (by simp [Op.operands]) hl)
  simp only [execOp, Instr.loadAt, h1, Instr.sureAddr, Sem.run_bind, Sem.run_pure, Result.andThen_ok]
  rw [run_loadVar (t := t) h2 h3]
  exact ⟨Grow.refl _ _, cs, h3, rfl⟩
theorem OpY.ld {x : Operand} {τ : Ty} {v : α} [hx : Has Γ x τ] [T : TDat P t α i] [k : LdP Ω τ α i v] : OpY P B0 A Ω Γ ⟨dst, .load t x, ty, pos, aft, gd⟩ (D v) := OpY.ldBy k

theorem run_storeVar {w : World} {b o : Nat} {cs : List Value} {v : Value} {y : α} [T : TDat P t α i] (hb : Blk w b cs) (hl : o + Dat.sz α ≤ cs.length) (hy : (D y).p A w v) :
    ∃ w' ds, (storeVar t ⟨b, o, none⟩ v).run P w = .ok () w' ∧ Dat.rd A w ds y ∧ Blk w' b (setSeg cs o ds) ∧ Mut (fun k => k = b) w w' ∧ w'.heap.size = w.heap.size := by
  obtain ⟨ds, e1, r1⟩ := D_cells hy
  have l1 := Dat.len r1
  obtain ⟨w', h1, h2, h3, h4⟩ := run_storeCells' (P := P) hb (by rw [l1]; exact hl) (Dat.scal r1)
  refine ⟨w', ds, ?_, r1, h2, h3, h4⟩
  unfold storeVar
  rw [Sem.run_bind, T.sz]
  simp only [Result.andThen_ok, e1, List.size_toArray, l1, ne_eq, not_true, if_false]
  exact h1

/-- a store into a private block -/
theorem OpT.storeBy {Ωs Ωr : List Pe} {b o : Nat} {pr : Prop} {C C' : Ct} {p x : Operand} {σ : Ty} {y : α} [hp : Has Γ p (Pt b o)] [pk : Pick Ω b pr C Ωr] [hx : Has Γ x σ] [T : TDat P t α i] [hy : ToD σ α i y] (hpr : pr) (c : CtSet C o α i y C') :
    OpT P B0 Ωs Ω Γ ⟨none, .store t p x, ty, pos, aft, none⟩ (fun _ : Unit => Ty.any) fun _ => ⟨b, pr, C'⟩ :: Ωr := by
  refine OpT.frame (Ωt := [⟨b, pr, C⟩]) (Ω' := fun _ => [⟨b, pr, C'⟩]) pk.perm ⟨rfl, fun A0 a w hB hu ho ha hk hl => ?_⟩
  have e1 : a.eval p = .pointer (some ⟨b, o, none⟩) := Has.ev (x := p) (τ := Pt b o) (op := .store t p x) (by simp [Op.operands]) hl
  have h2 := hy.le _ _ _ (Has.ev (x := x) (τ := σ) (op := .store t p x) (by simp [Op.operands]) hl)
  obtain ⟨cs, h3, h4⟩ := hk ⟨b, pr, C⟩ (by simp) hpr
  obtain ⟨ds0, -, r0⟩ := D_cells h2
  obtain ⟨w', ds, g1, g2, g3, g4, g5⟩ := run_storeVar (P := P) (t := t) h3 (c.h h4 r0).1 h2
  have hm : Mut (Own [⟨b, pr, C⟩]) w w' := g4.mono fun k e => ⟨_, List.mem_singleton.2 rfl, hpr, e.symm⟩
  have hown : ∀ k, Own ((Ωs ++ Ωr) ++ [⟨b, pr, C'⟩]) k ↔ Own ((Ωs ++ Ωr) ++ [⟨b, pr, C⟩]) k := fun k => by
    rw [Own_append (Ω := Ωs ++ Ωr), Own_append (Ω := Ωs ++ Ωr)]
    constructor
    · rintro (h | ⟨e, he, h1, h2⟩)
      · exact .inl h
      · obtain rfl := List.mem_singleton.1 he; exact .inr ⟨_, List.mem_singleton.2 rfl, h1, h2⟩
    · rintro (h | ⟨e, he, h1, h2⟩)
      · exact .inl h
      · obtain rfl := List.mem_singleton.1 he; exact .inr ⟨_, List.mem_singleton.2 rfl, h1, h2⟩
  have hpub : Pub A0 ((Ωs ++ Ωr) ++ [⟨b, pr, C'⟩]) = Pub A0 ((Ωs ++ Ωr) ++ [⟨b, pr, C⟩]) := by
    funext k; exact propext (by rw [Pub_own, Pub_own, hown])
  have hkp : Keep (Pub A0 ((Ωs ++ Ωr) ++ [⟨b, pr, C⟩])) (Pub A0 ((Ωs ++ Ωr) ++ [⟨b, pr, C⟩])) w w' := g4.keep fun k hk e => (Pub_own.1 hk).2 (Own_append.2 (.inr ⟨_, List.mem_singleton.2 rfl, hpr, e.symm⟩))
  simp only [execOp, Instr.storeAt, e1, Instr.sureAddr, Sem.run_bind, Sem.run_pure, Result.andThen_ok, g1]
  refine ⟨(), Stp.of_mut hm hB, fun k ⟨e, he, h1, h2⟩ => ?_, ?_, trivial, fun e he _ => ?_⟩
  · obtain rfl := List.mem_singleton.1 he; exact .inl ⟨_, List.mem_singleton.2 rfl, h1, h2⟩
  · refine List.pairwise_append.2 ⟨(List.pairwise_append.1 ha).1, List.pairwise_singleton _ _, fun x hx y hy h1 h2 => ?_⟩
    obtain rfl := List.mem_singleton.1 hy
    exact (List.pairwise_append.1 ha).2.2 x hx ⟨b, pr, C⟩ (List.mem_singleton.2 rfl) h1 h2
  · obtain rfl := List.mem_singleton.1 he
    rw [hpub]
    exact ⟨_, g3, C'.keep hkp (c.h h4 g2).2⟩
theorem OpT.store {Ωs Ωr : List Pe} {b o : Nat} {pr : Prop} {C C' : Ct} {p x : Operand} {σ : Ty} {y : α} [hp : Has Γ p (Pt b o)] [pk : Pick Ω b pr C Ωr] [hx : Has Γ x σ] [T : TDat P t α i] [hy : ToD σ α i y] [hpr : Ft pr] [c : CtSet C o α i y C'] :
    OpT P B0 Ωs Ω Γ ⟨none, .store t p x, ty, pos, aft, none⟩ (fun _ : Unit => Ty.any) fun _ => ⟨b, pr, C'⟩ :: Ωr := OpT.storeBy hpr.h c
end ops
end Go.Proofs.Ytfdmajkeihdhnaa.Tr
