/- Small lemmas that the printed walks name. Conditions: none. -/
import Derived.Test.YtfdmajkeihdhnaaRr
namespace Go.Proofs.Ytfdmajkeihdhnaa.Tr
open Go Go.RowKit
set_option linter.unusedVariables false
set_option linter.unnecessarySimpa false

theorem Pl.rowz {α : Type} {i : Dat α} {xs : List α} {c : Nat} {k : Int} {x : α} (h : idx xs k = some x) : Pl (Row xs c) (0 + k.toNat * Dat.sz α) α i x fun y => Row (xs.set k.toNat y) c := by
  rw [Nat.zero_add]; exact Pl.row h
theorem nm_len {α : Type} {x y : List α} {m : Nat} (h : some x = some y) (hn : m = x.length) : m = y.length := by injection h with h; rw [← h]; exact hn
theorem nm_sl2 {α : Type} {b o c m : Nat} {pr : Prop} {x y : List α} (h : some x = some y) (hn : m = x.length) : (Sl b pr o m c).le (Sl b pr o y.length c) := by rw [nm_len h hn]; exact Ty.le.refl _
theorem mix_n {C : Ct} {o b q m n c : Nat} {pr : Prop} (e : m = n) : C.mix o (Sl b pr q m c) = C.mix o (Sl b pr q n c) := by rw [e]
/-! several at once -/
theorem el2_mk {α β γ : Type} {a : α} {b : β} {f : α → β → Option γ} {r : γ} (h : el2 (a, b) f = some r) : f a b = some r := h
theorem el3_mk {α β γ δ : Type} {a : α} {b : β} {c : γ} {f : α → β → γ → Option δ} {r : δ} (h : el3 (a, b, c) f = some r) : f a b c = some r := h
theorem el4_mk {α β γ δ ε : Type} {a : α} {b : β} {c : γ} {d : δ} {f : α → β → γ → δ → Option ε} {r : ε} (h : el4 (a, b, c, d) f = some r) : f a b c d = some r := h
theorem el5_mk {α β γ δ ε ζ : Type} {a : α} {b : β} {c : γ} {d : δ} {e : ε} {f : α → β → γ → δ → ε → Option ζ} {r : ζ} (h : el5 (a, b, c, d, e) f = some r) : f a b c d e = some r := h
theorem el6_mk {α β γ δ ε ζ η : Type} {a : α} {b : β} {c : γ} {d : δ} {e : ε} {z : ζ} {f : α → β → γ → δ → ε → ζ → Option η} {r : η} (h : el6 (a, b, c, d, e, z) f = some r) : f a b c d e z = some r := h
theorem el7_mk {α β γ δ ε ζ η θ : Type} {a : α} {b : β} {c : γ} {d : δ} {e : ε} {z : ζ} {y : η} {f : α → β → γ → δ → ε → ζ → η → Option θ} {r : θ} (h : el7 (a, b, c, d, e, z, y) f = some r) : f a b c d e z y = some r := h
theorem el8_mk {α β γ δ ε ζ η θ ι : Type} {a : α} {b : β} {c : γ} {d : δ} {e : ε} {z : ζ} {y : η} {x : θ} {f : α → β → γ → δ → ε → ζ → η → θ → Option ι} {r : ι} (h : el8 (a, b, c, d, e, z, y, x) f = some r) : f a b c d e z y x = some r := h
/-! pieces -/
theorem idx_take {α : Type} {xs : List α} {n : Nat} {k : Int} {x : α} (h : idx (xs.take n) k = some x) : idx xs k = some x := by
  obtain ⟨h1, h2⟩ := idx_some h
  unfold idx
  rw [if_pos h1]
  have h3 := (List.getElem?_eq_some_iff.1 h2).1
  rwa [List.getElem?_take_of_lt (by simp at h3; omega)] at h2
theorem idx_in2 {α : Type} {xs : List α} {n : Nat} {k : Int} {x : α} (h : idx (xs.take n) k = some x) : 0 ≤ k ∧ k < n := by
  have := idx_lt h
  simp at this; omega
theorem cut_le {n : Nat} {l r : Int} {u : Unit} (h : cut n l r = some u) : l.toNat + (r - l).toNat ≤ n := by have := cut_some h; omega
theorem cut_le0 {n : Nat} {r : Int} {u : Unit} (h : cut n 0 r = some u) : r.toNat ≤ n := by have := cut_some h; omega
theorem cut_len {α : Type} {xs : List α} {n : Nat} {l r : Int} {u : Unit} (h : cut n l r = some u) (hn : xs.length = n) : (r - l).toNat = ((xs.drop l.toNat).take (r - l).toNat).length := by have := cut_some h; simp; omega
theorem cut_leF {α : Type} {xs : List α} {m : Nat} {l : Int} {u : Unit} (h : cut xs.length l xs.length = some u) (hm : m = xs.length) : l.toNat + ((m : Int) - l).toNat ≤ xs.length := by have := cut_some h; omega
theorem cut_lenF {α : Type} {xs : List α} {m : Nat} {l : Int} {u : Unit} (h : cut xs.length l xs.length = some u) (hm : m = xs.length) : ((m : Int) - l).toNat = ((xs.drop l.toNat).take ((m : Int) - l).toNat).length := by have := cut_some h; simp; omega
theorem PlS.rowz {α : Type} {i : Dat α} {xs : List α} {c k n : Nat} (h : k + n ≤ xs.length) : PlS (Row xs c) (0 + k * Dat.sz α) α i ((xs.drop k).take n) fun ys => Row (splice xs k ys) c := by
  rw [Nat.zero_add]; exact PlS.row h
theorem make_le {bt : Nat} {m n : Int} {u v : Unit} (h : room bt n = some u) (k : cut n.toNat 0 m = some v) : 0 ≤ m ∧ m ≤ n := by
  have := cut_some k; have := room_some h; omega
theorem make_le2 {α : Type} {z : α} {bt : Nat} {m n : Int} {u v : Unit} (h : room bt n = some u) (k : cut n.toNat 0 m = some v) : m.toNat ≤ (List.replicate n.toNat z).length := by
  have := cut_some k; simp; omega
theorem Vec.put_nil {α : Type} {n : Nat} {v : Vec α n} {k : Nat} : v.put k [] = v := by
  unfold Vec.put splice
  split
  · cases v; simp
  · rfl
def nz (b : Bool) : Option Unit := bif b then some () else none
theorem nz_some {p : Prop} [Decidable p] {u : Unit} (h : nz (decide p) = some u) : p := by
  unfold nz at h
  by_cases hp : p
  · exact hp
  · simp [hp] at h
theorem slD {b c m n : Nat} {pr : Prop} {A : Nat → Prop} {w : World} {v : Value} (e : m = n) (h : (Sl b pr 0 m c).p A w v) : (Sl b pr 0 n c).p A w v := e ▸ h
theorem VC_le {C C' : Ct} (h : ∀ A w cs, C.p A w cs → C'.p A w cs) : (VC C).le (VC C') := fun A w v ⟨cs, h1, h2⟩ => ⟨cs, h A w cs h1, h2⟩
/-- a private slice's cell: what stood there before does not count -/
theorem mix_nil {α : Type} {i : Dat α} {C C' : Ct} {o b m n c : Nat} {pr : Prop} (hs : CtSet C o (List α) instList [] C') (e : m = n) : ∀ A w cs, (C.mix o (Sl b pr 0 m c)).p A w cs → (C'.mix o (Sl b pr 0 n c)).p A w cs := fun A w cs ⟨cs0, v, h1, h2, h3, h4⟩ => by
  subst e
  have hz : Dat.rd A w [.slice none 0 0] ([] : List α) := ⟨none, 0, rfl, Nat.le_refl _, by unfold maxLen; omega, by unfold most; simp, fun i hi => absurd hi (by simp)⟩
  obtain ⟨-, g2⟩ := hs.h h1 hz
  have hss : setSeg cs0 o [Value.slice none 0 0] = cs0.set o (.slice none 0 0) := by
    refine getD_ext (by rw [setSeg_length (by simp; omega), List.length_set]) fun q hq => ?_
    rw [setSeg_getD (by simp; omega)]
    simp only [List.getD_eq_getElem?_getD, List.length_singleton]
    by_cases hqo : q = o
    · subst hqo; rw [if_pos (by omega), List.getElem?_set_self h2]; simp
    · rw [if_neg (by omega), List.getElem?_set_ne (Ne.symm hqo)]
  rw [hss] at g2
  exact ⟨_, v, g2, by simpa using h2, h3, by rw [h4]; simp⟩
instance {A : Nat → Prop} : OwnIn A [] := ⟨fun k ⟨e, he, _⟩ => absurd he (by simp)⟩
section ops
variable {P : Program} {B0 : Nat} {A : Nat → Prop} {Ω : List Pe} {Γ : Env} {dst : Option Tmp} {ty : TypeId} {pos : String} {aft : Array Edge} {gd : Option (Nat × Bool)}
/-! shifts -/
def shl8 (m : UInt8) (s : Int) : UInt8 := UInt8.ofNat (m.toNat * 2 ^ s.toNat)
def shr8 (m : UInt8) (s : Int) : UInt8 := UInt8.ofNat (m.toNat / 2 ^ s.toNat)
def shl16 (m : UInt16) (s : Int) : UInt16 := UInt16.ofNat (m.toNat * 2 ^ s.toNat)
def shr16 (m : UInt16) (s : Int) : UInt16 := UInt16.ofNat (m.toNat / 2 ^ s.toNat)
def shl32 (m : UInt32) (s : Int) : UInt32 := UInt32.ofNat (m.toNat * 2 ^ s.toNat)
def shr32 (m : UInt32) (s : Int) : UInt32 := UInt32.ofNat (m.toNat / 2 ^ s.toNat)
def shl64 (m : UInt64) (s : Int) : UInt64 := UInt64.ofNat (m.toNat * 2 ^ s.toNat)
def shr64 (m : UInt64) (s : Int) : UInt64 := UInt64.ofNat (m.toNat / 2 ^ s.toNat)
section
variable {x y : Operand} {τ σ : Ty} {t u : TypeId} {s : Int} [hsx : Has Γ x τ] [hsy : Has Γ y σ] [hy : AsCnt σ s]
include hsx hsy hy
theorem OpD.shl8 {m : UInt8} [hx : AsU8 τ m] (h : 0 ≤ s) : OpY P B0 A Ω Γ ⟨dst, .binOp .shl t x y u, ty, pos, aft, gd⟩ (U8 (Tr.shl8 m s)) := OpY.shl8 h
theorem OpD.shr8 {m : UInt8} [hx : AsU8 τ m] (h : 0 ≤ s) : OpY P B0 A Ω Γ ⟨dst, .binOp .shr t x y u, ty, pos, aft, gd⟩ (U8 (Tr.shr8 m s)) := OpY.shr8 h
theorem OpD.shl16 {m : UInt16} [hx : AsU16 τ m] (h : 0 ≤ s) : OpY P B0 A Ω Γ ⟨dst, .binOp .shl t x y u, ty, pos, aft, gd⟩ (U16 (Tr.shl16 m s)) := OpY.shl16 h
theorem OpD.shr16 {m : UInt16} [hx : AsU16 τ m] (h : 0 ≤ s) : OpY P B0 A Ω Γ ⟨dst, .binOp .shr t x y u, ty, pos, aft, gd⟩ (U16 (Tr.shr16 m s)) := OpY.shr16 h
theorem OpD.shl32 {m : UInt32} [hx : AsU32 τ m] (h : 0 ≤ s) : OpY P B0 A Ω Γ ⟨dst, .binOp .shl t x y u, ty, pos, aft, gd⟩ (U32 (Tr.shl32 m s)) := OpY.shl32 h
theorem OpD.shr32 {m : UInt32} [hx : AsU32 τ m] (h : 0 ≤ s) : OpY P B0 A Ω Γ ⟨dst, .binOp .shr t x y u, ty, pos, aft, gd⟩ (U32 (Tr.shr32 m s)) := OpY.shr32 h
theorem OpD.shl64 {m : UInt64} [hx : AsU64 τ m] (h : 0 ≤ s) : OpY P B0 A Ω Γ ⟨dst, .binOp .shl t x y u, ty, pos, aft, gd⟩ (U64 (Tr.shl64 m s)) := OpY.shl64 h
theorem OpD.shr64 {m : UInt64} [hx : AsU64 τ m] (h : 0 ≤ s) : OpY P B0 A Ω Γ ⟨dst, .binOp .shr t x y u, ty, pos, aft, gd⟩ (U64 (Tr.shr64 m s)) := OpY.shr64 h
end
end ops
section s3
variable {P : Program} {B0 : Nat} {A : Nat → Prop} {Ω : List Pe} {Γ : Env} {dst : Option Tmp} {ty : TypeId} {pos : String} {aft : Array Edge} {gd : Option (Nat × Bool)}
variable {α : Type} {i : Dat α} {t e : TypeId} {x y z q : Operand} {τ σ ρ υ : Ty} {b o m : Nat} {pr : Prop} {l r k : Int} {u v : Unit} {xs : List α}
/-- x[l:r:k], for its bounds alone -/
theorem OpY.slice3Sv [S : TSl P t e] [T : TDat P e α i] [hx : Has Γ x τ] [ka : AsSv τ b pr o m] [Has Γ y σ] [hy : AsI σ l] [Has Γ z ρ] [hz : AsI ρ r] [Has Γ q υ] [hq : AsI υ k] (h : cut k.toNat l r = some u) (h' : cut m 0 k = some v) :
    OpY P B0 A Ω Γ ⟨dst, .slice t x (some y) (some z) (some q), ty, pos, aft, gd⟩ Ty.any :=
  OpY.val fun a w hl => by
    have h2 := cut_some h
    have h3 := cut_some h'
    have h := ka.le _ _ _ (Has.ev (x := x) (τ := τ) (op := .slice t x (some y) (some z) (some q)) (by simp [Op.operands]) hl)
    have ey : a.eval y = .int .i64 l := hy.le _ _ _ (Has.ev (x := y) (τ := σ) (op := .slice t x (some y) (some z) (some q)) (by simp [Op.operands]) hl)
    have ez : a.eval z = .int .i64 r := hz.le _ _ _ (Has.ev (x := z) (τ := ρ) (op := .slice t x (some y) (some z) (some q)) (by simp [Op.operands]) hl)
    have eq : a.eval q = .int .i64 k := hq.le _ _ _ (Has.ev (x := q) (τ := υ) (op := .slice t x (some y) (some z) (some q)) (by simp [Op.operands]) hl)
    rcases h with ⟨hp, o', c, ex, hmc, ho⟩ | ⟨hp, rfl, ex⟩
    · refine ⟨.slice (if k.toNat = l.toNat then some ⟨b, o', none⟩ else some ⟨b, o' + l.toNat * Dat.sz α, none⟩) (r.toNat - l.toNat) (k.toNat - l.toNat), ?_, trivial⟩
      have c0 : 0 ≤ k ∧ k ≤ (c : Int) := by omega
      have c1 : 0 ≤ r ∧ r ≤ (k.toNat : Int) := by omega
      have c2 : 0 ≤ l ∧ l ≤ (r.toNat : Int) := by omega
      simp only [execOp, ex, ey, ez, eq, Instr.sliceAt, Instr.slice, Option.map_some, Sem.run_bind, run_underlying S.h, Result.andThen_ok, Instr.sliceBounds, Instr.sliceBound, asIntOf, Sem.run_pure, c0, c1, c2, and_self, if_true, T.sz, addr_add]
    · have hk : k = 0 := by omega
      have hr : r = 0 := by omega
      have hl0 : l = 0 := by omega
      subst hk; subst hr; subst hl0
      refine ⟨.slice none 0 0, ?_, trivial⟩
      simp [execOp, ex, ey, ez, eq, Instr.sliceAt, Instr.slice, run_underlying S.h, Instr.sliceBounds, Instr.sliceBound, asIntOf, T.sz]
/-- x[l:r:k] of data -/
theorem OpD.slice3 [S : TSl P t e] [T : TDat P e α i] [hsx : Has Γ x τ] [hx : AsL τ α i xs] [hsy : Has Γ y σ] [hy : AsI σ l] [hsz : Has Γ z ρ] [hz : AsI ρ r] [hsq : Has Γ q υ] [hq : AsI υ k] (h : cut k.toNat l r = some u) (h' : cut xs.length 0 k = some v) :
    OpY P B0 A Ω Γ ⟨dst, .slice t x (some y) (some z) (some q), ty, pos, aft, gd⟩ (D ((xs.take r.toNat).drop l.toNat)) :=
  OpY.val fun a w hl => by
    have h2 := cut_some h
    have h3 := cut_some h'
    obtain ⟨cs, ⟨ad, c, g1, g2, g3, g3', g4⟩, g5⟩ := hx.le _ _ _ (Has.ev (x := x) (τ := τ) (op := .slice t x (some y) (some z) (some q)) (by simp [Op.operands]) hl)
    have ey : a.eval y = .int .i64 l := hy.le _ _ _ (Has.ev (x := y) (τ := σ) (op := .slice t x (some y) (some z) (some q)) (by simp [Op.operands]) hl)
    have ez : a.eval z = .int .i64 r := hz.le _ _ _ (Has.ev (x := z) (τ := ρ) (op := .slice t x (some y) (some z) (some q)) (by simp [Op.operands]) hl)
    have eq : a.eval q = .int .i64 k := hq.le _ _ _ (Has.ev (x := q) (τ := υ) (op := .slice t x (some y) (some z) (some q)) (by simp [Op.operands]) hl)
    subst g1
    have ex : a.eval x = .slice ad xs.length c := g5
    have hlen : ((xs.take r.toNat).drop l.toNat).length = r.toNat - l.toNat := by simp; omega
    refine ⟨.slice (if k.toNat = l.toNat then ad else ad.map (·.add (l.toNat * Dat.sz α))) (r.toNat - l.toNat) (k.toNat - l.toNat), ?_, [_], ⟨_, k.toNat - l.toNat, by rw [hlen], by rw [hlen]; omega, by omega, by rw [hlen]; omega, ?_⟩, rfl⟩
    · have c0 : 0 ≤ k ∧ k ≤ (c : Int) := by omega
      have c1 : 0 ≤ r ∧ r ≤ (k.toNat : Int) := by omega
      have c2 : 0 ≤ l ∧ l ≤ (r.toNat : Int) := by omega
      simp only [execOp, ex, ey, ez, eq, Instr.sliceAt, Instr.slice, Option.map_some, Option.map_none, Sem.run_bind, run_underlying S.h, Result.andThen_ok, Instr.sliceBounds, Instr.sliceBound, asIntOf, Sem.run_pure, c0, c1, c2, and_self, if_true, T.sz]
    · split
      · have : (xs.take r.toNat).drop l.toNat = [] := by apply List.eq_nil_of_length_eq_zero; rw [hlen]; omega
        rw [this]; exact elemsAt.nil
      · exact g4.cut l.toNat r.toNat (by omega)
end s3
section ts
variable {P : Program} {r : Ref} {n : Nat} {ops : Array Oper} {k : Nat} {rest : List Oper} {Γ : Env} {Ω : List Pe} {Q : Exit → Act → World → Prop}
/-- a nil slot as a private row that isn't there -/
theorem TS.nilRow (t : Tmp) (α : Type) [i : Dat α] [hp : Has Γ (.tmp t) NilS] (h : TS P r n ops rest k (Γ.set t (Sl 0 False 0 0 0)) (⟨0, False, Row ([] : List α) 0⟩ :: Ω) Q) : TS P r n ops rest k Γ Ω Q :=
  TS.weaken (Env.le_set (hp.at.trans NilS.sl0) (Env.le.refl _)) (Less.none fun h => h) h
end ts
/-! append within a row, and what stands beyond a slice's end -/
section hasb
instance (priority := 900) {b : Nat} {pr : Prop} {C : Ct} {Ω Ω' Ωr : List Pe} [h : Pick Ω b pr C Ωr] : Pick (Ω ++ Ω') b pr C (Ωr ++ Ω') := ⟨h.perm.append_right Ω'⟩
instance (priority := 800) {b : Nat} {pr : Prop} {C : Ct} {Ω Ω' Ωr : List Pe} [h : Pick Ω' b pr C Ωr] : Pick (Ω ++ Ω') b pr C (Ω ++ Ωr) := ⟨(h.perm.append_left Ω).trans List.perm_middle⟩
instance (priority := 900) {b : Nat} {pr : Prop} {C : Ct} {Ω Ω' : List Pe} [h : HasB Ω' b pr C] : HasB (Ω ++ Ω') b pr C := ⟨List.mem_append_right _ h.h⟩
instance (priority := 800) {b : Nat} {pr : Prop} {C : Ct} {Ω Ω' : List Pe} [h : HasB Ω b pr C] : HasB (Ω ++ Ω') b pr C := ⟨List.mem_append_left _ h.h⟩
end hasb
section within
variable {P : Program} {B : Nat} {Ωs Ω Ωr : List Pe} {Γ : Env} {t ty e : TypeId} {d : Tmp} {pos : String} {aft : Array Edge} {α : Type} {i : Dat α} {bt : Nat}
theorem run_appendIn [S : TSl P t e] [T : TEl P e α i bt] {A : Nat → Prop} {w : World} {b m c : Nat} {cs : List Value} {u : Value} {xs ys : List α} {ty : TypeId} (hblk : Blk w b cs) (hrow : (Row xs c).p A w cs) (hu : Src A w u ys) (hm : m + ys.length ≤ xs.length) :
    ∃ w', (Builtin.append_ #[t, t] ty #[.slice (some ⟨b, 0, none⟩) m c, u]).run P w = .ok (.slice (some ⟨b, 0, none⟩) (m + ys.length) c) w' ∧ ((ys = [] ∧ w' = w) ∨
      ∃ news, Blk w' b (setSeg cs (m * Dat.sz α) news) ∧ Mut (fun k => k = b) w w' ∧ news.length = ys.length * Dat.sz α ∧ elemsIn A w news ys) := by
  obtain ⟨ti, z, hi1, hi2, hi3, hi4, hi5⟩ := T.h
  obtain ⟨ad, c2, rfl, h4⟩ := hu
  obtain ⟨hcl, hle, hcm, hmx, hel⟩ := hrow
  have hroom : m + ys.length ≤ c := by omega
  have hmc : m ≤ c := by omega
  rcases Nat.eq_zero_or_pos ys.length with h0 | h0
  · have hy0 : ys = [] := List.eq_nil_of_length_eq_zero h0
    subst hy0
    refine ⟨w, ?_, .inl ⟨rfl, rfl⟩⟩
    have hf : (Builtin.firstCells ti.size 0 (.slice ad 0 c2)).run P w = .ok #[] w := by
      cases ad <;> simp [Builtin.firstCells, loadCells, loadCellsFrom]
    simp [Builtin.append_, run_underlying S.h, sizeOf, typeInfo, hi1, Builtin.lenOf, hf, hmc, storeCells]
  obtain ⟨b2, off, news, rfl, hl, hr, he⟩ := h4 h0
  have hnews : ∀ j v, news[j]? = some v → w.cell? (Addr.add ⟨b2, off, none⟩ j) = some v := fun j v hj => by
    obtain ⟨h5, rfl⟩ := List.getElem?_eq_some_iff.1 hj
    rw [addr_add, hr j h5, List.getD_eq_getElem?_getD, List.getElem?_eq_getElem h5]; rfl
  have hfit : m * Dat.sz α + news.length ≤ cs.length := by rw [hl, hcl, ← Nat.add_mul]; exact Nat.mul_le_mul_right _ hroom
  obtain ⟨w', r1, r2, r3, r4⟩ := run_storeCells' (P := P) hblk hfit (he.scal hl)
  have hf := run_firstCells_some (P := P) w ti.size ys.length ⟨b2, off, none⟩ ys.length c2 news (by rw [hl, hi3]) hnews
  refine ⟨w', ?_, .inr ⟨news, r2, r3, hl, he⟩⟩
  rw [hi3] at hf
  simp [Builtin.append_, run_underlying S.h, sizeOf, typeInfo, hi1, hi3, Builtin.lenOf, hroom, hf, addr_add, r1]
/-- append onto a part of a private row where what is put stands within the row -/
theorem OpT.appIn [S : TSl P t e] [T : TEl P e α i bt] {s x : Operand} {σ : Ty} {b m c c' : Nat} {pr : Prop} {xs ys : List α} [hs : Has Γ s (Sl b pr 0 m c')] [pk : Pick Ω b pr (Row xs c) Ωr] [hx : Has Γ x σ] (hl : SrcOf (Ωs ++ Ω) σ α i ys)
    (hp : pr) (hc : c' = c) (hm : m + ys.length ≤ xs.length) :
    OpT P B Ωs Ω Γ ⟨some d, .call { callee := .builtin .append, args := #[s, x], argTypes := #[t, t] }, ty, pos, aft, none⟩ (fun _ : Unit => Sl b pr 0 (m + ys.length) c') fun _ => ⟨b, pr, Row (splice xs m ys) c⟩ :: Ωr := by
  subst hc
  exact OpT.wr (C := Row xs c') rfl fun A a w hk hlv => by
    have h1 := hs.le a _ w fun t ht => hlv t (by simp [Op.operands, Call.operands, ← ht])
    have h2 := hl.h hk (hx.le a _ w fun t ht => hlv t (by simp [Op.operands, Call.operands, ← ht]))
    rcases h1 with ⟨-, h0, h1⟩ | ⟨hn, -⟩
    · obtain ⟨cs, g1, g2⟩ := hk ⟨b, pr, Row xs c'⟩ (List.mem_append_right _ (pk.perm.mem_iff.2 (List.mem_cons_self ..))) hp
      obtain ⟨w', r1, r2⟩ := run_appendIn (P := P) (t := t) (e := e) (bt := bt) (ty := ty) (m := m) g1 g2 h2 hm
      rw [← h1] at r1
      have hle : xs.length ≤ c' := g2.2.1
      refine ⟨_, fun _ _ => .inl ⟨hp, ⟨by omega, h0.2⟩, rfl⟩, ?_⟩
      rcases r2 with ⟨hy, rfl⟩ | ⟨news, r2, r3, r4, r5⟩
      · left
        refine ⟨.inl (app_run r1), fun A cs _ hc => ?_⟩
        subst hy
        have : splice xs m ([] : List α) = xs := by simp [splice]
        rw [this]; exact hc
      · right
        refine ⟨hp, w', cs, _, .inl (app_run r1), g1, r2, r3, ?_⟩
        exact Row.splice g2 r5 r4 (by omega) (by omega) (by have := g2.2.2.2.1; omega)
    · exact absurd hp hn
/-- x[l:r], beyond x's end, but within its row -/
theorem OpY.sliceBeyond {B0 : Nat} {A : Nat → Prop} {dst : Option Tmp} {gd : Option (Nat × Bool)} [S : TSl P t e] [T : TDat P e α i] {x y z : Operand} {σ ρ : Ty} {b m c : Nat} {pr : Prop} {l r : Int} {xs : List α} [hx : Has Γ x (Sl b pr 0 m c)] [hb : HasB Ω b pr (Row xs c)] [Has Γ y σ] [hy : AsI σ l] [Has Γ z ρ] [hz : AsI ρ r] (hpr : pr) (h0 : 0 ≤ l) (h1 : l ≤ r) (h2 : r ≤ xs.length) :
    OpY P B0 A Ω Γ ⟨dst, .slice t x (some y) (some z) none, ty, pos, aft, gd⟩ (Sv b pr (0 + l.toNat * Dat.sz α) (r - l).toNat) := fun a w hB hA hp hl => by
  have hcs := hp _ hb.h hpr
  obtain ⟨cs, g1, g2⟩ := hcs
  have hle : xs.length ≤ c := g2.2.1
  have h := Has.ev (x := x) (τ := Sl b pr 0 m c) (op := .slice t x (some y) (some z) none) (by simp [Op.operands]) hl
  have ey : a.eval y = .int .i64 l := hy.le _ _ _ (Has.ev (x := y) (τ := σ) (op := .slice t x (some y) (some z) none) (by simp [Op.operands]) hl)
  have ez : a.eval z = .int .i64 r := hz.le _ _ _ (Has.ev (x := z) (τ := ρ) (op := .slice t x (some y) (some z) none) (by simp [Op.operands]) hl)
  rcases h with ⟨-, hmc, ex⟩ | ⟨hn, -⟩
  · have c1 : 0 ≤ r ∧ r ≤ (c : Int) := by omega
    have c2 : 0 ≤ l ∧ l ≤ (r.toNat : Int) := by omega
    have hv : (Sv b pr (0 + l.toNat * Dat.sz α) (r - l).toNat).p A w (.slice (if c = l.toNat then some ⟨b, 0, none⟩ else some ⟨b, 0 + l.toNat * Dat.sz α, none⟩) (r.toNat - l.toNat) (c - l.toNat)) := Sv.cut (α := α) (m := c) hpr ⟨Nat.le_refl _, hmc.2⟩ (fun _ => rfl) h0 h1 c1.2 rfl
    simp only [execOp, ex, ey, ez, Instr.sliceAt, Instr.slice, Option.map_some, Option.map_none, Sem.run_bind, run_underlying S.h, Result.andThen_ok, Instr.sliceBounds, Instr.sliceBound, asIntOf, Sem.run_pure, c1, c2, and_self, if_true, T.sz, addr_add]
    exact ⟨Grow.refl _ _, hv⟩
  · exact absurd hpr hn
theorem Less.ct {b : Nat} {pr : Prop} {C C' : Ct} (h : ∀ A w cs, C.p A w cs → C'.p A w cs) : Less (⟨b, pr, C⟩ :: Ω) (⟨b, pr, C'⟩ :: Ω) :=
  ⟨fun k ⟨e, he, h1, h2⟩ => by
    rcases List.mem_cons.1 he with rfl | he
    · exact ⟨_, List.mem_cons_self .., h1, h2⟩
    · exact ⟨e, List.mem_cons_of_mem _ he, h1, h2⟩, fun hap => by
    obtain ⟨h1, h2⟩ := List.pairwise_cons.1 hap
    exact List.pairwise_cons.2 ⟨fun f hf a1 a2 => h1 f hf a1 a2, h2⟩, fun A w hk e he h1 => by
    rcases List.mem_cons.1 he with rfl | he
    · obtain ⟨cs, g1, g2⟩ := hk _ (List.mem_cons_self ..) h1
      exact ⟨cs, g1, h _ _ _ g2⟩
    · exact hk e (List.mem_cons_of_mem _ he) h1⟩
theorem Less.pkTake {Δ : List Pe} {b c : Nat} {pr : Prop} {xs ys : List α} (m : Nat) [h : Pick Ω b pr (Row xs c) Ωr] (hm : m ≤ xs.length) (he : xs.take m = ys) (k : Less Ωr Δ) : Less Ω (⟨b, pr, Row ys c⟩ :: Δ) := by
  subst he
  exact (Less.perm h.perm).trans ((Less.cons k).trans (Less.ct fun A w cs hc => Row.take hc hm))
theorem cut_of {n : Nat} {l r : Int} (h1 : 0 ≤ l) (h2 : l ≤ r) (h3 : r ≤ n) : cut n l r = some () := by unfold cut; rw [if_pos ⟨h1, h2, h3⟩]
theorem PlS.rowTail {xs : List α} {c k : Nat} (h : k ≤ xs.length) : PlS (Row xs c) (0 + k * Dat.sz α) α i (xs.drop k) fun ys => Row (splice xs k ys) c := by
  have := PlS.rowz (i := i) (c := c) (xs := xs) (k := k) (n := xs.length - k) (by omega)
  rwa [List.take_of_length_le (by simp)] at this
omit i in
theorem del_take {S zs : List α} {a j m : Nat} (hk : a ≤ S.length) (hm : m = a + (S.drop j).length) : (splice (splice S a (S.drop j)) (Int.toNat ((m : Nat) : Int)) zs).take m = S.take a ++ S.drop j := by
  have h1 : (splice S a (S.drop j)).take m = S.take a ++ S.drop j := splice_take hm hk
  have h2 : ((splice S a (S.drop j)).take m).length = m := by rw [h1, hm]; simp; omega
  show ((splice S a (S.drop j)).take (Int.toNat ((m : Nat) : Int)) ++ zs ++ _).take m = _
  rw [Int.toNat_natCast, List.append_assoc, List.take_left' h2, h1]
end within
/-! bytes of a constant string: the row gets a mark behind its end -/
section cvb
variable {P : Program} {B : Nat} {Ωs Ω Ωr : List Pe} {Γ : Env} {t ty e : TypeId} {d : Tmp} {pos : String} {aft : Array Edge} {α : Type} {i : Dat α} {bt : Nat}
theorem run_convB {w : World} {b n c : Nat} {cs : List Value} (ht : P.underlying t = some (.slice e)) (he : P.underlying e = some (.int .u8)) (hb : Blk w b cs) :
    (convert t t (.slice (some ⟨b, 0, none⟩) n c)).run P w = .ok (.slice (some ⟨b, 0, none⟩) n c) (w.freeze ⟨b, cs.length, none⟩ 1) := by
  obtain ⟨el, f, h, -⟩ := hb
  have hsh : w.shape? b = some (el, cs.length) := by unfold World.shape?; rw [h]; simp
  simp [convert, run_underlying ht, run_underlying he, markStringish, hsh]
theorem freeze_mut {w : World} {b : Nat} {cs : List Value} (hb : Blk w b cs) : Blk (w.freeze ⟨b, cs.length, none⟩ 1) b cs ∧ Mut (fun k => k = b) w (w.freeze ⟨b, cs.length, none⟩ 1) := by
  obtain ⟨el, ⟨lo, hi⟩, h, hf⟩ := hb
  have e0 : (w.freeze ⟨b, cs.length, none⟩ 1).heap = w.heap.modify b fun
      | .cells c elem (lo, hi) => .cells c elem (if lo == hi then (cs.length, cs.length + 1) else (min lo cs.length, max hi (cs.length + 1)))
      | o => o := by
    unfold World.freeze; rw [if_neg (by decide)]; rfl
  refine ⟨⟨el, if lo == hi then (cs.length, cs.length + 1) else (min lo cs.length, max hi (cs.length + 1)), ?_, .inr ?_⟩, ?_, ?_, ?_, ?_, ?_⟩
  · rw [e0, Array.getElem?_modify, if_pos rfl, h]; rfl
  · by_cases hlh : lo = hi
    · simp [hlh]
    · have : (lo == hi) = false := by simpa using hlh
      rw [this]
      rcases hf with hf | hf
      · injection hf with h1 h2; omega
      · simp only at hf; simp; omega
  · unfold World.freeze; rw [if_neg (by decide)]
  · unfold World.freeze; rw [if_neg (by decide)]
  · unfold World.freeze; rw [if_neg (by decide)]
  · rw [e0, Array.size_modify]; exact Nat.le_refl _
  · intro k hk hne
    rw [e0, Array.getElem?_modify, if_neg (fun x => hne x.symm)]
theorem OpT.convB [S : TSl P t e] [E : TIn P e .u8] {x : Operand} {b n c c' : Nat} {pr : Prop} {xs : List α} [hx : Has Γ x (Sl b pr 0 n c')] [hp : Ft pr] [pk : Pick Ω b pr (Row xs c) Ωr] :
    OpT P B Ωs Ω Γ ⟨some d, .convert t t x, ty, pos, aft, none⟩ (fun _ : Unit => Sl b pr 0 n c') fun _ => ⟨b, pr, Row xs c⟩ :: Ωr :=
  OpT.wr (C := Row xs c) rfl fun A a w hk hlv => by
    have h1 := hx.le a _ w fun t ht => hlv t (by simp [Op.operands, ← ht])
    rcases h1 with ⟨-, h0, h1⟩ | ⟨hn, -⟩
    · obtain ⟨cs, g1, g2⟩ := hk ⟨b, pr, Row xs c⟩ (List.mem_append_right _ (pk.perm.mem_iff.2 (List.mem_cons_self ..))) hp.h
      obtain ⟨m1, m2⟩ := freeze_mut g1
      refine ⟨_, fun _ _ => .inl ⟨hp.h, h0, rfl⟩, .inr ⟨hp.h, _, cs, cs, .inl ?_, g1, m1, m2, g2⟩⟩
      simp only [execOp, h1, Sem.run_bind, run_convB S.h E.h g1, Sem.run_pure, Result.andThen_ok]
    · exact absurd hp.h hn
end cvb
section al
variable {P : Program} {B : Nat} {Ωs Ω : List Pe} {Γ : Env} {t ty : TypeId} {d : Tmp} {pos : String} {aft : Array Edge} {α : Type} {i : Dat α} {bt : Nat}
theorem OpT.allocT [T : TEl P t α i bt] : OpT P B Ωs Ω Γ ⟨some d, .alloc t, ty, pos, aft, none⟩ (fun g : Nat × Unit => Pt g.1 0) fun g => ⟨g.1, True, One (Dat.z : α)⟩ :: Ω :=
  OpT.alloc (by obtain ⟨ti, z, h1, h2, _, _, h3⟩ := T.h; exact ⟨ti, z, h1, h2, h3⟩)
end al
section pc
variable {P : Program} {t u : TypeId} {Γ : Env} {f off : Nat} {β : Type} {j : Dat β}
theorem PartsC.d {p : Operand} {ps : List (Nat × Operand)} {τ : Ty} {y : β} {bt : Nat} {C C1 C' : Ct} [F : TFld P t f u off] [T : TEl P u β j bt] [hp : Has Γ p τ] [hy : ToD τ β j y] (c : CtSet C off β j y C1) (r : PartsC P t Γ ps C1 C') :
    PartsC P t Γ ((f, p) :: ps) C C' := by haveI := c; haveI := r; infer_instance
end pc
/-! drawn regions -/
theorem TRw_mono {P : Program} {B : Nat} {Ωs : List Pe} {ops : Array Oper} {n : Nat} {ms : List Nat} {K K' : Env → Fam → Prop} (hk : ∀ Γ F, K Γ F → K' Γ F) : ∀ (l : List Oper) (k : Nat) (Γ : Env) (F : Fam), TRw P B Ωs ops n ms k l Γ F K → TRw P B Ωs ops n ms k l Γ F K'
  | [], _, _, _, h => hk _ _ h
  | o :: l, k, _, _, h => by
    obtain ⟨h1, h2⟩ := h
    refine ⟨h1, ?_⟩
    rcases h2 with ⟨h2, h3, τ, h4, h5⟩ | ⟨h2, μ, τ, Ω', h4, h5⟩
    · exact .inl ⟨h2, h3, τ, h4, TRw_mono hk l _ _ _ h5⟩
    · exact .inr ⟨h2, μ, τ, Ω', h4, TRw_mono hk l _ _ _ h5⟩
section drawn
variable {P : Program} {r : Ref} {n : Nat} {Γ : Env} {Ω Ωs Ωt : List Pe} {Q : Exit → Act → World → Prop} [op : Opens r]
theorem TC.regD {id : Nat} {l : List Oper} (ms : List Nat) (bs : List Nat) [hs : Split Ω bs Ωs Ωt] (hm : P.follows .mixedOrders = true) (hB : Region.lexB .any l.toArray = true) (hc : chainB .any l.toArray ms = true)
    (h : TRw P r.w.heap.size Ωs l.toArray n ms 0 l Γ (Fam.one Ωt) fun Γ' F' => ∀ g, TE r n (Env.or (F'.Θ g) Γ') (Ωs ++ F'.Ω g) Q .normal) : TC P r n Γ Ω (.region id l.toArray true) Q :=
  TC.regionD ms Ωs Ωt (Less.perm hs.perm) hm hB hc h
/-- a drawn region, and what follows: the steps ms touch the private blocks bs -/
theorem TC.seqD {id : Nat} {l : List Oper} {y : Code} (ms : List Nat) (bs : List Nat) [hs : Split Ω bs Ωs Ωt] (hm : P.follows .mixedOrders = true) (hB : Region.lexB .any l.toArray = true) (hc : chainB .any l.toArray ms = true)
    (h : TRw P r.w.heap.size Ωs l.toArray n ms 0 l Γ (Fam.one Ωt) fun Γ' F' => ∀ g, TC P r n (Env.or (F'.Θ g) Γ') (Ωs ++ F'.Ω g) y Q) : TC P r n Γ Ω (.seq (.region id l.toArray true) y) Q :=
  TC.seq (TC.regionD ms Ωs Ωt (Less.perm hs.perm) hm hB hc h)

theorem Less.left {Ω Ω' : List Pe} : Less (Ω ++ Ω') Ω := ⟨fun k hk => Own_append.2 (.inl hk), fun hp => (List.pairwise_append.1 hp).1, fun A w hk => (Pks_append.1 hk).1⟩
theorem Env.or_le {Θ Γ : Env} : (Env.or Θ Γ).le Γ := fun t A w v h => h.2
theorem TC.regD0 {id : Nat} {l : List Oper} (hm : P.follows .mixedOrders = true) (hB : Region.lexB .any l.toArray = true)
    (h : TRw P r.w.heap.size Ω l.toArray n [] 0 l Γ (Fam.one []) fun Γ' _ => TE r n Γ' Ω Q .normal) : TC P r n Γ Ω (.region id l.toArray true) Q :=
  TC.regionD [] Ω [] (by rw [List.append_nil]; exact Less.refl _) hm hB rfl (TRw_mono (fun Γ' F' hk g a w hs => hk a w ((hs.le Env.or_le).less Less.left)) _ _ _ _ h)
theorem TC.seqD0 {id : Nat} {l : List Oper} {y : Code} (hm : P.follows .mixedOrders = true) (hB : Region.lexB .any l.toArray = true)
    (h : TRw P r.w.heap.size Ω l.toArray n [] 0 l Γ (Fam.one []) fun Γ' _ => TC P r n Γ' Ω y Q) : TC P r n Γ Ω (.seq (.region id l.toArray true) y) Q :=
  TC.seq (TC.regD0 hm hB h)
variable {B : Nat} {Ωr : List Pe} {α : Type} {i : Dat α} {t e : TypeId} {bt : Nat} {d : Tmp} {ty : TypeId} {pos : String} {aft : Array Edge}
theorem OpT.appR [S : TSl P t e] [T : TEl P e α i bt] {s x : Operand} {σ : Ty} {b m c c' : Nat} {pr : Prop} {xs ys : List α} {u : Unit} [hs : Has Γ s (Sl b pr 0 m c')] [sp : Pick Ω b pr (Row xs c) Ωr] [hx : Has Γ x σ] (hl : SrcOf (Ωs ++ Ω) σ α i ys)
    (hr : room bt ((xs.length + ys.length : Nat) : Int) = some u) (hc : c' = c) (hm : m = xs.length) :
    OpT P B Ωs Ω Γ ⟨some d, .call { callee := .builtin .append, args := #[s, x], argTypes := #[t, t] }, ty, pos, aft, none⟩ (fun g : Nat × Prop × Nat => Sl g.1 g.2.1 0 (xs ++ ys).length g.2.2) fun g => ⟨g.1, g.2.1, Row (xs ++ ys) g.2.2⟩ :: Ωr :=
  OpT.append hl hc hm (room_app hr).1 (room_app hr).2
theorem OpT.appByR [S : TSl P t e] [T : TEl P e α i bt] {s x : Operand} {σ : Ty} {b m c c' : Nat} {pr : Prop} {xs ys : List α} {u : Unit} [hs : Has Γ s (Sl b pr 0 m c')] [sp : Pick Ω b pr (Row xs c) Ωr] [hx : Has Γ x σ] (hl : SrcOf (Ωs ++ Ω) σ α i ys)
    (hr : room bt ((m + ys.length : Nat) : Int) = some u) (hc : c' = c) (hm : m ≤ xs.length) :
    OpT P B Ωs Ω Γ ⟨some d, .call { callee := .builtin .append, args := #[s, x], argTypes := #[t, t] }, ty, pos, aft, none⟩ (fun g : Nat × Prop × Nat => Sl g.1 g.2.1 0 (xs.take m ++ ys).length g.2.2) fun g => ⟨g.1, g.2.1, Row (xs.take m ++ ys) g.2.2⟩ :: Ωr :=
  OpT.appendBy hl hc hm (room_app hr).1 (room_app hr).2
end drawn
end Go.Proofs.Ytfdmajkeihdhnaa.Tr
