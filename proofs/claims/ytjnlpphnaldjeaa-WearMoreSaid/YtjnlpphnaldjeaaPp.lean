/- Small lemmas that the printed walks name. Conditions: none. -/
import Derived.Test.YtjnlpphnaldjeaaRr
namespace Go.Proofs.Ytjnlpphnaldjeaa.Tr
open Go Go.RowKit
set_option linter.unusedVariables false
set_option linter.unnecessarySimpa false

theorem Pl.rowz {α : Type} {i : Dat α} {xs : List α} {c : Nat} {k : Int} {x : α} (h : idx xs k = some x) : Pl (Row xs c) (0 + k.toNat * Dat.sz α) α i x fun y => Row (xs.set k.toNat y) c := by
  rw [Nat.zero_add]; exact Pl.row h
theorem nm_len {α : Type} {x y : List α} {m : Nat} (h : some x = some y) (hn : m = x.length) : m = y.length := by injection h with h; rw [← h]; exact hn
theorem nm_sl2 {α : Type} {b o c m : Nat} {pr : Prop} {x y : List α} (h : some x = some y) (hn : m = x.length) : (Sl b pr o m c).le (Sl b pr o y.length c) := by rw [nm_len h hn]; exact Ty.le.refl _
theorem mix_n {C : Ct} {o b q m n c : Nat} {pr : Prop} (e : m = n) : C.mix o (Sl b pr q m c) = C.mix o (Sl b pr q n c) := by rw [e]
/-! several at once -/
theorem el2_mk {α β γ : Type} {a : α} {b : β} {f : α → β → Option γ} {r : γ} (h : el2 (a, b) f = some r) : f a b = some r := h
theorem el3_mk {α β γ δ : Type} {a : α} {b : β} {c : γ} {f : α → β → γ → Option δ} {r : δ} (h : el3 (a, b, c) f = some r) : f a b c = some r := h
theorem el4_mk {α β γ δ ε : Type} {a : α} {b : β} {c : γ} {d : δ} {f : α → β → γ → δ → Option ε} {r : ε} (h : el4 (a, b, c, d) f = some r) : f a b c d = some r := h
theorem el5_mk {α β γ δ ε ζ : Type} {a : α} {b : β} {c : γ} {d : δ} {e : ε} {f : α → β → γ → δ → ε → Option ζ} {r : ζ} (h : el5 (a, b, c, d, e) f = some r) : f a b c d e = some r := h
theorem el6_mk {α β γ δ ε ζ η : Type} {a : α} {b : β} {c : γ} {d : δ} {e : ε} {z : ζ} {f : α → β → γ → δ → ε → ζ → Option η} {r : η} (h : el6 (a, b, c, d, e, z) f = some r) : f a b c d e z = some r := h
theorem el7_mk {α β γ δ ε ζ η θ : Type} {a : α} {b : β} {c : γ} {d : δ} {e : ε} {z : ζ} {y : η} {f : α → β → γ → δ → ε → ζ → η → Option θ} {r : θ} (h : el7 (a, b, c, d, e, z, y) f = some r) : f a b c d e z y = some r := h
theorem el8_mk {α β γ δ ε ζ η θ ι : Type} {a : α} {b : β} {c : γ} {d : δ} {e : ε} {z : ζ} {y : η} {x : θ} {f : α → β → γ → δ → ε → ζ → η → θ → Option ι} {r : ι} (h : el8 (a, b, c, d, e, z, y, x) f = some r) : f a b c d e z y x = some r := h
/-! pieces -/
theorem idx_take {α : Type} {xs : List α} {n : Nat} {k : Int} {x : α} (h : idx (xs.take n) k = some x) : idx xs k = some x := by
  obtain ⟨h1, h2⟩ := idx_some h
  unfold idx
  rw [if_pos h1]
  have h3 := (List.getElem?_eq_some_iff.1 h2).1
  rwa [List.getElem?_take_of_lt (by simp at h3; omega)] at h2
theorem idx_in2 {α : Type} {xs : List α} {n : Nat} {k : Int} {x : α} (h : idx (xs.take n) k = some x) : 0 ≤ k ∧ k < n := by
  have := idx_lt h
  simp at this; omega
theorem cut_le {n : Nat} {l r : Int} {u : Unit} (h : cut n l r = some u) : l.toNat + (r - l).toNat ≤ n := by have := cut_some h; omega
theorem cut_le0 {n : Nat} {r : Int} {u : Unit} (h : cut n 0 r = some u) : r.toNat ≤ n := by have := cut_some h; omega
theorem cut_len {α : Type} {xs : List α} {n : Nat} {l r : Int} {u : Unit} (h : cut n l r = some u) (hn : xs.length = n) : (r - l).toNat = ((xs.drop l.toNat).take (r - l).toNat).length := by have := cut_some h; simp; omega
theorem cut_leF {α : Type} {xs : List α} {m : Nat} {l : Int} {u : Unit} (h : cut xs.length l xs.length = some u) (hm : m = xs.length) : l.toNat + ((m : Int) - l).toNat ≤ xs.length := by have := cut_some h; omega
theorem cut_lenF {α : Type} {xs : List α} {m : Nat} {l : Int} {u : Unit} (h : cut xs.length l xs.length = some u) (hm : m = xs.length) : ((m : Int) - l).toNat = ((xs.drop l.toNat).take ((m : Int) - l).toNat).length := by have := cut_some h; simp; omega
theorem PlS.rowz {α : Type} {i : Dat α} {xs : List α} {c k n : Nat} (h : k + n ≤ xs.length) : PlS (Row xs c) (0 + k * Dat.sz α) α i ((xs.drop k).take n) fun ys => Row (splice xs k ys) c := by
  rw [Nat.zero_add]; exact PlS.row h
theorem make_le {bt : Nat} {m n : Int} {u v : Unit} (h : room bt n = some u) (k : cut n.toNat 0 m = some v) : 0 ≤ m ∧ m ≤ n := by
  have := cut_some k; have := room_some h; omega
theorem make_le2 {α : Type} {z : α} {bt : Nat} {m n : Int} {u v : Unit} (h : room bt n = some u) (k : cut n.toNat 0 m = some v) : m.toNat ≤ (List.replicate n.toNat z).length := by
  have := cut_some k; simp; omega
theorem Vec.put_nil {α : Type} {n : Nat} {v : Vec α n} {k : Nat} : v.put k [] = v := by
  unfold Vec.put splice
  split
  · cases v; simp
  · rfl
def nz (b : Bool) : Option Unit := bif b then some () else none
theorem nz_some {p : Prop} [Decidable p] {u : Unit} (h : nz (decide p) = some u) : p := by
  unfold nz at h
  by_cases hp : p
  · exact hp
  · simp [hp] at h
theorem slD {b c m n : Nat} {pr : Prop} {A : Nat → Prop} {w : World} {v : Value} (e : m = n) (h : (Sl b pr 0 m c).p A w v) : (Sl b pr 0 n c).p A w v := e ▸ h
theorem VC_le {C C' : Ct} (h : ∀ A w cs, C.p A w cs → C'.p A w cs) : (VC C).le (VC C') := fun A w v ⟨cs, h1, h2⟩ => ⟨cs, h A w cs h1, h2⟩
/-- a private slice's cell: what stood there before does not count -/
theorem mix_nil {α : Type} {i : Dat α} {C C' : Ct} {o b m n c : Nat} {pr : Prop} (hs : CtSet C o (List α) instList [] C') (e : m = n) : ∀ A w cs, (C.mix o (Sl b pr 0 m c)).p A w cs → (C'.mix o (Sl b pr 0 n c)).p A w cs := fun A w cs ⟨cs0, v, h1, h2, h3, h4⟩ => by
  subst e
  have hz : Dat.rd A w [.slice none 0 0] ([] : List α) := ⟨none, 0, rfl, Nat.le_refl _, by unfold maxLen; omega, by unfold most; simp, fun i hi => absurd hi (by simp)⟩
  obtain ⟨-, g2⟩ := hs.h h1 hz
  have hss : setSeg cs0 o [Value.slice none 0 0] = cs0.set o (.slice none 0 0) := by
    refine getD_ext (by rw [setSeg_length (by simp; omega), List.length_set]) fun q hq => ?_
    rw [setSeg_getD (by simp; omega)]
    simp only [List.getD_eq_getElem?_getD, List.length_singleton]
    by_cases hqo : q = o
    · subst hqo; rw [if_pos (by omega), List.getElem?_set_self h2]; simp
    · rw [if_neg (by omega), List.getElem?_set_ne (Ne.symm hqo)]
  rw [hss] at g2
  exact ⟨_, v, g2, by simpa using h2, h3, by rw [h4]; simp⟩
instance {A : Nat → Prop} : OwnIn A [] := ⟨fun k ⟨e, he, _⟩ => absurd he (by simp)⟩
section ops
variable {P : Program} {B0 : Nat} {A : Nat → Prop} {Ω : List Pe} {Γ : Env} {dst : Option Tmp} {ty : TypeId} {pos : String} {aft : Array Edge} {gd : Option (Nat × Bool)}
/-! shifts -/
def shl8 (m : UInt8) (s : Int) : UInt8 := UInt8.ofNat (m.toNat * 2 ^ s.toNat)
def shr8 (m : UInt8) (s : Int) : UInt8 := UInt8.ofNat (m.toNat / 2 ^ s.toNat)
def shl16 (m : UInt16) (s : Int) : UInt16 := UInt16.ofNat (m.toNat * 2 ^ s.toNat)
def shr16 (m : UInt16) (s : Int) : UInt16 := UInt16.ofNat (m.toNat / 2 ^ s.toNat)
def shl32 (m : UInt32) (s : Int) : UInt32 := UInt32.ofNat (m.toNat * 2 ^ s.toNat)
def shr32 (m : UInt32) (s : Int) : UInt32 := UInt32.ofNat (m.toNat / 2 ^ s.toNat)
def shl64 (m : UInt64) (s : Int) : UInt64 := UInt64.ofNat (m.toNat * 2 ^ s.toNat)
def shr64 (m : UInt64) (s : Int) : UInt64 := UInt64.ofNat (m.toNat / 2 ^ s.toNat)
section
variable {x y : Operand} {τ σ : Ty} {t u : TypeId} {s : Int} [hsx : Has Γ x τ] [hsy : Has Γ y σ] [hy : AsCnt σ s]
include hsx hsy hy
theorem OpD.shl8 {m : UInt8} [hx : AsU8 τ m] (h : 0 ≤ s) : OpY P B0 A Ω Γ ⟨dst, .binOp .shl t x y u, ty, pos, aft, gd⟩ (U8 (Tr.shl8 m s)) := OpY.shl8 h
theorem OpD.shr8 {m : UInt8} [hx : AsU8 τ m] (h : 0 ≤ s) : OpY P B0 A Ω Γ ⟨dst, .binOp .shr t x y u, ty, pos, aft, gd⟩ (U8 (Tr.shr8 m s)) := OpY.shr8 h
theorem OpD.shl16 {m : UInt16} [hx : AsU16 τ m] (h : 0 ≤ s) : OpY P B0 A Ω Γ ⟨dst, .binOp .shl t x y u, ty, pos, aft, gd⟩ (U16 (Tr.shl16 m s)) := OpY.shl16 h
theorem OpD.shr16 {m : UInt16} [hx : AsU16 τ m] (h : 0 ≤ s) : OpY P B0 A Ω Γ ⟨dst, .binOp .shr t x y u, ty, pos, aft, gd⟩ (U16 (Tr.shr16 m s)) := OpY.shr16 h
theorem OpD.shl32 {m : UInt32} [hx : AsU32 τ m] (h : 0 ≤ s) : OpY P B0 A Ω Γ ⟨dst, .binOp .shl t x y u, ty, pos, aft, gd⟩ (U32 (Tr.shl32 m s)) := OpY.shl32 h
theorem OpD.shr32 {m : UInt32} [hx : AsU32 τ m] (h : 0 ≤ s) : OpY P B0 A Ω Γ ⟨dst, .binOp .shr t x y u, ty, pos, aft, gd⟩ (U32 (Tr.shr32 m s)) := OpY.shr32 h
theorem OpD.shl64 {m : UInt64} [hx : AsU64 τ m] (h : 0 ≤ s) : OpY P B0 A Ω Γ ⟨dst, .binOp .shl t x y u, ty, pos, aft, gd⟩ (U64 (Tr.shl64 m s)) := OpY.shl64 h
theorem OpD.shr64 {m : UInt64} [hx : AsU64 τ m] (h : 0 ≤ s) : OpY P B0 A Ω Γ ⟨dst, .binOp .shr t x y u, ty, pos, aft, gd⟩ (U64 (Tr.shr64 m s)) := OpY.shr64 h
end
end ops
section s3
variable {P : Program} {B0 : Nat} {A : Nat → Prop} {Ω : List Pe} {Γ : Env} {dst : Option Tmp} {ty : TypeId} {pos : String} {aft : Array Edge} {gd : Option (Nat × Bool)}
variable {α : Type} {i : Dat α} {t e : TypeId} {x y z q : Operand} {τ σ ρ υ : Ty} {b o m : Nat} {pr : Prop} {l r k : Int} {u v : Unit} {xs : List α}
/-- x[l:r:k], for its bounds alone -/
theorem OpY.slice3Sv [S : TSl P t e] [T : TDat P e α i] [hx : Has Γ x τ] [ka : AsSv τ b pr o m] [Has Γ y σ] [hy : AsI σ l] [Has Γ z ρ] [hz : AsI ρ r] [Has Γ q υ] [hq : AsI υ k] (h : cut k.toNat l r = some u) (h' : cut m 0 k = some v) :
    OpY P B0 A Ω Γ ⟨dst, .slice t x (some y) (some z) (some q), ty, pos, aft, gd⟩ Ty.any :=
  OpY.val fun a w hl => by
    have h2 := cut_some h
    have h3 := cut_some h'
    have h := ka.le _ _ _ (Has.ev (x := x) (τ := τ) (op := .slice t x (some y) (some z) (some q)) (by simp [Op.operands]) hl)
    have ey : a.eval y = .int .i64 l := hy.le _ _ _ (Has.ev (x := y) (τ := σ) (op := .slice t x (some y) (some z) (some q)) (by simp [Op.operands]) hl)
    have ez : a.eval z = .int .i64 r := hz.le _ _ _ (Has.ev (x := z) (τ := ρ) (op := .slice t x (some y) (some z) (some q)) (by simp [Op.operands]) hl)
    have eq : a.eval q = .int .i64 k := hq.le _ _ _ (Has.ev (x := q) (τ := υ) (op := .slice t x (some y) (some z) (some q)) (by simp [Op.operands]) hl)
    rcases h with ⟨hp, o', c, ex, hmc, ho⟩ | ⟨hp, rfl, ex⟩
    · refine ⟨.slice (if k.toNat = l.toNat then some ⟨b, o', none⟩ else some ⟨b, o' + l.toNat * Dat.sz α, none⟩) (r.toNat - l.toNat) (k.toNat - l.toNat), ?_, trivial⟩
      have c0 : 0 ≤ k ∧ k ≤ (c : Int) := by omega
      have c1 : 0 ≤ r ∧ r ≤ (k.toNat : Int) := by omega
      have c2 : 0 ≤ l ∧ l ≤ (r.toNat : Int) := by omega
      simp only [execOp, ex, ey, ez, eq, Instr.sliceAt, Instr.slice, Option.map_some, Sem.run_bind, run_underlying S.h, Result.andThen_ok, Instr.sliceBounds, Instr.sliceBound, asIntOf, Sem.run_pure, c0, c1, c2, and_self, if_true, T.sz, addr_add]
    · have hk : k = 0 := by omega
      have hr : r = 0 := by omega
      have hl0 : l = 0 := by omega
      subst hk; subst hr; subst hl0
      refine ⟨.slice none 0 0, ?_, trivial⟩
      simp [execOp, ex, ey, ez, eq, Instr.sliceAt, Instr.slice, run_underlying S.h, Instr.sliceBounds, Instr.sliceBound, asIntOf, T.sz]
/-- x[l:r:k] of data -/
theorem OpD.slice3 [S : TSl P t e] [T : TDat P e α i] [hsx : Has Γ x τ] [hx : AsL τ α i xs] [hsy : Has Γ y σ] [hy : AsI σ l] [hsz : Has Γ z ρ] [hz : AsI ρ r] [hsq : Has Γ q υ] [hq : AsI υ k] (h : cut k.toNat l r = some u) (h' : cut xs.length 0 k = some v) :
    OpY P B0 A Ω Γ ⟨dst, .slice t x (some y) (some z) (some q), ty, pos, aft, gd⟩ (D ((xs.take r.toNat).drop l.toNat)) :=
  OpY.val fun a w hl => by
    have h2 := cut_some h
    have h3 := cut_some h'
    obtain ⟨cs, ⟨ad, c, g1, g2, g3, g3', g4⟩, g5⟩ := hx.le _ _ _ (Has.ev (x := x) (τ := τ) (op := .slice t x (some y) (some z) (some q)) (by simp [Op.operands]) hl)
    have ey : a.eval y = .int .i64 l := hy.le _ _ _ (Has.ev (x := y) (τ := σ) (op := .slice t x (some y) (some z) (some q)) (by simp [Op.operands]) hl)
    have ez : a.eval z = .int .i64 r := hz.le _ _ _ (Has.ev (x := z) (τ := ρ) (op := .slice t x (some y) (some z) (some q)) (by simp [Op.operands]) hl)
    have eq : a.eval q = .int .i64 k := hq.le _ _ _ (Has.ev (x := q) (τ := υ) (op := .slice t x (some y) (some z) (some q)) (by simp [Op.operands]) hl)
    subst g1
    have ex : a.eval x = .slice ad xs.length c := g5
    have hlen : ((xs.take r.toNat).drop l.toNat).length = r.toNat - l.toNat := by simp; omega
    refine ⟨.slice (if k.toNat = l.toNat then ad else ad.map (·.add (l.toNat * Dat.sz α))) (r.toNat - l.toNat) (k.toNat - l.toNat), ?_, [_], ⟨_, k.toNat - l.toNat, by rw [hlen], by rw [hlen]; omega, by omega, by rw [hlen]; omega, ?_⟩, rfl⟩
    · have c0 : 0 ≤ k ∧ k ≤ (c : Int) := by omega
      have c1 : 0 ≤ r ∧ r ≤ (k.toNat : Int) := by omega
      have c2 : 0 ≤ l ∧ l ≤ (r.toNat : Int) := by omega
      simp only [execOp, ex, ey, ez, eq, Instr.sliceAt, Instr.slice, Option.map_some, Option.map_none, Sem.run_bind, run_underlying S.h, Result.andThen_ok, Instr.sliceBounds, Instr.sliceBound, asIntOf, Sem.run_pure, c0, c1, c2, and_self, if_true, T.sz]
    · split
      · have : (xs.take r.toNat).drop l.toNat = [] := by apply List.eq_nil_of_length_eq_zero; rw [hlen]; omega
        rw [this]; exact elemsAt.nil
      · exact g4.cut l.toNat r.toNat (by omega)
end s3
section ts
variable {P : Program} {r : Ref} {n : Nat} {ops : Array Oper} {k : Nat} {rest : List Oper} {Γ : Env} {Ω : List Pe} {Q : Exit → Act → World → Prop}
/-- a nil slot as a private row that isn't there -/
theorem TS.nilRow (t : Tmp) (α : Type) [i : Dat α] [hp : Has Γ (.tmp t) NilS] (h : TS P r n ops rest k (Γ.set t (Sl 0 False 0 0 0)) (⟨0, False, Row ([] : List α) 0⟩ :: Ω) Q) : TS P r n ops rest k Γ Ω Q :=
  TS.weaken (Env.le_set (hp.at.trans NilS.sl0) (Env.le.refl _)) (Less.none fun h => h) h
end ts
section al
variable {P : Program} {B : Nat} {Ωs Ω : List Pe} {Γ : Env} {t ty : TypeId} {d : Tmp} {pos : String} {aft : Array Edge} {α : Type} {i : Dat α} {bt : Nat}
theorem OpT.allocT [T : TEl P t α i bt] : OpT P B Ωs Ω Γ ⟨some d, .alloc t, ty, pos, aft, none⟩ (fun g : Nat × Unit => Pt g.1 0) fun g => ⟨g.1, True, One (Dat.z : α)⟩ :: Ω :=
  OpT.alloc (by obtain ⟨ti, z, h1, h2, _, _, h3⟩ := T.h; exact ⟨ti, z, h1, h2, h3⟩)
end al
section pc
variable {P : Program} {t u : TypeId} {Γ : Env} {f off : Nat} {β : Type} {j : Dat β}
theorem PartsC.d {p : Operand} {ps : List (Nat × Operand)} {τ : Ty} {y : β} {bt : Nat} {C C1 C' : Ct} [F : TFld P t f u off] [T : TEl P u β j bt] [hp : Has Γ p τ] [hy : ToD τ β j y] (c : CtSet C off β j y C1) (r : PartsC P t Γ ps C1 C') :
    PartsC P t Γ ((f, p) :: ps) C C' := by haveI := c; haveI := r; infer_instance
end pc
/-! drawn regions -/
theorem TRw_mono {P : Program} {B : Nat} {Ωs : List Pe} {ops : Array Oper} {n : Nat} {ms : List Nat} {K K' : Env → Fam → Prop} (hk : ∀ Γ F, K Γ F → K' Γ F) : ∀ (l : List Oper) (k : Nat) (Γ : Env) (F : Fam), TRw P B Ωs ops n ms k l Γ F K → TRw P B Ωs ops n ms k l Γ F K'
  | [], _, _, _, h => hk _ _ h
  | o :: l, k, _, _, h => by
    obtain ⟨h1, h2⟩ := h
    refine ⟨h1, ?_⟩
    rcases h2 with ⟨h2, h3, τ, h4, h5⟩ | ⟨h2, μ, τ, Ω', h4, h5⟩
    · exact .inl ⟨h2, h3, τ, h4, TRw_mono hk l _ _ _ h5⟩
    · exact .inr ⟨h2, μ, τ, Ω', h4, TRw_mono hk l _ _ _ h5⟩
section drawn
variable {P : Program} {r : Ref} {n : Nat} {Γ : Env} {Ω Ωs Ωt : List Pe} {Q : Exit → Act → World → Prop} [op : Opens r]
theorem TC.regD {id : Nat} {l : List Oper} (ms : List Nat) (bs : List Nat) [hs : Split Ω bs Ωs Ωt] (hm : P.follows .mixedOrders = true) (hB : Region.lexB .any l.toArray = true) (hc : chainB .any l.toArray ms = true)
    (h : TRw P r.w.heap.size Ωs l.toArray n ms 0 l Γ (Fam.one Ωt) fun Γ' F' => ∀ g, TE r n (Env.or (F'.Θ g) Γ') (Ωs ++ F'.Ω g) Q .normal) : TC P r n Γ Ω (.region id l.toArray true) Q :=
  TC.regionD ms Ωs Ωt (Less.perm hs.perm) hm hB hc h
/-- a drawn region, and what follows: the steps ms touch the private blocks bs -/
theorem TC.seqD {id : Nat} {l : List Oper} {y : Code} (ms : List Nat) (bs : List Nat) [hs : Split Ω bs Ωs Ωt] (hm : P.follows .mixedOrders = true) (hB : Region.lexB .any l.toArray = true) (hc : chainB .any l.toArray ms = true)
    (h : TRw P r.w.heap.size Ωs l.toArray n ms 0 l Γ (Fam.one Ωt) fun Γ' F' => ∀ g, TC P r n (Env.or (F'.Θ g) Γ') (Ωs ++ F'.Ω g) y Q) : TC P r n Γ Ω (.seq (.region id l.toArray true) y) Q :=
  TC.seq (TC.regionD ms Ωs Ωt (Less.perm hs.perm) hm hB hc h)

theorem Less.left {Ω Ω' : List Pe} : Less (Ω ++ Ω') Ω := ⟨fun k hk => Own_append.2 (.inl hk), fun hp => (List.pairwise_append.1 hp).1, fun A w hk => (Pks_append.1 hk).1⟩
theorem Env.or_le {Θ Γ : Env} : (Env.or Θ Γ).le Γ := fun t A w v h => h.2
theorem TC.regD0 {id : Nat} {l : List Oper} (hm : P.follows .mixedOrders = true) (hB : Region.lexB .any l.toArray = true)
    (h : TRw P r.w.heap.size Ω l.toArray n [] 0 l Γ (Fam.one []) fun Γ' _ => TE r n Γ' Ω Q .normal) : TC P r n Γ Ω (.region id l.toArray true) Q :=
  TC.regionD [] Ω [] (by rw [List.append_nil]; exact Less.refl _) hm hB rfl (TRw_mono (fun Γ' F' hk g a w hs => hk a w ((hs.le Env.or_le).less Less.left)) _ _ _ _ h)
theorem TC.seqD0 {id : Nat} {l : List Oper} {y : Code} (hm : P.follows .mixedOrders = true) (hB : Region.lexB .any l.toArray = true)
    (h : TRw P r.w.heap.size Ω l.toArray n [] 0 l Γ (Fam.one []) fun Γ' _ => TC P r n Γ' Ω y Q) : TC P r n Γ Ω (.seq (.region id l.toArray true) y) Q :=
  TC.seq (TC.regD0 hm hB h)
variable {B : Nat} {Ωr : List Pe} {α : Type} {i : Dat α} {t e : TypeId} {bt : Nat} {d : Tmp} {ty : TypeId} {pos : String} {aft : Array Edge}
theorem OpT.appR [S : TSl P t e] [T : TEl P e α i bt] {s x : Operand} {σ : Ty} {b m c c' : Nat} {pr : Prop} {xs ys : List α} {u : Unit} [hs : Has Γ s (Sl b pr 0 m c')] [sp : Pick Ω b pr (Row xs c) Ωr] [hx : Has Γ x σ] (hl : SrcOf (Ωs ++ Ω) σ α i ys)
    (hr : room bt ((xs.length + ys.length : Nat) : Int) = some u) (hc : c' = c) (hm : m = xs.length) :
    OpT P B Ωs Ω Γ ⟨some d, .call { callee := .builtin .append, args := #[s, x], argTypes := #[t, t] }, ty, pos, aft, none⟩ (fun g : Nat × Prop × Nat => Sl g.1 g.2.1 0 (xs ++ ys).length g.2.2) fun g => ⟨g.1, g.2.1, Row (xs ++ ys) g.2.2⟩ :: Ωr :=
  OpT.append hl hc hm (room_app hr).1 (room_app hr).2
theorem OpT.appByR [S : TSl P t e] [T : TEl P e α i bt] {s x : Operand} {σ : Ty} {b m c c' : Nat} {pr : Prop} {xs ys : List α} {u : Unit} [hs : Has Γ s (Sl b pr 0 m c')] [sp : Pick Ω b pr (Row xs c) Ωr] [hx : Has Γ x σ] (hl : SrcOf (Ωs ++ Ω) σ α i ys)
    (hr : room bt ((m + ys.length : Nat) : Int) = some u) (hc : c' = c) (hm : m ≤ xs.length) :
    OpT P B Ωs Ω Γ ⟨some d, .call { callee := .builtin .append, args := #[s, x], argTypes := #[t, t] }, ty, pos, aft, none⟩ (fun g : Nat × Prop × Nat => Sl g.1 g.2.1 0 (xs.take m ++ ys).length g.2.2) fun g => ⟨g.1, g.2.1, Row (xs.take m ++ ys) g.2.2⟩ :: Ωr :=
  OpT.appendBy hl hc hm (room_app hr).1 (room_app hr).2
end drawn
end Go.Proofs.Ytjnlpphnaldjeaa.Tr
