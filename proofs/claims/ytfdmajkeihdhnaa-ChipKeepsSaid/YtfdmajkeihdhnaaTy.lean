/- Data as it stands in memory, and the slots' types over it. Conditions: none. -/
import Derived.Test.YtfdmajkeihdhnaaCode
namespace Go.Proofs.Ytfdmajkeihdhnaa.Tr
open Go Go.RowKit
set_option linter.unusedVariables false
set_option linter.unnecessarySimpa false

/-- data that stands in cells -/
class Dat (α : Type) where
  agg : Bool
  sz : Nat
  rd : (Nat → Prop) → World → List Value → α → Prop
  wf : α → Prop
  len : ∀ {A w cs x}, rd A w cs x → cs.length = sz
  one : agg = false → sz = 1
  pos : 0 < sz
  ok : ∀ {A w cs x}, rd A w cs x → wf x
  plain : ∀ {A w v x}, agg = false → rd A w [v] x → v.cells = #[v]
  mono : ∀ {A A' w w' cs x}, Keep A A' w w' → rd A w cs x → rd A' w' cs x
  scal : ∀ {A w cs x}, rd A w cs x → ∀ v ∈ cs, v.oneCell' = true
  z : α
  zc : List Value
  zrd : ∀ {A w}, rd A w zc z

/-- the value of so many cells -/
def mkV (α : Type) [Dat α] (cs : List Value) : Value := if Dat.agg α then .agg cs.toArray else cs.getD 0 undef

theorem mkV_cells {α : Type} [Dat α] {A : Nat → Prop} {w : World} {cs : List Value} {x : α} (h : Dat.rd A w cs x) : (mkV α cs).cells = cs.toArray := by
  unfold mkV
  cases ha : Dat.agg α with
  | true => rfl
  | false =>
    have h1 := Dat.len h
    rw [Dat.one ha] at h1
    match cs, h1 with
    | [v], _ => simpa using Dat.plain ha h

def D {α : Type} [Dat α] (x : α) : Ty := ⟨fun A w v => ∃ cs, Dat.rd A w cs x ∧ v = mkV α cs, fun k ⟨cs, h1, h2⟩ => ⟨cs, Dat.mono k h1, h2⟩⟩

theorem D.wf {α : Type} [Dat α] {A : Nat → Prop} {x : α} {w : World} {v : Value} (h : (D x).p A w v) : Dat.wf x := let ⟨_, h1, _⟩ := h; Dat.ok h1

/-- a pointer to data -/
def PtrD {α : Type} [Dat α] (x : α) : Ty :=
  ⟨fun A w v => ∃ b off cs, v = .pointer (some ⟨b, off, none⟩) ∧ A b ∧ rowAt w b off cs ∧ Dat.rd A w cs x,
   fun k ⟨b, off, cs, h1, h2, h3, h4⟩ => ⟨b, off, cs, h1, (k.h b (cell_lt (h3 0 (by rw [Dat.len h4]; exact Dat.pos))) h2).1, k.row h2 h3, Dat.mono k h4⟩⟩

/-- one value -/
def Ex (v : Value) : Ty := ⟨fun _ _ u => u = v, fun _ h => h⟩
def I (n : Int) : Ty := Ex (.int .i64 n)
def B (b : Bool) : Ty := Ex (.bool b)
def U8 (x : UInt8) : Ty := Ex (.int .u8 x.toNat)
def U16 (x : UInt16) : Ty := Ex (.int .u16 x.toNat)
def U32 (x : UInt32) : Ty := Ex (.int .u32 x.toNat)
def U64 (x : UInt64) : Ty := Ex (.int .u64 x.toNat)
/-- a string of such bytes -/
def Str (l : List UInt8) : Ty := Ex (.string ⟨l.toArray⟩)
/-- the nil slice -/
def NilS : Ty := Ex (.slice none 0 0)
/-- what a guarded operation leaves -/
def Cond (p : Prop) (τ : Ty) : Ty := ⟨fun A w v => (p → τ.p A w v) ∧ (¬ p → v = undef), fun hg h => ⟨fun hp => τ.keep hg (h.1 hp), h.2⟩⟩

def intIn (n : Int) : Prop := -9223372036854775808 ≤ n ∧ n ≤ 9223372036854775807

theorem one_cell {cs : List Value} {v : Value} (h : cs = [v]) : cs.length = 1 := by rw [h]; rfl

instance : Dat Int where
  agg := false
  sz := 1
  rd _ _ cs n := cs = [.int .i64 n] ∧ intIn n
  wf := intIn
  len h := one_cell h.1
  one _ := rfl
  pos := Nat.one_pos
  ok h := h.2
  plain _ h := by simp at h; rw [h.1]; rfl
  mono _ h := h
  scal h v hv := by rw [h.1] at hv; simp at hv; rw [hv]; rfl
  z := 0
  zc := [.int .i64 0]
  zrd := ⟨rfl, by unfold intIn; omega⟩
instance : Dat UInt8 where
  agg := false
  sz := 1
  rd _ _ cs n := cs = [.int .u8 n.toNat]
  wf _ := True
  len h := one_cell h
  one _ := rfl
  pos := Nat.one_pos
  ok _ := trivial
  plain _ h := by simp at h; rw [h]; rfl
  mono _ h := h
  scal h v hv := by rw [h] at hv; simp at hv; rw [hv]; rfl
  z := 0
  zc := [.int .u8 0]
  zrd := rfl
instance : Dat UInt16 where
  agg := false
  sz := 1
  rd _ _ cs n := cs = [.int .u16 n.toNat]
  wf _ := True
  len h := one_cell h
  one _ := rfl
  pos := Nat.one_pos
  ok _ := trivial
  plain _ h := by simp at h; rw [h]; rfl
  mono _ h := h
  scal h v hv := by rw [h] at hv; simp at hv; rw [hv]; rfl
  z := 0
  zc := [.int .u16 0]
  zrd := rfl
instance : Dat UInt32 where
  agg := false
  sz := 1
  rd _ _ cs n := cs = [.int .u32 n.toNat]
  wf _ := True
  len h := one_cell h
  one _ := rfl
  pos := Nat.one_pos
  ok _ := trivial
  plain _ h := by simp at h; rw [h]; rfl
  mono _ h := h
  scal h v hv := by rw [h] at hv; simp at hv; rw [hv]; rfl
  z := 0
  zc := [.int .u32 0]
  zrd := rfl
instance : Dat UInt64 where
  agg := false
  sz := 1
  rd _ _ cs n := cs = [.int .u64 n.toNat]
  wf _ := True
  len h := one_cell h
  one _ := rfl
  pos := Nat.one_pos
  ok _ := trivial
  plain _ h := by simp at h; rw [h]; rfl
  mono _ h := h
  scal h v hv := by rw [h] at hv; simp at hv; rw [hv]; rfl
  z := 0
  zc := [.int .u64 0]
  zrd := rfl
instance : Dat Bool where
  agg := false
  sz := 1
  rd _ _ cs b := cs = [.bool b]
  wf _ := True
  len h := one_cell h
  one _ := rfl
  pos := Nat.one_pos
  ok _ := trivial
  plain _ h := by simp at h; rw [h]; rfl
  mono _ h := h
  scal h v hv := by rw [h] at hv; simp at hv; rw [hv]; rfl
  z := false
  zc := [.bool false]
  zrd := rfl

/-- the greatest length of a slice -/
def most : Nat := 140737488351232

/-- the elements of a slice -/
def elemsAt {α : Type} [Dat α] (A : Nat → Prop) (w : World) (a : Option Addr) (xs : List α) : Prop :=
  ∀ i (h : i < xs.length), ∃ b off, a = some ⟨b, off, none⟩ ∧ A b ∧ ∃ es, rowAt w b (off + i * Dat.sz α) es ∧ Dat.rd A w es xs[i]

instance instList {α : Type} [Dat α] : Dat (List α) where
  agg := false
  sz := 1
  rd A w cs xs := ∃ a c, cs = [.slice a xs.length c] ∧ xs.length ≤ c ∧ c ≤ maxLen ∧ xs.length ≤ most ∧ elemsAt A w a xs
  wf xs := xs.length ≤ most ∧ ∀ x ∈ xs, Dat.wf x
  len := fun ⟨_, _, h, _⟩ => one_cell h
  one _ := rfl
  pos := Nat.one_pos
  ok := fun ⟨a, c, _, h1, _, h2, h3⟩ => ⟨h2, fun x hx => by
    obtain ⟨i, hi, rfl⟩ := List.getElem_of_mem hx
    obtain ⟨_, _, _, _, _, _, h⟩ := h3 i hi
    exact Dat.ok h⟩
  plain _ := fun ⟨_, _, h, _⟩ => by simp at h; rw [h]; rfl
  scal := fun ⟨_, _, h, _⟩ v hv => by rw [h] at hv; simp at hv; rw [hv]; rfl
  z := []
  zc := [.slice none 0 0]
  zrd := ⟨none, 0, rfl, Nat.le_refl _, Nat.zero_le _, Nat.zero_le _, fun i hi => absurd hi (by simp)⟩
  mono := fun k ⟨a, c, h0, h1, h2, h2', h3⟩ => ⟨a, c, h0, h1, h2, h2', fun i hi => by
    obtain ⟨b, off, g1, g2, es, g3, g4⟩ := h3 i hi
    refine ⟨b, off, g1, ?_, es, k.row g2 g3, Dat.mono k g4⟩
    exact (k.h b (cell_lt (g3 0 (by rw [Dat.len g4]; exact Dat.pos))) g2).1⟩

/-! ### looking a slot up -/

class BoolIs (x y : Bool) : Prop where
  h : x = y
instance {x : Bool} : BoolIs x x := ⟨rfl⟩

/-- a fact at hand -/
class Ft (p : Prop) : Prop where
  h : p

/-- what an operand holds -/
class Has (Γ : Env) (x : Operand) (τ : outParam Ty) : Prop where
  le : ∀ (a : Act) A w, (∀ t, x = .tmp t → (Γ t).p A w (a.tmps.getD t undef)) → τ.p A w (a.eval x)

instance hasThere {Γ : Env} {t t' : Tmp} {τ σ : Ty} [BoolIs (Nat.beq t t') false] [h : Has Γ (.tmp t) τ] : Has (Env.set Γ t' σ) (.tmp t) τ where
  le a A w hl := h.le a A w fun u hu => by
    have := hl u hu
    injection hu with hu
    subst hu
    have hne : t ≠ t' := fun e => by
      have := (inferInstance : BoolIs (Nat.beq t t') false).h
      rw [e] at this
      simp at this
    unfold Env.set at this
    rwa [if_neg hne] at this
instance (priority := 2000) hasHere {Γ : Env} {t : Tmp} {τ : Ty} : Has (Env.set Γ t τ) (.tmp t) τ where
  le a A w hl := by
    have := hl t rfl
    unfold Env.set at this
    rw [if_pos rfl] at this
    exact this
instance {Γ : Env} {n : Int} : Has Γ (.const (.int .i64 n)) (I n) := ⟨fun _ _ _ _ => rfl⟩
instance {Γ : Env} {b : Bool} : Has Γ (.const (.bool b)) (B b) := ⟨fun _ _ _ _ => rfl⟩
instance {Γ : Env} : Has Γ (.const (.slice none 0 0)) NilS := ⟨fun _ _ _ _ => rfl⟩
instance {Γ : Env} {l : List UInt8} : Has Γ (.const (.string ⟨l.toArray⟩)) (Str l) := ⟨fun _ _ _ _ => rfl⟩
instance {Γ : Env} {n : Nat} [BoolIs (Nat.ble n 255) true] : Has Γ (.const (.int .u8 (no_index (OfNat.ofNat n)))) (U8 (UInt8.ofNat n)) := ⟨fun a A w _ => by
  have h := (inferInstance : BoolIs (Nat.ble n 255) true).h
  have h : n < 256 := by have := Nat.le_of_ble_eq_true h; omega
  show Value.int .u8 ((n : Nat) : Int) = Value.int .u8 ((UInt8.ofNat n).toNat : Int)
  rw [UInt8.toNat_ofNat_of_lt' h]⟩
instance {Γ : Env} {n : Nat} [BoolIs (Nat.ble n 65535) true] : Has Γ (.const (.int .u16 (no_index (OfNat.ofNat n)))) (U16 (UInt16.ofNat n)) := ⟨fun a A w _ => by
  have h := (inferInstance : BoolIs (Nat.ble n 65535) true).h
  have h : n < 65536 := by have := Nat.le_of_ble_eq_true h; omega
  show Value.int .u16 ((n : Nat) : Int) = Value.int .u16 ((UInt16.ofNat n).toNat : Int)
  rw [UInt16.toNat_ofNat_of_lt' h]⟩
instance {Γ : Env} {n : Nat} [BoolIs (Nat.ble n 4294967295) true] : Has Γ (.const (.int .u32 (no_index (OfNat.ofNat n)))) (U32 (UInt32.ofNat n)) := ⟨fun a A w _ => by
  have h := (inferInstance : BoolIs (Nat.ble n 4294967295) true).h
  have h : n < 4294967296 := by have := Nat.le_of_ble_eq_true h; omega
  show Value.int .u32 ((n : Nat) : Int) = Value.int .u32 ((UInt32.ofNat n).toNat : Int)
  rw [UInt32.toNat_ofNat_of_lt' h]⟩
instance {Γ : Env} {n : Nat} [BoolIs (Nat.ble n 18446744073709551615) true] : Has Γ (.const (.int .u64 (no_index (OfNat.ofNat n)))) (U64 (UInt64.ofNat n)) := ⟨fun a A w _ => by
  have h := (inferInstance : BoolIs (Nat.ble n 18446744073709551615) true).h
  have h : n < 18446744073709551616 := by have := Nat.le_of_ble_eq_true h; omega
  show Value.int .u64 ((n : Nat) : Int) = Value.int .u64 ((UInt64.ofNat n).toNat : Int)
  rw [UInt64.toNat_ofNat_of_lt' h]⟩

/-! ### what a type is seen as -/
class AsI (τ : Ty) (n : outParam Int) : Prop where
  le : τ.le (I n)
class AsB (τ : Ty) (b : outParam Bool) : Prop where
  le : τ.le (B b)
class AsU8 (τ : Ty) (x : outParam UInt8) : Prop where
  le : τ.le (U8 x)
class AsU16 (τ : Ty) (x : outParam UInt16) : Prop where
  le : τ.le (U16 x)
class AsU32 (τ : Ty) (x : outParam UInt32) : Prop where
  le : τ.le (U32 x)
class AsU64 (τ : Ty) (x : outParam UInt64) : Prop where
  le : τ.le (U64 x)
class AsStr (τ : Ty) (l : outParam (List UInt8)) : Prop where
  le : τ.le (Str l)
/-- any type, behind a guard that holds -/
class AsT (τ : Ty) (σ : outParam Ty) : Prop where
  le : τ.le σ

instance (priority := 100) {τ : Ty} : AsT τ τ := ⟨Ty.le.refl _⟩
instance {p : Prop} {τ σ : Ty} [h : Ft p] [k : AsT τ σ] : AsT (Cond p τ) σ := ⟨fun A w v x => k.le A w v (x.1 h.h)⟩

theorem D_one {α : Type} [Dat α] {A : Nat → Prop} {x : α} {w : World} {v : Value} (ha : Dat.agg α = false) (h : (D x).p A w v) : Dat.rd A w [v] x := by
  obtain ⟨cs, h1, rfl⟩ := h
  have := Dat.len h1
  rw [Dat.one ha] at this
  match cs, this with
  | [u], _ => simpa [mkV, ha] using h1

instance {n : Int} : AsI (I n) n := ⟨Ty.le.refl _⟩
instance {n : Int} : AsI (D n) n := ⟨fun _ _ _ h => by have := (D_one rfl h).1; simpa [I, Ex] using this⟩
instance {p : Prop} {τ : Ty} {n : Int} [h : Ft p] [k : AsI τ n] : AsI (Cond p τ) n := ⟨fun A w v x => k.le A w v (x.1 h.h)⟩
instance {b : Bool} : AsB (B b) b := ⟨Ty.le.refl _⟩
instance {b : Bool} : AsB (D b) b := ⟨fun _ _ _ h => by have := D_one rfl h; simpa [B, Ex, Dat.rd] using this⟩
instance {p : Prop} {τ : Ty} {b : Bool} [h : Ft p] [k : AsB τ b] : AsB (Cond p τ) b := ⟨fun A w v x => k.le A w v (x.1 h.h)⟩
instance {x : UInt8} : AsU8 (U8 x) x := ⟨Ty.le.refl _⟩
instance {x : UInt8} : AsU8 (D x) x := ⟨fun _ _ _ h => by have := D_one rfl h; simpa [U8, Ex, Dat.rd] using this⟩
instance {p : Prop} {τ : Ty} {x : UInt8} [h : Ft p] [k : AsU8 τ x] : AsU8 (Cond p τ) x := ⟨fun A w v x => k.le A w v (x.1 h.h)⟩
instance {x : UInt16} : AsU16 (U16 x) x := ⟨Ty.le.refl _⟩
instance {x : UInt16} : AsU16 (D x) x := ⟨fun _ _ _ h => by have := D_one rfl h; simpa [U16, Ex, Dat.rd] using this⟩
instance {p : Prop} {τ : Ty} {x : UInt16} [h : Ft p] [k : AsU16 τ x] : AsU16 (Cond p τ) x := ⟨fun A w v x => k.le A w v (x.1 h.h)⟩
instance {x : UInt32} : AsU32 (U32 x) x := ⟨Ty.le.refl _⟩
instance {x : UInt32} : AsU32 (D x) x := ⟨fun _ _ _ h => by have := D_one rfl h; simpa [U32, Ex, Dat.rd] using this⟩
instance {p : Prop} {τ : Ty} {x : UInt32} [h : Ft p] [k : AsU32 τ x] : AsU32 (Cond p τ) x := ⟨fun A w v x => k.le A w v (x.1 h.h)⟩
instance {x : UInt64} : AsU64 (U64 x) x := ⟨Ty.le.refl _⟩
instance {x : UInt64} : AsU64 (D x) x := ⟨fun _ _ _ h => by have := D_one rfl h; simpa [U64, Ex, Dat.rd] using this⟩
instance {p : Prop} {τ : Ty} {x : UInt64} [h : Ft p] [k : AsU64 τ x] : AsU64 (Cond p τ) x := ⟨fun A w v x => k.le A w v (x.1 h.h)⟩
instance {l : List UInt8} : AsStr (Str l) l := ⟨Ty.le.refl _⟩
instance {p : Prop} {τ : Ty} {l : List UInt8} [h : Ft p] [k : AsStr τ l] : AsStr (Cond p τ) l := ⟨fun A w v x => k.le A w v (x.1 h.h)⟩

theorem NilS.le {α : Type} [Dat α] : NilS.le (D ([] : List α)) := fun _ _ v h => by
  have h : v = .slice none 0 0 := h
  subst h
  exact ⟨[.slice none 0 0], ⟨none, 0, rfl, Nat.le_refl _, Nat.zero_le _, Nat.zero_le _, fun i hi => absurd hi (by simp)⟩, rfl⟩

/-- some slots' types alone -/
class Keeps (Γ : Env) (ts : List Tmp) (Δ : outParam Env) : Prop where
  le : Γ.le Δ
instance {Γ : Env} : Keeps Γ [] Env.nil := ⟨Env.le_nil _⟩
theorem Has.at {Γ : Env} {t : Tmp} {τ : Ty} (h : Has Γ (.tmp t) τ) : (Γ t).le τ := fun A w v hv => by
  have := h.le ⟨Array.replicate (t + 1) v, []⟩ A w fun u hu => by
    injection hu with hu; subst hu
    simpa [Array.getD_eq_getD_getElem?] using hv
  simpa [Act.eval] using this
instance {Γ : Env} {t : Tmp} {ts : List Tmp} {τ : Ty} {Δ : Env} [h : Has Γ (.tmp t) τ] [k : Keeps Γ ts Δ] : Keeps Γ (t :: ts) (Env.set Δ t τ) := ⟨Env.le_set h.at k.le⟩

/-- some private blocks alone -/
class KeepsB (Ω : List Pe) (bs : List Nat) (Ω' : outParam (List Pe)) : Prop where
  less : Less Ω Ω'
class InB (bs : List Nat) (b : Nat) : Prop where
  h : True
instance (priority := 2000) {b : Nat} {bs : List Nat} : InB (b :: bs) b := ⟨trivial⟩
instance {b c : Nat} {bs : List Nat} [InB bs b] : InB (c :: bs) b := ⟨trivial⟩
theorem Less.cons {Ω Ω' : List Pe} {e : Pe} (h : Less Ω Ω') : Less (e :: Ω) (e :: Ω') where
  own k := by
    rintro ⟨f, hf, hp, hb⟩
    rcases List.mem_cons.1 hf with rfl | hf
    · exact ⟨f, List.mem_cons_self .., hp, hb⟩
    · obtain ⟨g, hg, h1⟩ := h.own k ⟨f, hf, hp, hb⟩
      exact ⟨g, List.mem_cons_of_mem _ hg, h1⟩
  ap hp := by
    have hp := List.pairwise_cons.1 hp
    refine List.pairwise_cons.2 ⟨fun f hf p1 p2 he => ?_, h.ap hp.2⟩
    obtain ⟨g, hg, hq, hb⟩ := h.own f.b ⟨f, hf, p2, rfl⟩
    exact hp.1 g hg p1 hq (he.trans hb.symm)
  ks A w hk := fun f hf => by
    rcases List.mem_cons.1 hf with rfl | hf
    · exact hk f (List.mem_cons_self ..)
    · exact h.ks A w (fun g hg => hk g (List.mem_cons_of_mem _ hg)) f hf
theorem Less.drop {Ω Ω' : List Pe} {e : Pe} (h : Less Ω Ω') : Less (e :: Ω) Ω' :=
  ⟨fun k hk => let ⟨g, hg, h1⟩ := h.own k hk; ⟨g, List.mem_cons_of_mem _ hg, h1⟩, fun hp => h.ap (List.pairwise_cons.1 hp).2, fun A w hk => h.ks A w fun g hg => hk g (List.mem_cons_of_mem _ hg)⟩
instance {bs : List Nat} : KeepsB [] bs [] := ⟨Less.refl _⟩
instance (priority := 500) {e : Pe} {Ω Ω' : List Pe} {bs : List Nat} [h : KeepsB Ω bs Ω'] : KeepsB (e :: Ω) bs Ω' := ⟨Less.drop h.less⟩
instance (priority := 2000) {b : Nat} {pr : Prop} {C : Ct} {Ω Ω' : List Pe} {bs : List Nat} [InB bs b] [h : KeepsB Ω bs Ω'] : KeepsB (⟨b, pr, C⟩ :: Ω) bs (⟨b, pr, C⟩ :: Ω') := ⟨Less.cons h.less⟩

theorem TC.keep {P : Program} {r : Ref} {n : Nat} {Γ Δ : Env} {Ω Ω' : List Pe} {Q : Exit → Act → World → Prop} {c : Code} (ts : List Tmp) (bs : List Nat) [h : Keeps Γ ts Δ] [h' : KeepsB Ω bs Ω'] (k : TC P r n Δ Ω' c Q) : TC P r n Γ Ω c Q := TC.weaken h.le (TC.less h'.less k)
theorem TE.keep {r : Ref} {n : Nat} {Γ Δ : Env} {Ω Ω' : List Pe} {Q : Exit → Act → World → Prop} {e : Exit} (ts : List Tmp) (bs : List Nat) [h : Keeps Γ ts Δ] [h' : KeepsB Ω bs Ω'] (k : TE r n Δ Ω' Q e) : TE r n Γ Ω Q e := TE.weaken h.le (TE.less h'.less k)
/-- an index of any kind of integer -/
class AsIx (τ : Ty) (n : outParam Int) : Prop where
  h : ∀ {A w v}, τ.p A w v → ∃ k, v = .int k n
instance (priority := 1100) {τ : Ty} {n : Int} [k : AsI τ n] : AsIx τ n := ⟨fun h => ⟨.i64, k.le _ _ _ h⟩⟩
instance {τ : Ty} {x : UInt8} [k : AsU8 τ x] : AsIx τ (x.toNat : Int) := ⟨fun h => ⟨.u8, k.le _ _ _ h⟩⟩
instance {τ : Ty} {x : UInt16} [k : AsU16 τ x] : AsIx τ (x.toNat : Int) := ⟨fun h => ⟨.u16, k.le _ _ _ h⟩⟩
end Go.Proofs.Ytfdmajkeihdhnaa.Tr
