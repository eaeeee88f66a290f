/- Steps that name what they make, one by one; ways cut where they meet. Conditions: none. -/
import Derived.Test.YtfdmajkeihdhnaaQq
namespace Go.Proofs.Ytfdmajkeihdhnaa.Tr
open Go Go.RowKit
set_option linter.unusedVariables false
set_option linter.unnecessarySimpa false

section ts
variable {P : Program} {r : Ref} {n : Nat} {ops : Array Oper} {k : Nat} {rest : List Oper} {Γ : Env} {Ω Ωr : List Pe} {Q : Exit → Act → World → Prop} [op : Opens r]
variable {d : Tmp} {ty : TypeId} {pos : String} {aft : Array Edge} {α : Type} {i : Dat α} {t e : TypeId} {bt : Nat}
theorem TS.box {x : Operand} {τ : Ty} {y : α} [T : TDat P t α i] [hx : Has Γ x τ] [hy : ToD τ α i y] (hd : Nat.blt d n = true)
    (hk : ∀ b, TS P r n ops rest (k + 1) (Γ.set d (Pt b 0)) (⟨b, True, One y⟩ :: Ω) Q) : TS P r n ops (⟨some d, .box t x, ty, pos, aft, none⟩ :: rest) k Γ Ω Q :=
  TS.t OpT.box hd fun g => hk g.1
theorem TS.alloc [T : TEl P t α i bt] (hd : Nat.blt d n = true)
    (hk : ∀ b, TS P r n ops rest (k + 1) (Γ.set d (Pt b 0)) (⟨b, True, One (Dat.z : α)⟩ :: Ω) Q) : TS P r n ops (⟨some d, .alloc t, ty, pos, aft, none⟩ :: rest) k Γ Ω Q :=
  TS.t (OpT.alloc (by obtain ⟨ti, z, h1, h2, _, _, h3⟩ := T.h; exact ⟨ti, z, h1, h2, h3⟩)) hd fun g => hk g.1
theorem TS.build [S : TSl P t e] [T : TEl P e α i bt] {m : Nat} {parts : Array (Nat × Operand)} (xs : List Operand) {ys : List α} [h : HasAll Γ xs α i ys]
    (hp : parts = (xs.zipIdx.map fun p => (p.2, p.1)).toArray) (hn : xs.length = m) (hs : m * Dat.sz α ≤ 16777216) (hd : Nat.blt d n = true)
    (hk : ∀ b, TS P r n ops rest (k + 1) (Γ.set d (Sl b True 0 ys.length ys.length)) (⟨b, True, Row ys ys.length⟩ :: Ω) Q) : TS P r n ops (⟨some d, .buildSlice t m parts, ty, pos, aft, none⟩ :: rest) k Γ Ω Q :=
  TS.t (OpT.buildSlice xs hp hn hs) hd fun g => hk g.1
theorem TS.make [S : TSl P t e] [T : TEl P e α i bt] {x y : Operand} {τ σ : Ty} {m q : Int} {u : Unit} [hx : Has Γ x τ] [kx : AsI τ m] [hy : Has Γ y σ] [kk : AsI σ q] (h0 : room bt q = some u) (hm : 0 ≤ m ∧ m ≤ q) (hd : Nat.blt d n = true)
    (hk : ∀ b, TS P r n ops rest (k + 1) (Γ.set d (Sl b True 0 m.toNat q.toNat)) (⟨b, True, Row (List.replicate q.toNat (Dat.z (α := α))) q.toNat⟩ :: Ω) Q) : TS P r n ops (⟨some d, .makeSlice t x y, ty, pos, aft, none⟩ :: rest) k Γ Ω Q :=
  TS.t (OpT.makeSlice hm.1 hm.2 (room_make h0).2.1 (room_make h0).2.2) hd fun g => hk g.1
theorem TS.app [S : TSl P t e] [T : TEl P e α i bt] {s x : Operand} {σ : Ty} {b m c c' : Nat} {pr : Prop} {xs ys : List α} {u : Unit} [hs : Has Γ s (Sl b pr 0 m c')] [sp : Pick Ω b pr (Row xs c) Ωr] [hx : Has Γ x σ] (hl : SrcOf Ω σ α i ys)
    (hr : room bt ((xs.length + ys.length : Nat) : Int) = some u) (hc : c' = c) (hm : m = xs.length) (hd : Nat.blt d n = true)
    (hk : ∀ b pr c, TS P r n ops rest (k + 1) (Γ.set d (Sl b pr 0 (xs ++ ys).length c)) (⟨b, pr, Row (xs ++ ys) c⟩ :: Ωr) Q) : TS P r n ops (⟨some d, .call { callee := .builtin .append, args := #[s, x], argTypes := #[t, t] }, ty, pos, aft, none⟩ :: rest) k Γ Ω Q :=
  TS.t (OpT.append hl hc hm (room_app hr).1 (room_app hr).2) hd fun g => hk g.1 g.2.1 g.2.2
theorem TS.appBy [S : TSl P t e] [T : TEl P e α i bt] {s x : Operand} {σ : Ty} {b m c c' : Nat} {pr : Prop} {xs ys : List α} {u : Unit} [hs : Has Γ s (Sl b pr 0 m c')] [sp : Pick Ω b pr (Row xs c) Ωr] [hx : Has Γ x σ] (hl : SrcOf Ω σ α i ys)
    (hr : room bt ((m + ys.length : Nat) : Int) = some u) (hc : c' = c) (hm : m ≤ xs.length) (hd : Nat.blt d n = true)
    (hk : ∀ b pr c, TS P r n ops rest (k + 1) (Γ.set d (Sl b pr 0 (xs.take m ++ ys).length c)) (⟨b, pr, Row (xs.take m ++ ys) c⟩ :: Ωr) Q) : TS P r n ops (⟨some d, .call { callee := .builtin .append, args := #[s, x], argTypes := #[t, t] }, ty, pos, aft, none⟩ :: rest) k Γ Ω Q :=
  TS.t (OpT.appendBy hl hc hm (room_app hr).1 (room_app hr).2) hd fun g => hk g.1 g.2.1 g.2.2
/-- a step without a name -/
theorem TS.u {gd : Option (Nat × Bool)} {o : Op} {τ : Ty} {Ω' : List Pe} (h : OpT P r.w.heap.size [] Ω Γ ⟨some d, o, ty, pos, aft, gd⟩ (fun _ : Unit => τ) fun _ => Ω') (hd : Nat.blt d n = true) (hk : TS P r n ops rest (k + 1) (Γ.set d τ) Ω' Q) : TS P r n ops (⟨some d, o, ty, pos, aft, gd⟩ :: rest) k Γ Ω Q :=
  TS.t h hd fun _ => hk
theorem TS.un {gd : Option (Nat × Bool)} {o : Op} {τ : Ty} {Ω' : List Pe} (h : OpT P r.w.heap.size [] Ω Γ ⟨none, o, ty, pos, aft, gd⟩ (fun _ : Unit => τ) fun _ => Ω') (hk : TS P r n ops rest (k + 1) Γ Ω' Q) : TS P r n ops (⟨none, o, ty, pos, aft, gd⟩ :: rest) k Γ Ω Q :=
  TS.tn h fun _ => hk
end ts
section cut
variable {P : Program} {r : Ref} {n : Nat} {Γ : Env} {Ω Ωr : List Pe} {Q : Exit → Act → World → Prop}
/-- where ways meet again -/
def CutQ {σ ν : Type} (r : Ref) (n : Nat) (p : σ → Prop) (Δ : σ → ν → Env) (J : σ → ν → List Pe) (Q : Exit → Act → World → Prop) : Exit → Act → World → Prop
  | .normal, a, w => ∃ s m, p s ∧ Stt r n (Δ s m) (J s m) a w
  | e, a, w => Q e a w
theorem TC.cutP {σ ν : Type} {c : Code} (p : σ → Prop) (Δ : σ → ν → Env) (J : σ → ν → List Pe) (h : TC P r n Γ Ω c (CutQ r n p Δ J Q)) (k : ∀ s m, p s → TE r n (Δ s m) (J s m) Q .normal) : TC P r n Γ Ω c Q := fun a w hs => wpIn_mono (h a w hs) fun e a' w' hq => by
  cases e with
  | normal => obtain ⟨s, m, h1, h2⟩ := hq; exact k s m h1 a' w' h2
  | _ => exact hq
theorem TE.cutP {σ ν : Type} {p : σ → Prop} {Δ : σ → ν → Env} {J : σ → ν → List Pe} (s : σ) (m : ν) (hp : p s) (h : Γ.le (Δ s m)) (j : Less Ω (J s m)) : TE r n Γ Ω (CutQ r n p Δ J Q) .normal :=
  fun _ _ hs => ⟨s, m, hp, (hs.le h).less j⟩
theorem TE.cut_exit {σ ν : Type} {p : σ → Prop} {Δ : σ → ν → Env} {J : σ → ν → List Pe} {id : Nat} (h : TE r n Γ Ω Q (.exit id)) : TE r n Γ Ω (CutQ r n p Δ J Q) (.exit id) := h
theorem TE.cut_ret {σ ν : Type} {p : σ → Prop} {Δ : σ → ν → Env} {J : σ → ν → List Pe} (h : TE r n Γ Ω Q .ret) : TE r n Γ Ω (CutQ r n p Δ J Q) .ret := h
/-- a content by another name -/
theorem TC.nmB {c : Code} (b : Nat) {pr : Prop} {C C' : Ct} [pk : Pick Ω b pr C Ωr] (h : C = C') (k : TC P r n Γ (⟨b, pr, C'⟩ :: Ωr) c Q) : TC P r n Γ Ω c Q := fun a w hs => k a w (by subst h; exact hs.less (Less.perm pk.perm))
theorem TE.nmB {e : Exit} (b : Nat) {pr : Prop} {C C' : Ct} [pk : Pick Ω b pr C Ωr] (h : C = C') (k : TE r n Γ (⟨b, pr, C'⟩ :: Ωr) Q e) : TE r n Γ Ω Q e := fun a w hs => k a w (by subst h; exact hs.less (Less.perm pk.perm))
end cut
theorem nm_one {α : Type} {i : Dat α} {x y : α} (h : some x = some y) : One x = One y := by injection h with h; rw [h]
theorem nm_row {α : Type} {i : Dat α} {x y : List α} {c : Nat} (h : some x = some y) : Row x c = Row y c := by injection h with h; rw [h]
theorem nm_mix {C C' : Ct} {o : Nat} {τ : Ty} (h : C = C') : C.mix o τ = C'.mix o τ := by rw [h]
theorem nm_D {α : Type} {i : Dat α} {x y : α} (h : some x = some y) : (D x).le (D y) := by injection h with h; rw [h]; exact Ty.le.refl _
theorem nm_cv {τ : Ty} {α : Type} {i : Dat α} {x y : α} [k : ToD τ α i x] (h : some x = some y) : τ.le (D y) := by injection h with h; rw [← h]; exact k.le
theorem nm_sl {α : Type} {b o c : Nat} {pr : Prop} {x y : List α} (h : some x = some y) : (Sl b pr o x.length c).le (Sl b pr o y.length c) := by injection h with h; rw [h]; exact Ty.le.refl _
theorem elS_l {α β γ : Type} {o : α ⊕ β} {s : α} {f : α → Option γ} {g : β → Option γ} {r : γ} (F : o = .inl s) (h : elS o f g = some r) : f s = some r := by subst F; exact h
theorem elS_r {α β γ : Type} {o : α ⊕ β} {q : β} {f : α → Option γ} {g : β → Option γ} {r : γ} (F : .inr q = o) (h : elS o f g = some r) : g q = some r := by subst F; exact h
instance negInt {n : Nat} [h : BoolIs (Nat.ble n 9223372036854775808) true] : Ft (intIn (-(no_index (OfNat.ofNat n)))) := ⟨by
  have := Nat.le_of_ble_eq_true h.h
  show intIn (-(n : Int))
  unfold intIn; omega⟩
instance negSucc {n : Nat} [h : BoolIs (Nat.ble n 9223372036854775807) true] : Ft (intIn (Int.negSucc n)) := ⟨by
  have := Nat.le_of_ble_eq_true h.h
  unfold intIn; omega⟩
instance Has.orL {Θ Γ : Env} {x : Operand} {τ : Ty} [h : Has Θ x τ] : Has (Env.or Θ Γ) x τ := ⟨fun a A w hl => h.le a A w fun t e => (hl t e).1⟩
instance (priority := 100) Has.orR {Θ Γ : Env} {x : Operand} {τ : Ty} [h : Has Γ x τ] : Has (Env.or Θ Γ) x τ := ⟨fun a A w hl => h.le a A w fun t e => (hl t e).2⟩
/-! guards -/
theorem nF {b : Bool} (h : b = false) : (!b) = true := by rw [h]; rfl
theorem aT {x y : Bool} (h : x = true) (k : y = true) : (x && y) = true := by rw [h, k]; rfl
instance ftAnd {p q : Prop} [h : Ft p] [k : Ft q] : Ft (p ∧ q) := ⟨⟨h.h, k.h⟩⟩
theorem Ft.l {p q : Prop} (h : Ft (p ∧ q)) : Ft p := ⟨h.h.1⟩
theorem Ft.r {p q : Prop} (h : Ft (p ∧ q)) : Ft q := ⟨h.h.2⟩
instance {p : Prop} {b want d : Bool} {τ : Ty} [h : Ft p] [k : AsB τ d] : AsBC (Cond (p ∧ b = want) τ) b want d := ⟨fun e A w v x => k.le A w v (x.1 ⟨h.h, e⟩)⟩
theorem toD {τ : Ty} {α : Type} {i : Dat α} {x : α} [k : ToD τ α i x] {A : Nat → Prop} {w : World} {v : Value} (h : τ.p A w v) : (D x).p A w v := k.le _ _ _ h
/-- a private result that is taken as data -/
theorem RetO.pub1 {A : Nat → Prop} {w : World} {α : Type} {i : Dat α} {xs : List α} {e : Ending} {w' : World} (hA : ∀ k, w.heap.size ≤ k → A k)
    (h : RetO A w [] (fun g : Nat × Prop × Nat => Sl g.1 g.2.1 0 xs.length g.2.2) (fun g => [⟨g.1, g.2.1, Row xs g.2.2⟩]) e w') : Ret A w (D xs) e w' := by
  obtain ⟨v, ⟨b, pr, c⟩, h1, h2⟩ := h
  refine ⟨v, h1, ⟨h2.st.os, h2.st.tape, h2.st.output, h2.st.size, fun k hk => h2.st.old k hk fun ⟨e, he, _⟩ => absurd he (by simp), fun k hk => h2.st.cells k hk fun ⟨e, he, _⟩ => absurd he (by simp)⟩, ?_⟩
  refine PubC.sv (C := Row xs c) (b := b) (pr := pr) (τ := Sl b pr 0 xs.length c) PlS.all rfl A w' v (fun hp => ?_) (Ty.keep _ (Keep.mono fun k _ hk => (Pub_own.1 hk).1) h2.ty)
  obtain ⟨cs, g1, g2⟩ := h2.ks ⟨b, pr, Row xs c⟩ (by simp) hp
  refine ⟨?_, cs, g1, (Row xs c).keep (Keep.mono fun k _ hk => (Pub_own.1 hk).1) g2⟩
  rcases h2.nw b ⟨_, List.mem_singleton.2 rfl, hp, rfl⟩ with ⟨e, he, _⟩ | h
  · exact absurd he (by simp)
  · exact hA b h
/-- zero boxes some of whose slices are private rows that aren't there -/
theorem CtH.nil {C : Ct} {A : Nat → Prop} {w : World} {cs : List Value} {o b : Nat} (hc : C.p A w cs) (h : cs[o]? = some (.slice none 0 0)) : (C.mix o (Sl b False 0 0 0)).p A w cs := by
  obtain ⟨h1, h2⟩ := List.getElem?_eq_some_iff.1 h
  exact ⟨cs, .slice none 0 0, hc, h1, .inr ⟨fun h => h, rfl, rfl, rfl⟩, by rw [← h2]; simp⟩
theorem Less.pk {Ω Ωr Δ : List Pe} {b : Nat} {pr : Prop} {C C' : Ct} [h : Pick Ω b pr C Ωr] (e : C = C') (k : Less Ωr Δ) : Less Ω (⟨b, pr, C'⟩ :: Δ) := (Less.perm h.perm).trans (e ▸ Less.cons k)
end Go.Proofs.Ytfdmajkeihdhnaa.Tr
