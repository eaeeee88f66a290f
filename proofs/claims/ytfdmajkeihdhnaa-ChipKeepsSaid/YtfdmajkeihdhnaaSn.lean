/- Private rows: made, appended to, copied into, indexed, cut. Conditions: none. -/
import Derived.Test.YtfdmajkeihdhnaaSm
namespace Go.Proofs.Ytfdmajkeihdhnaa.Tr
open Go Go.RowKit
set_option linter.unusedVariables false
set_option linter.unnecessarySimpa false

/-- a row of elements within a private block: what is there, and what the block holds when as many others are put there -/
structure PlS (C : Ct) (o : Nat) (α : Type) (i : Dat α) (xs : List α) (upd : List α → Ct) : Prop where
  mo : ∀ {A w cs}, C.p A w cs → xs.length ≤ most
  rd : ∀ {A w cs}, C.p A w cs → o + xs.length * Dat.sz α ≤ cs.length ∧ elemsIn A w (seg cs o (xs.length * Dat.sz α)) xs
  st : ∀ {A w cs news} (ys : List α), ys.length = xs.length → C.p A w cs → news.length = ys.length * Dat.sz α → elemsIn A w news ys → (upd ys).p A w (setSeg cs o news)
theorem PlS.row {α : Type} {i : Dat α} {xs : List α} {c k n : Nat} (h : k + n ≤ xs.length) : PlS (Row xs c) (k * Dat.sz α) α i ((xs.drop k).take n) fun ys => Row (splice xs k ys) c := by
  have hl : ((xs.drop k).take n).length = n := by simp; omega
  refine ⟨fun {A w cs} hc => by obtain ⟨h1, h2, h3, h4, h5⟩ := hc; omega, fun {A w cs} hc => ?_, fun {A w cs news} ys hy hc hn he => ?_⟩
  · obtain ⟨h1, h2, h3, h4, h5⟩ := hc
    rw [hl]
    have hfit : k * Dat.sz α + n * Dat.sz α ≤ cs.length := by rw [h1, ← Nat.add_mul]; exact Nat.mul_le_mul_right _ (by omega)
    refine ⟨hfit, ?_⟩
    intro j hj
    have hj' : j < n := by omega
    rw [seg_seg (by rw [← Nat.succ_mul]; exact Nat.mul_le_mul_right _ (by omega)) hfit, ← Nat.add_mul]
    have e : ((xs.drop k).take n)[j] = xs[k + j]'(by omega) := by rw [List.getElem_take, List.getElem_drop]
    rw [e]; exact h5 _ (by omega)
  · obtain ⟨h1, h2, h3, h4, h5⟩ := hc
    exact Row.splice ⟨h1, h2, h3, h4, h5⟩ he hn (by omega) (by omega) (by omega)
theorem PlS.row0 {α : Type} {i : Dat α} {xs : List α} {c n : Nat} (h : n ≤ xs.length) : PlS (Row xs c) 0 α i (xs.take n) fun ys => Row (splice xs 0 ys) c := by
  have := PlS.row (i := i) (xs := xs) (c := c) (k := 0) (n := n) (by omega)
  simpa using this
theorem PlS.src {α : Type} {i : Dat α} {C : Ct} {o n c : Nat} {xs : List α} {upd : List α → Ct} {A : Nat → Prop} {w : World} {b : Nat} {cs : List Value} (h : PlS C o α i xs upd) (hb : Blk w b cs) (hc : C.p A w cs) (hn : n = xs.length) : Src A w (.slice (some ⟨b, o, none⟩) n c) xs := by
  subst hn
  obtain ⟨h1, h2⟩ := h.rd hc
  exact ⟨_, c, rfl, fun _ => ⟨b, o, _, rfl, seg_length h1, hb.row h1, h2⟩⟩

/-- a slice somewhere in a private block, nil if the block isn't there -/
def Sv (b : Nat) (pr : Prop) (o n : Nat) : Ty := ⟨fun _ _ v => (pr ∧ ∃ o' c, v = .slice (some ⟨b, o', none⟩) n c ∧ (n ≤ c ∧ c ≤ maxLen) ∧ (0 < n → o' = o)) ∨ (¬ pr ∧ n = 0 ∧ v = .slice none 0 0), fun _ h => h⟩
theorem Sl.sv {b : Nat} {pr : Prop} {o n c : Nat} : (Sl b pr o n c).le (Sv b pr o n) := fun _ _ v h => by
  rcases h with ⟨h1, h0, h2⟩ | ⟨h1, h2, h3, h4⟩
  · exact .inl ⟨h1, o, c, h2, h0, fun _ => rfl⟩
  · exact .inr ⟨h1, h2, h4⟩
class AsSv (τ : Ty) (b : outParam Nat) (pr : outParam Prop) (o n : outParam Nat) : Prop where
  le : τ.le (Sv b pr o n)
instance {b : Nat} {pr : Prop} {o n : Nat} : AsSv (Sv b pr o n) b pr o n := ⟨Ty.le.refl _⟩
instance {b : Nat} {pr : Prop} {o n c : Nat} : AsSv (Sl b pr o n c) b pr o n := ⟨Sl.sv⟩
instance {p : Prop} {τ : Ty} {b : Nat} {pr : Prop} {o n : Nat} [h : Ft p] [k : AsSv τ b pr o n] : AsSv (Cond p τ) b pr o n := ⟨fun A w v x => k.le A w v (x.1 h.h)⟩

section ops
variable {P : Program} {B : Nat} {Ωs Ω Ωr : List Pe} {Γ : Env} {ty : TypeId} {pos : String} {aft : Array Edge}
variable {α : Type} {i : Dat α} {t e : TypeId} {bt : Nat} {d : Tmp}

/-! ### made -/
theorem OpT.buildSlice [S : TSl P t e] [T : TEl P e α i bt] {m : Nat} {parts : Array (Nat × Operand)} (xs : List Operand) {ys : List α} [h : HasAll Γ xs α i ys]
    (hp : parts = (xs.zipIdx.map fun p => (p.2, p.1)).toArray) (hn : xs.length = m) (hs : m * Dat.sz α ≤ 16777216) :
    OpT P B Ωs Ω Γ ⟨some d, .buildSlice t m parts, ty, pos, aft, none⟩ (fun g : Nat × Unit => Sl g.1 True 0 ys.length ys.length) fun g => ⟨g.1, True, Row ys ys.length⟩ :: Ω :=
  OpT.newB (C := fun _ => Row ys ys.length) rfl fun A a w _ _ hl => by
    obtain ⟨v, w', h1, cs, q, el, h2, rfl, h3⟩ := run_buildSlice (P := P) (t := t) (e := e) (bt := bt) (A := A) (dst := some d) (ty := ty) (pos := pos) (aft := aft) (gd := none) (w := w) (a := a) xs (ys := ys) hp hn hs hl
    exact ⟨(), v, q, cs, el, h1, fun _ _ => .inl ⟨trivial, ⟨Nat.le_refl _, h3.2.2.1⟩, h2⟩, h3⟩
theorem OpT.makeSlice [S : TSl P t e] [T : TEl P e α i bt] {x y : Operand} {τ σ : Ty} {m n : Int} [hx : Has Γ x τ] [kx : AsI τ m] [hy : Has Γ y σ] [k : AsI σ n] (hm0 : 0 ≤ m) (h0 : m ≤ n) (hb : bt * n.toNat ≤ 281474976710656) (hm : n ≤ 140737488351232) :
    OpT P B Ωs Ω Γ ⟨some d, .makeSlice t x y, ty, pos, aft, none⟩ (fun g : Nat × Unit => Sl g.1 True 0 m.toNat n.toNat) fun g => ⟨g.1, True, Row (List.replicate n.toNat (Dat.z (α := α))) n.toNat⟩ :: Ω :=
  OpT.newB (C := fun _ => Row (List.replicate n.toNat (Dat.z (α := α))) n.toNat) rfl fun A a w _ _ hl => by
    obtain ⟨cs, h1, h2⟩ := run_makeSlice2 (P := P) (t := t) (e := e) (bt := bt) (A := A) (dst := some d) (ty := ty) (pos := pos) (aft := aft) (gd := none) (α := α) (x := x) (y := y) (a := a) (w := w) hm0 h0 hb hm hl
    exact ⟨(), _, w.drawn, cs, e, h1, fun _ _ => .inl ⟨trivial, ⟨by omega, h2.2.2.1⟩, rfl⟩, h2⟩

/-- nil is a private row that isn't there -/
theorem Less.none {b : Nat} {C : Ct} {pr : Prop} (hp : ¬ pr) : Less Ω (⟨b, pr, C⟩ :: Ω) :=
  ⟨fun k ⟨e, he, h1, h2⟩ => by
    rcases List.mem_cons.1 he with rfl | he
    · exact absurd h1 hp
    · exact ⟨e, he, h1, h2⟩, fun h => List.pairwise_cons.2 ⟨fun f _ h1 => absurd h1 hp, h⟩, fun A w h e he h1 => by
    rcases List.mem_cons.1 he with rfl | he
    · exact absurd h1 hp
    · exact h e he h1⟩
theorem NilS.sl {b : Nat} {pr : Prop} {o : Nat} (hp : ¬ pr) : Ty.le NilS (Sl b pr o 0 0) := fun _ _ v h => .inr ⟨hp, rfl, rfl, h⟩

/-- whence append and copy take what they put -/
class SrcOf (Ω : List Pe) (τ : Ty) (α : Type) (i : Dat α) (ys : outParam (List α)) : Prop where
  h : ∀ {A w u}, Pks A Ω w → τ.p A w u → Src A w u ys
instance {τ : Ty} {ys : List α} [hl : AsL τ α i ys] : SrcOf Ω τ α i ys := ⟨fun _ h => Src.of_D (hl.le _ _ _ h)⟩
theorem SrcOf.sv {τ : Ty} {b o n : Nat} {pr : Prop} {C : Ct} {ys : List α} {upd : List α → Ct} [k : AsSv τ b pr o n] [hb : HasB Ω b pr C] (p : PlS C o α i ys upd) (hn : n = ys.length) : SrcOf Ω τ α i ys := ⟨fun {A w u} hk h => by
  rcases k.le _ _ _ h with ⟨hp, o', c, rfl, -, h2⟩ | ⟨hp, h1, rfl⟩
  · obtain ⟨cs, g1, g2⟩ := hk _ hb.h hp
    rcases Nat.eq_zero_or_pos n with h0 | h0
    · subst h0
      have : ys = [] := List.eq_nil_of_length_eq_zero hn.symm
      subst this
      exact ⟨_, c, rfl, fun h => absurd h (by simp)⟩
    · obtain rfl := h2 h0
      exact p.src g1 g2 hn
  · subst h1
    have : ys = [] := List.eq_nil_of_length_eq_zero hn.symm
    subst this
    exact ⟨_, 0, rfl, fun h => absurd h (by simp)⟩⟩

/-- append onto a private row, or the first part of one -/
theorem OpT.appendBy [S : TSl P t e] [T : TEl P e α i bt] {s x : Operand} {σ : Ty} {b m c c' : Nat} {pr : Prop} {xs ys : List α} [hs : Has Γ s (Sl b pr 0 m c')] [sp : Pick Ω b pr (Row xs c) Ωr] [hx : Has Γ x σ] (hl : SrcOf (Ωs ++ Ω) σ α i ys)
    (hc : c' = c) (hm : m ≤ xs.length) (hn : (m + ys.length) * bt ≤ 140737488355328) (hmo : m + ys.length ≤ most) :
    OpT P B Ωs Ω Γ ⟨some d, .call { callee := .builtin .append, args := #[s, x], argTypes := #[t, t] }, ty, pos, aft, none⟩ (fun g : Nat × Prop × Nat => Sl g.1 g.2.1 0 (xs.take m ++ ys).length g.2.2) fun g => ⟨g.1, g.2.1, Row (xs.take m ++ ys) g.2.2⟩ :: Ωr := by
  subst hc
  refine OpT.frame (Ωt := [⟨b, pr, Row xs c'⟩]) (Ω' := fun g : Nat × Prop × Nat => [⟨g.1, g.2.1, Row (xs.take m ++ ys) g.2.2⟩]) sp.perm ⟨rfl, fun A0 a w hB hu ho ha hk hlv => ?_⟩
  have hp1 : (Ωs ++ Ω).Perm ((Ωs ++ Ωr) ++ [⟨b, pr, Row xs c'⟩]) := by
    rw [List.append_assoc]
    exact (sp.perm.trans (show (([⟨b, pr, Row xs c'⟩] : List Pe) ++ Ωr).Perm (Ωr ++ [⟨b, pr, Row xs c'⟩]) from List.perm_append_comm)).append_left _
  have hk0 : Pks (Pub A0 ((Ωs ++ Ωr) ++ [⟨b, pr, Row xs c'⟩])) (Ωs ++ Ω) w := fun e he => hk e (hp1.mem_iff.1 he)
  have h1 := hs.le a _ w fun t ht => hlv t (by simp [Op.operands, Call.operands, ← ht])
  have h2 := hl.h hk0 (hx.le a _ w fun t ht => hlv t (by simp [Op.operands, Call.operands, ← ht]))
  have hml : (xs.take m).length = m := by simp; omega
  have hv : (a.eval s = .slice none 0 0 ∧ xs.take m = []) ∨ ∃ c cs, a.eval s = .slice (some ⟨b, 0, none⟩) (xs.take m).length c ∧ Blk w b cs ∧ (Row (xs.take m) c).p (Pub A0 ((Ωs ++ Ωr) ++ [⟨b, pr, Row xs c'⟩])) w cs := by
    rcases h1 with ⟨hp, -, h1⟩ | ⟨hp, h1, h1', h1''⟩
    · obtain ⟨cs, g1, g2⟩ := hk ⟨b, pr, Row xs c'⟩ (by simp) hp
      exact .inr ⟨c', cs, by rw [h1, hml], g1, Row.take g2 hm⟩
    · exact .inl ⟨h1'', List.eq_nil_of_length_eq_zero (by omega)⟩
  obtain ⟨v', w', r1, r2⟩ := run_append (P := P) (t := t) (e := e) (bt := bt) (ty := ty) hv h2 (by rw [hml]; exact hn) (by rw [hml]; exact hmo)
  rw [app_run r1]
  have hap1 := (List.pairwise_append.1 ha).1
  have hlt : ∀ j, Own (Ωs ++ Ωr) j → j < w.heap.size := fun j hj => (Pks_append.1 hk).1.lt hj
  rcases r2 with ⟨hy, rfl, rfl⟩ | r2 | ⟨c2, cs, news, e1, e2, e3, e4, e5, e6, e7, e8, e9, e10⟩
  · refine ⟨(b, pr, c'), Stp.refl _ _ _, fun k ⟨f, hf, h3, h4⟩ => ?_, ?_, ?_, fun f hf hfp => ?_⟩
    · obtain rfl := List.mem_singleton.1 hf; exact .inl ⟨_, List.mem_singleton.2 rfl, h3, h4⟩
    · refine List.pairwise_append.2 ⟨hap1, List.pairwise_singleton _ _, fun x hx y hy h3 h4 => ?_⟩
      obtain rfl := List.mem_singleton.1 hy
      exact (List.pairwise_append.1 ha).2.2 x hx ⟨b, pr, Row xs c'⟩ (List.mem_singleton.2 rfl) h3 h4
    · rw [hy, List.append_nil, hml]; exact h1
    · obtain rfl := List.mem_singleton.1 hf
      obtain ⟨cs, g1, g2⟩ := hk ⟨b, pr, Row xs c'⟩ (by simp) hfp
      refine ⟨cs, g1, ?_⟩
      have := Row.take g2 hm
      rw [hy, List.append_nil]
      exact (Row (xs.take m) c').keep (Keep.mono fun j _ hj => Pub_own.2 ⟨(Pub_own.1 hj).1, fun hoj => (Pub_own.1 hj).2 (by
        rcases Own_append.1 hoj with h | ⟨f, hf, h3, h4⟩
        · exact Own_append.2 (.inl h)
        · obtain rfl := List.mem_singleton.1 hf; exact Own_append.2 (.inr ⟨_, List.mem_singleton.2 rfl, h3, h4⟩))⟩) this
  · obtain ⟨c2, cs, q, el, rfl, rfl, f3⟩ := r2
    have hgr : Grow B w (({ w with drawn := q } : World).alloc (.cells cs.toArray el)) := (Grow.drawn q).trans (Grow.push _ hB)
    have hkp : Keep (Pub A0 ((Ωs ++ Ωr) ++ [⟨b, pr, Row xs c'⟩])) (Pub A0 ((Ωs ++ Ωr) ++ [⟨w.heap.size, True, Row (xs.take m ++ ys) c2⟩])) w (({ w with drawn := q } : World).alloc (.cells cs.toArray el)) := by
      refine ⟨hgr.size, fun j hj hp => ⟨Pub_own.2 ⟨(Pub_own.1 hp).1, fun hoj => ?_⟩, hgr.cells j hj⟩⟩
      rcases Own_append.1 hoj with h | ⟨f, hf, h3, h4⟩
      · exact (Pub_own.1 hp).2 (Own_append.2 (.inl h))
      · obtain rfl := List.mem_singleton.1 hf; simp at h4; omega
    refine ⟨(w.heap.size, True, c2), (Stp.of_grow hgr), fun k ⟨f, hf, _, h4⟩ => ?_, ?_, .inl ⟨trivial, ⟨f3.2.1, f3.2.2.1⟩, rfl⟩, fun f hf _ => ?_⟩
    · obtain rfl := List.mem_singleton.1 hf; right; simp at h4; omega
    · refine List.pairwise_append.2 ⟨hap1, List.pairwise_singleton _ _, fun x hx y hy h3 _ h4 => ?_⟩
      obtain rfl := List.mem_singleton.1 hy
      have := hlt _ ⟨x, hx, h3, rfl⟩
      simp at h4; omega
    · obtain rfl := List.mem_singleton.1 hf
      exact ⟨cs, Blk.new rfl, (Row (xs.take m ++ ys) c2).keep hkp f3⟩
  · rcases h1 with ⟨hp, -, h1⟩ | ⟨hp, h1, h1', h1''⟩
    · have hcc : c2 = c' := by rw [h1] at e1; injection e1 with _ _ e; exact e.symm
      subst hcc
      have hm1 : Mut (Own [⟨b, pr, Row xs c2⟩]) w w' := e8.mono fun k e => ⟨_, List.mem_singleton.2 rfl, hp, e.symm⟩
      have hav : ∀ j, Pub A0 ((Ωs ++ Ωr) ++ [⟨b, pr, Row xs c2⟩]) j → ¬ j = b := fun j hj h => (Pub_own.1 hj).2 (Own_append.2 (.inr ⟨_, List.mem_singleton.2 rfl, hp, h.symm⟩))
      have hkp : Keep (Pub A0 ((Ωs ++ Ωr) ++ [⟨b, pr, Row xs c2⟩])) (Pub A0 ((Ωs ++ Ωr) ++ [⟨b, pr, Row (xs.take m ++ ys) c2⟩])) w w' := by
        refine ⟨e8.size, fun j hj hpj => ⟨Pub_own.2 ⟨(Pub_own.1 hpj).1, fun hoj => (Pub_own.1 hpj).2 ?_⟩, by rw [e8.same j hj (hav j hpj)]; exact SameCells.refl _⟩⟩
        rcases Own_append.1 hoj with h | ⟨f, hf, h3, h4⟩
        · exact Own_append.2 (.inl h)
        · obtain rfl := List.mem_singleton.1 hf; exact Own_append.2 (.inr ⟨_, List.mem_singleton.2 rfl, h3, h4⟩)
      refine ⟨(b, pr, c2), Stp.of_mut hm1 hB, fun k ⟨f, hf, h3, h4⟩ => ?_, ?_, .inl ⟨hp, ⟨by rw [List.length_append]; exact e2, e6.2.2.1⟩, by rw [e4, List.length_append]⟩, fun f hf hfp => ?_⟩
      · obtain rfl := List.mem_singleton.1 hf; exact .inl ⟨_, List.mem_singleton.2 rfl, h3, h4⟩
      · refine List.pairwise_append.2 ⟨hap1, List.pairwise_singleton _ _, fun x hx y hy h3 h4 => ?_⟩
        obtain rfl := List.mem_singleton.1 hy
        exact (List.pairwise_append.1 ha).2.2 x hx ⟨b, pr, Row xs c2⟩ (List.mem_singleton.2 rfl) h3 h4
      · obtain rfl := List.mem_singleton.1 hf
        refine ⟨_, e7, (Row (xs.take m ++ ys) c2).keep hkp ?_⟩
        have h7 := Row.splice (k := (xs.take m).length) e6 e10 e9 (Nat.le_refl _) e2 (by rw [hml]; exact hmo)
        unfold splice at h7
        rwa [List.take_of_length_le (Nat.le_refl _), List.drop_of_length_le (by omega), List.append_nil] at h7
    · rw [h1''] at e1; cases e1
/-- append onto a whole private row -/
theorem OpT.append [S : TSl P t e] [T : TEl P e α i bt] {s x : Operand} {σ : Ty} {b m c c' : Nat} {pr : Prop} {xs ys : List α} [hs : Has Γ s (Sl b pr 0 m c')] [sp : Pick Ω b pr (Row xs c) Ωr] [hx : Has Γ x σ] (hl : SrcOf (Ωs ++ Ω) σ α i ys)
    (hc : c' = c) (hm : m = xs.length) (hn : (xs.length + ys.length) * bt ≤ 140737488355328) (hmo : xs.length + ys.length ≤ most) :
    OpT P B Ωs Ω Γ ⟨some d, .call { callee := .builtin .append, args := #[s, x], argTypes := #[t, t] }, ty, pos, aft, none⟩ (fun g : Nat × Prop × Nat => Sl g.1 g.2.1 0 (xs ++ ys).length g.2.2) fun g => ⟨g.1, g.2.1, Row (xs ++ ys) g.2.2⟩ :: Ωr := by
  have := OpT.appendBy (P := P) (B := B) (Ωs := Ωs) (Ω := Ω) (Ωr := Ωr) (Γ := Γ) (d := d) (ty := ty) (pos := pos) (aft := aft) (t := t) (e := e) (s := s) (x := x) (b := b) (pr := pr) (m := m) (xs := xs) (ys := ys) (c := c) (c' := c') hl hc (by omega) (by rw [hm]; exact hn) (by rw [hm]; exact hmo)
  subst hm
  rw [List.take_of_length_le (Nat.le_refl _)] at this
  exact this
end ops
end Go.Proofs.Ytfdmajkeihdhnaa.Tr
