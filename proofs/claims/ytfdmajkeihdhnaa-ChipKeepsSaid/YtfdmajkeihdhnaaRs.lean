/- A private row whose cells are slices of another private row, one behind the other. Conditions: none. -/
import Derived.Test.YtfdmajkeihdhnaaDr
namespace Go.Proofs.Ytfdmajkeihdhnaa.Tr
open Go Go.RowKit
set_option linter.unusedVariables false
set_option linter.unnecessarySimpa false

/-- where the j-th begins -/
def offS (L : List Nat) (j : Nat) : Nat := (L.take j).sum
theorem offS_length (L : List Nat) : offS L L.length = L.sum := by unfold offS; rw [List.take_length]
theorem offS_append (L M : List Nat) {j : Nat} (h : j ≤ L.length) : offS (L ++ M) j = offS L j := by
  unfold offS; rw [List.take_append_of_le_length h]
/-- the first cells are slices of the row b, as long as L tells -/
def RowS (b : Nat) (pr : Prop) (z : Nat) (L : List Nat) (m : Nat) : Ct :=
  ⟨fun A w cs => cs.length = m ∧ L.length ≤ m ∧ m ≤ maxLen ∧ m ≤ most ∧ ∀ j (h : j < L.length), (Sv b pr (offS L j * z) L[j]).p A w (cs.getD j undef), fun _ h => h⟩
theorem RowS.nil {α : Type} {i : Dat α} {b z m : Nat} {pr : Prop} {xs : List (List α)} (hm : m = xs.length) : ∀ A w cs, (Row xs m).p A w cs → (RowS b pr z [] m).p A w cs := fun A w cs ⟨h1, h2, h3, h4, h5⟩ =>
  ⟨by rw [h1]; exact Nat.mul_one m, Nat.zero_le _, h3, by omega, fun j h => absurd h (by simp)⟩
theorem RowS.put {b z m n o o2 : Nat} {pr : Prop} {L : List Nat} (ho : o = L.length) (hm : L.length < m) (h2 : o2 = L.sum * z) : CtH (RowS b pr z L m) o (Sv b pr o2 n) (RowS b pr z (L ++ [n]) m) := ⟨fun {A w cs v} ⟨h1, h3, h4, h5, h6⟩ hv => by
  subst ho; subst h2
  refine ⟨by omega, by rw [List.length_set]; exact h1, by simp; omega, h4, h5, fun j hj => ?_⟩
  simp only [List.length_append, List.length_singleton] at hj
  by_cases hjl : j = L.length
  · subst hjl
    rw [List.getD_eq_getElem?_getD, List.getElem?_set_self (by omega), offS_append _ _ (Nat.le_refl _), offS_length]
    simpa using hv
  · rw [List.getD_eq_getElem?_getD, List.getElem?_set_ne (Ne.symm hjl), ← List.getD_eq_getElem?_getD, offS_append _ _ (by omega), List.getElem_append_left (by omega)]
    exact h6 j (by omega)⟩
theorem RowS.at {b z m o j : Nat} {pr : Prop} {L : List Nat} (hj : j < L.length) (ho : o = j) : CeH (RowS b pr z L m) o (Sv b pr (offS L j * z) L[j]) := ⟨fun {A w cs} ⟨h1, h3, h4, h5, h6⟩ => by
  subst ho
  exact ⟨by omega, h6 o hj⟩⟩

section flat
variable {α : Type}
theorem flat_off (p : List (List α)) (j : Nat) : (p.take j).flatten.length = offS (p.map List.length) j := by
  unfold offS
  rw [← List.map_take]
  induction p.take j with
  | nil => rfl
  | cons x xs ih => simp only [List.flatten_cons, List.length_append, List.map_cons, List.sum_cons, ih]
theorem flat_split {p : List (List α)} {j : Nat} (hj : j < p.length) : p.flatten = (p.take j).flatten ++ (p[j] ++ (p.drop (j + 1)).flatten) := by
  conv => lhs; rw [← List.take_append_drop j p]
  rw [List.flatten_append, List.drop_eq_getElem_cons hj, List.flatten_cons]
theorem flat_part {p : List (List α)} {j : Nat} (hj : j < p.length) : (p.flatten.drop (offS (p.map List.length) j)).take p[j].length = p[j] := by
  rw [flat_split hj, ← flat_off, List.drop_left, List.take_left]
theorem flat_fit {p : List (List α)} {j : Nat} (hj : j < p.length) : offS (p.map List.length) j + p[j].length ≤ p.flatten.length := by
  rw [flat_split hj, ← flat_off]; simp
theorem flat_set {p : List (List α)} {j : Nat} (hj : j < p.length) {ys : List α} (hy : ys.length = p[j].length) : splice p.flatten (offS (p.map List.length) j) ys = (p.set j ys).flatten := by
  have e1 : (p.set j ys).flatten = (p.take j).flatten ++ (ys ++ (p.drop (j + 1)).flatten) := by
    rw [flat_split (p := p.set j ys) (j := j) (by simpa using hj)]
    rw [List.take_set_of_le (Nat.le_refl _), List.drop_set_of_lt (by omega)]
    simp
  rw [e1]
  unfold splice
  rw [flat_split hj, ← flat_off, List.take_left, hy, ← List.append_assoc (p.take j).flatten p[j], ← List.length_append, List.drop_left, List.append_assoc]
theorem flat_set_lens {p : List (List α)} {j : Nat} (hj : j < p.length) {ys : List α} (hy : ys.length = p[j].length) : (p.set j ys).map List.length = p.map List.length := by
  rw [List.map_set]
  refine List.ext_getElem (by simp) fun k h1 h2 => ?_
  rw [List.getElem_set]
  split
  · rename_i e; subst e; simp [hy]
  · rfl
end flat
/-- one of the slices, as a place of the row -/
theorem PlS.flat {α : Type} {i : Dat α} {p : List (List α)} {c j n : Nat} (hj : j < p.length) (hn : n = offS (p.map List.length) j) : PlS (Row p.flatten c) (n * Dat.sz α) α i p[j] fun ys => Row (splice p.flatten n ys) c := by
  subst hn
  have h := PlS.row (i := i) (c := c) (flat_fit hj)
  rwa [flat_part hj] at h
/-- the same where what is put is as long -/
theorem PlS.flat2 {α : Type} {i : Dat α} {p : List (List α)} {c j n : Nat} (hj : j < p.length) (hn : n = offS (p.map List.length) j) : PlS (Row p.flatten c) (n * Dat.sz α) α i p[j] fun ys => Row (p.set j ys).flatten c := by
  have h := PlS.flat (i := i) (c := c) hj hn
  refine ⟨h.mo, h.rd, fun ys hy hc hl he => ?_⟩
  have h2 := h.st ys hy hc hl he
  rw [hn] at h2
  rw [flat_set hj hy] at h2
  rw [hn]; exact h2
/-- an element of a part -/
theorem Pl.part {α : Type} {i : Dat α} {C : Ct} {o k : Nat} {xs : List α} {upd : List α → Ct} (h : PlS C o α i xs upd) (hk : k < xs.length) : Pl C (o + k * Dat.sz α) α i xs[k] fun y => upd (xs.set k y) := by
  have hfit0 : k * Dat.sz α + Dat.sz α ≤ xs.length * Dat.sz α := by rw [← Nat.succ_mul]; exact Nat.mul_le_mul_right _ (by omega)
  refine ⟨⟨fun {A w cs} hc => ?_⟩, fun y => ⟨fun {A w cs ds} hc hd => ?_⟩⟩
  · obtain ⟨h1, h2⟩ := h.rd hc
    have h3 := h2 k hk
    rw [seg_seg hfit0 h1] at h3
    exact ⟨by omega, h3⟩
  · obtain ⟨h1, h2⟩ := h.rd hc
    have l2 := Dat.len hd
    have hsl : (seg cs o (xs.length * Dat.sz α)).length = xs.length * Dat.sz α := seg_length h1
    refine ⟨by omega, ?_⟩
    have g := h.st (xs.set k y) (by simp) hc (news := setSeg (seg cs o (xs.length * Dat.sz α)) (k * Dat.sz α) ds) (by rw [setSeg_length (by omega), hsl]; simp) fun q hq => by
      simp only [List.length_set] at hq
      have hq2 : q * Dat.sz α + Dat.sz α ≤ xs.length * Dat.sz α := by rw [← Nat.succ_mul]; exact Nat.mul_le_mul_right _ (by omega)
      by_cases hqk : q = k
      · subst hqk
        have e9 := seg_setSeg_same (cs := seg cs o (xs.length * Dat.sz α)) (o := q * Dat.sz α) (vs := ds) (by omega)
        rw [l2] at e9
        rw [e9, List.getElem_set_self]; exact hd
      · rw [seg_setSeg_other (by omega) (by omega) ?_, List.getElem_set_ne (fun h => hqk h.symm)]
        · exact h2 q hq
        · rcases Nat.lt_or_ge q k with h6 | h6
          · left; rw [← Nat.succ_mul]; exact Nat.mul_le_mul_right _ (by omega)
          · right; rw [l2, ← Nat.succ_mul]; exact Nat.mul_le_mul_right _ (by omega)
    have e : setSeg cs o (setSeg (seg cs o (xs.length * Dat.sz α)) (k * Dat.sz α) ds) = setSeg cs (o + k * Dat.sz α) ds := by
      have hl2 : (setSeg (seg cs o (xs.length * Dat.sz α)) (k * Dat.sz α) ds).length = xs.length * Dat.sz α := by rw [setSeg_length (by omega), hsl]
      refine getD_ext (by rw [setSeg_length (by omega), setSeg_length (by omega)]) fun j hj => ?_
      rw [setSeg_length (by omega)] at hj
      rw [setSeg_getD (cs := cs) (o := o) (by omega), setSeg_getD (cs := cs) (o := o + k * Dat.sz α) (by omega), hl2]
      by_cases c1 : o ≤ j ∧ j < o + xs.length * Dat.sz α
      · rw [if_pos c1, setSeg_getD (by omega)]
        by_cases c2 : k * Dat.sz α ≤ j - o ∧ j - o < k * Dat.sz α + ds.length
        · rw [if_pos c2, if_pos (by omega)]; congr 1; omega
        · rw [if_neg c2, if_neg (by omega), seg_getD (by omega)]; congr 1; omega
      · rw [if_neg c1, if_neg (by omega)]
    rw [e] at g; exact g

section ops
variable {P : Program} {B0 : Nat} {A : Nat → Prop} {Ω : List Pe} {Γ : Env} {dst : Option Tmp} {ty : TypeId} {pos : String} {aft : Array Edge} {gd : Option (Nat × Bool)}
variable {α : Type} {i : Dat α} {t e : TypeId} {x y z q : Operand} {τ σ ρ υ : Ty} {b o m c : Nat} {pr : Prop} {l r k : Int} {u v : Unit} {xs : List α}
/-- x[l:r:k] of a private row -/
theorem OpY.slice3Sl [S : TSl P t e] [T : TDat P e α i] [hx : Has Γ x (Sl b pr o m c)] [Has Γ y σ] [hy : AsI σ l] [Has Γ z ρ] [hz : AsI ρ r] [Has Γ q υ] [hq : AsI υ k] (h0 : 0 ≤ l) (h1 : l ≤ r) (h2 : r ≤ k) (h3 : k ≤ m) :
    OpY P B0 A Ω Γ ⟨dst, .slice t x (some y) (some z) (some q), ty, pos, aft, gd⟩ (Sv b pr (o + l.toNat * Dat.sz α) (r - l).toNat) :=
  OpY.val fun a w hl => by
    have h := Sl.sv _ _ _ (Has.ev (x := x) (τ := Sl b pr o m c) (op := .slice t x (some y) (some z) (some q)) (by simp [Op.operands]) hl)
    have ey : a.eval y = .int .i64 l := hy.le _ _ _ (Has.ev (x := y) (τ := σ) (op := .slice t x (some y) (some z) (some q)) (by simp [Op.operands]) hl)
    have ez : a.eval z = .int .i64 r := hz.le _ _ _ (Has.ev (x := z) (τ := ρ) (op := .slice t x (some y) (some z) (some q)) (by simp [Op.operands]) hl)
    have eq : a.eval q = .int .i64 k := hq.le _ _ _ (Has.ev (x := q) (τ := υ) (op := .slice t x (some y) (some z) (some q)) (by simp [Op.operands]) hl)
    rcases h with ⟨hp, o', c, ex, hmc, ho⟩ | ⟨hp, rfl, ex⟩
    · refine ⟨.slice (if k.toNat = l.toNat then some ⟨b, o', none⟩ else some ⟨b, o' + l.toNat * Dat.sz α, none⟩) (r.toNat - l.toNat) (k.toNat - l.toNat), ?_, .inl ⟨hp, if k.toNat = l.toNat then o' else o' + l.toNat * Dat.sz α, k.toNat - l.toNat, ?_, ⟨by omega, by omega⟩, fun h => ?_⟩⟩
      · have c0 : 0 ≤ k ∧ k ≤ (c : Int) := by omega
        have c1 : 0 ≤ r ∧ r ≤ (k.toNat : Int) := by omega
        have c2 : 0 ≤ l ∧ l ≤ (r.toNat : Int) := by omega
        simp only [execOp, ex, ey, ez, eq, Instr.sliceAt, Instr.slice, Option.map_some, Sem.run_bind, run_underlying S.h, Result.andThen_ok, Instr.sliceBounds, Instr.sliceBound, asIntOf, Sem.run_pure, c0, c1, c2, and_self, if_true, T.sz, addr_add]
      · rw [show (r - l).toNat = r.toNat - l.toNat by omega]; split <;> rfl
      · rw [if_neg (by omega), ho (by omega)]
    · have hk : k = 0 := by omega
      have hr : r = 0 := by omega
      have hl0 : l = 0 := by omega
      subst hk; subst hr; subst hl0
      refine ⟨.slice none 0 0, ?_, .inr ⟨hp, rfl, rfl⟩⟩
      simp [execOp, ex, ey, ez, eq, Instr.sliceAt, Instr.slice, run_underlying S.h, Instr.sliceBounds, Instr.sliceBound, asIntOf, T.sz]
end ops

/-- a private slice put into an element of a private row -/
theorem CtH.rowAt {α : Type} {i : Dat α} {xs : List α} {c o off : Nat} {k : Int} {x : α} {τ : Ty} (e : idx xs k = some x) (ho : o = 0 + k.toNat * Dat.sz α + off) (hoff : off < Dat.sz α) : CtH (Row xs c) o τ ((Row xs c).mix o τ) := ⟨fun {A w cs v} hc hv => by
  obtain ⟨h1, h2, h3, h4, h5⟩ := hc
  have h6 := idx_lt e
  have h7 : k.toNat * Dat.sz α + Dat.sz α ≤ c * Dat.sz α := by rw [← Nat.succ_mul]; exact Nat.mul_le_mul_right _ (by omega)
  exact ⟨by omega, cs, v, ⟨h1, h2, h3, h4, h5⟩, by omega, hv, rfl⟩⟩

/-! such a pair given out -/
section co
variable {P : Program} {r : Ref} {n : Nat} {Γ : Env} {Ω Ω1 Ω2 : List Pe} {Q : Exit → Act → World → Prop} {ops : Array Oper} {k : Nat} {rest : List Oper} {α : Type} {i : Dat α}
theorem Stt.collG {b0 b : Nat} {pr0 pr : Prop} {C C' D0 : Ct} [op : Opens r] [p0 : Pick Ω b0 pr0 C Ω1] [p1 : Pick Ω1 b pr D0 Ω2] {a : Act} {w : World} (hpp : pr0 → pr)
    (hC : ∀ {A A' : Nat → Prop} {w : World} {cs : List Value}, Keep A A' w w → (A' b ∧ ∃ cs', Blk w b cs' ∧ D0.p A' w cs') → C.p A w cs → C'.p A' w cs) (h : Stt r n Γ Ω a w) : Stt r n Γ (⟨b0, pr0, C'⟩ :: Ω2) a w := by
  have h := (h.less (Less.perm p0.perm)).less (Less.cons (Less.perm p1.perm))
  have hl : Less (⟨b0, pr0, C⟩ :: ⟨b, pr, D0⟩ :: Ω2) (⟨b0, pr0, C⟩ :: Ω2) := Less.cons (Less.drop (Less.refl _))
  have h2 := h.less hl
  have hown : ∀ k, Own (⟨b0, pr0, C'⟩ :: Ω2) k ↔ Own (⟨b0, pr0, C⟩ :: Ω2) k := fun k => by
    constructor
    · rintro ⟨e, he, h1, h2⟩
      rcases List.mem_cons.1 he with rfl | he
      · exact ⟨_, List.mem_cons_self .., h1, h2⟩
      · exact ⟨e, List.mem_cons_of_mem _ he, h1, h2⟩
    · rintro ⟨e, he, h1, h2⟩
      rcases List.mem_cons.1 he with rfl | he
      · exact ⟨_, List.mem_cons_self .., h1, h2⟩
      · exact ⟨e, List.mem_cons_of_mem _ he, h1, h2⟩
  have hpub : Pub r.A (⟨b0, pr0, C'⟩ :: Ω2) = Pub r.A (⟨b0, pr0, C⟩ :: Ω2) := by
    funext k; exact propext (by rw [Pub_own, Pub_own, hown])
  have hk : Keep (Pub r.A (⟨b0, pr0, C⟩ :: ⟨b, pr, D0⟩ :: Ω2)) (Pub r.A (⟨b0, pr0, C⟩ :: Ω2)) w w := Keep.mono fun j _ hj => Pub_own.2 ⟨(Pub_own.1 hj).1, fun ho => (Pub_own.1 hj).2 (hl.own j ho)⟩
  refine ⟨h2.sz, h2.df, h2.mu, by rw [hpub]; exact h2.ty, ⟨fun j hj => h2.pv.own j ((hown j).1 hj), ?_, List.pairwise_cons.2 ⟨fun f hf h1 h3 => (List.pairwise_cons.1 h2.pv.ap).1 f hf h1 h3, (List.pairwise_cons.1 h2.pv.ap).2⟩⟩⟩
  rw [hpub]
  intro e he hp
  rcases List.mem_cons.1 he with rfl | he
  · obtain ⟨cs, g1, g2⟩ := h.pv.ks ⟨b0, pr0, C⟩ (List.mem_cons_self ..) hp
    refine ⟨cs, g1, hC hk ?_ g2⟩
    obtain ⟨cs', g3, g4⟩ := h.pv.ks ⟨b, pr, D0⟩ (List.mem_cons_of_mem _ (List.mem_cons_self ..)) (hpp hp)
    refine ⟨Pub_own.2 ⟨op.h b (h.pv.own b ⟨_, List.mem_cons_of_mem _ (List.mem_cons_self ..), hpp hp, rfl⟩), fun ⟨f, hf, hpf, hfb⟩ => ?_⟩, cs', g3, D0.keep hk g4⟩
    have ha := List.pairwise_cons.1 h.pv.ap
    rcases List.mem_cons.1 hf with rfl | hf
    · exact ha.1 _ (List.mem_cons_self ..) hpf (hpp hp) hfb
    · exact (List.pairwise_cons.1 ha.2).1 f hf (hpp hp) hpf hfb.symm
  · exact h2.pv.ks e (List.mem_cons_of_mem _ he) hp
theorem RowS.coll {b m c z : Nat} {pr : Prop} {p : List (List α)} (hz : z = Dat.sz α) (hm : m = p.length) {A A' : Nat → Prop} {w : World} {cs : List Value} (hk : Keep A A' w w) (hb : A' b ∧ ∃ cs', Blk w b cs' ∧ (Row p.flatten c).p A' w cs') (h : (RowS b pr z (p.map List.length) m).p A w cs) : (Row p m).p A' w cs := by
  subst hz; subst hm
  obtain ⟨h1, h2, h3, h4, h5⟩ := h
  refine ⟨by rw [h1]; exact (Nat.mul_one _).symm, Nat.le_refl _, h3, h4, fun j hj => ?_⟩
  have h6 := h5 j (by simpa using hj)
  simp only [List.getElem_map] at h6
  obtain ⟨ds, h7, h8⟩ := PubC.sv (C := Row p.flatten c) (τ := Sv b pr (offS (p.map List.length) j * Dat.sz α) p[j].length) (PlS.flat2 (i := i) hj rfl) rfl A' w _ (fun _ => hb) h6
  have h9 : ds = [cs.getD j undef] := by
    have hl := Dat.len h7
    obtain ⟨x, rfl⟩ : ∃ x, ds = [x] := List.length_eq_one_iff.1 hl
    have h8 : cs.getD j undef = [x].getD 0 undef := h8
    simp only [List.getD_cons_zero] at h8
    rw [h8]
  have h10 : seg cs (j * 1) 1 = [cs.getD j undef] := by
    refine getD_ext (by rw [seg_length (by omega)]; rfl) fun q hq => ?_
    rw [seg_length (by omega)] at hq
    rw [seg_getD hq]
    have : q = 0 := by omega
    subst this
    simp
  show Dat.rd A' w (seg cs (j * 1) 1) p[j]
  rw [h10, ← h9]; exact h7
/-- the row of slices and the row that they lie in become one row of data -/
theorem Stt.collS (b0 b : Nat) {m c z : Nat} {p : List (List α)} {pr : Prop} [op : Opens r] [p0 : Pick Ω b0 pr (RowS b pr z (p.map List.length) m) Ω1] [p1 : Pick Ω1 b pr (Row p.flatten c) Ω2] (hz : z = Dat.sz α) (hm : m = p.length) {a : Act} {w : World}
    (h : Stt r n Γ Ω a w) : Stt r n Γ (⟨b0, pr, Row p m⟩ :: Ω2) a w := h.collG (C' := Row p m) id fun hk hb hc => RowS.coll hz hm hk hb hc
theorem TC.collS {cd : Code} (b0 b : Nat) {m c z : Nat} {p : List (List α)} {pr : Prop} [op : Opens r] [p0 : Pick Ω b0 pr (RowS b pr z (p.map List.length) m) Ω1] [p1 : Pick Ω1 b pr (Row p.flatten c) Ω2] (hz : z = Dat.sz α) (hm : m = p.length)
    (h : TC P r n Γ (⟨b0, pr, Row p m⟩ :: Ω2) cd Q) : TC P r n Γ Ω cd Q := fun a w hs => h a w (hs.collS b0 b hz hm)
theorem TE.collS {e : Exit} (b0 b : Nat) {m c z : Nat} {p : List (List α)} {pr : Prop} [op : Opens r] [p0 : Pick Ω b0 pr (RowS b pr z (p.map List.length) m) Ω1] [p1 : Pick Ω1 b pr (Row p.flatten c) Ω2] (hz : z = Dat.sz α) (hm : m = p.length)
    (h : TE r n Γ (⟨b0, pr, Row p m⟩ :: Ω2) Q e) : TE r n Γ Ω Q e := fun a w hs => h a w (hs.collS b0 b hz hm)
theorem rowS_data {b b2 m c z cc : Nat} {p : List (List α)} {pr : Prop} {A : Nat → Prop} {w : World} {v : Value} (h1 : pr → A b ∧ ∃ cs, Blk w b cs ∧ (RowS b2 pr z (p.map List.length) m).p A w cs) (h2 : pr → A b2 ∧ ∃ cs, Blk w b2 cs ∧ (Row p.flatten c).p A w cs)
    (h : (Sl b pr 0 p.length cc).p A w v) (hz : z = Dat.sz α := by rfl) (hm : m = p.length := by rfl) : (D p).p A w v :=
  PubC.sv (C := Row p m) (τ := Sl b pr 0 p.length cc) PlS.all rfl A w v (fun hp => by
    obtain ⟨g1, cs, g2, g3⟩ := h1 hp
    exact ⟨g1, cs, g2, RowS.coll hz hm (Keep.mono fun _ _ h => h) (h2 hp) g3⟩) h
end co
theorem loopO_part {σ ε : Type} {f : σ → Option (σ ⊕ ε)} (I : σ → Prop) (R : ε → Prop) (h1 : ∀ s s', I s → f s = some (.inl s') → I s') (h2 : ∀ s e, I s → f s = some (.inr e) → R e) {s : σ} {e : ε} (hs : I s) (h : loopO f s = some e) : R e := by
  have key : ∀ (k : Nat) (s : σ), I s → loopN f k s = some e → R e := by
    intro k
    induction k with
    | zero => intro s _ h; cases h
    | succ k ih =>
      intro s hs h
      unfold loopN at h
      cases hf : f s with
      | none => rw [hf] at h; cases h
      | some x =>
        rw [hf] at h
        cases x with
        | inl s' => exact ih s' (h1 s s' hs hf) h
        | inr e' => obtain rfl := Option.some.inj h; exact h2 s e' hs hf
  exact key _ s hs h
/-- a loop that follows a plain one, with what stays true of its states -/
theorem TC.loopPI {P : Program} {r : Ref} {n : Nat} {Γ : Env} {Ω : List Pe} {Q : Exit → Act → World → Prop} {σ ε ν : Type} {f : σ → Option (σ ⊕ ε)} {s0 : σ} {e : ε} {c : Code} (hl : loopO f s0 = some e) (Inv : σ → Prop) (hi : Inv s0) (hp : ∀ s s', Inv s → f s = some (.inl s') → Inv s') (I : σ → ν → Env) (J : σ → ν → List Pe) (m0 : ν) (h0 : Γ.le (I s0 m0)) (j0 : Less Ω (J s0 m0))
    (round : ∀ s m x, Inv s → f s = some x → (∀ e', x = .inr e' → e' = e) → TC P r n (I s m) (J s m) c (Exit.then (fun a w => ∃ s' m', x = .inl s' ∧ Stt r n (I s' m') (J s' m') a w) Q)) : TC P r n Γ Ω (.loop c) Q := by
  refine TC.loop (γ := {g : σ × ν × Nat // loopN f g.2.2 g.1 = some e ∧ Inv g.1}) (fun g => I g.1.1 g.1.2.1) (fun g => J g.1.1 g.1.2.1) (fun g => g.1.2.2) ⟨(s0, m0, _), hl, hi⟩ h0 j0 ?_
  rintro ⟨⟨s, m, k⟩, hg, hv⟩
  cases k with
  | zero => cases hg
  | succ k =>
    have hg : loopN f (k + 1) s = some e := hg
    have hv : Inv s := hv
    unfold loopN at hg
    cases hf : f s with
    | none => rw [hf] at hg; cases hg
    | some x =>
      rw [hf] at hg
      intro a w hs
      have := round s m x hv hf (fun e' h => by subst h; injection hg) a w hs
      refine wpIn_mono this fun ex a' w' hq => ?_
      cases ex with
      | normal =>
        obtain ⟨s', m', hx, hst⟩ := hq
        subst hx
        exact ⟨⟨(s', m', k), hg, hp s s' hv hf⟩, Nat.lt_succ_self _, hst⟩
      | _ => exact hq
theorem RowS.atP {α : Type} {b z m o : Nat} {pr : Prop} {p : List (List α)} {k : Int} {x : List α} (e : idx p k = some x) (ho : o = k.toNat) : CeH (RowS b pr z (p.map List.length) m) o (Sv b pr (offS (p.map List.length) k.toNat * z) x.length) := by
  obtain ⟨-, h5⟩ := idx_some e
  obtain ⟨h6, h7⟩ := List.getElem?_eq_some_iff.1 h5
  have := RowS.at (b := b) (z := z) (m := m) (pr := pr) (L := p.map List.length) (j := k.toNat) (o := o) (by simpa using h6) ho
  rw [List.getElem_map, h7] at this; exact this
theorem rowS_nm {α : Type} {b z m : Nat} {pr : Prop} {p q : List (List α)} (h : some p = some q) : RowS b pr z (p.map List.length) m = RowS b pr z (q.map List.length) m := by rw [Option.some.inj h]
theorem rowF_nm {α : Type} {i : Dat α} {c : Nat} {p q : List (List α)} (h : some p = some q) : Row p.flatten c = Row q.flatten c := by rw [Option.some.inj h]
theorem rowS_set {α : Type} {b z m : Nat} {pr : Prop} {p : List (List α)} {k : Int} {x ys : List α} (e : idx p k = some x) (hy : ys.length = x.length) : RowS b pr z (p.map List.length) m = RowS b pr z ((p.set k.toNat ys).map List.length) m := by
  obtain ⟨-, h5⟩ := idx_some e
  obtain ⟨h6, h7⟩ := List.getElem?_eq_some_iff.1 h5
  rw [flat_set_lens h6 (by rw [h7]; exact hy)]
/-- one of the slices, by its index -/
theorem PlS.page {α : Type} {i : Dat α} {p : List (List α)} {c : Nat} {k : Int} {x : List α} (e : idx p k = some x) : PlS (Row p.flatten c) (offS (p.map List.length) k.toNat * Dat.sz α) α i x fun ys => Row (p.set k.toNat ys).flatten c := by
  obtain ⟨-, h5⟩ := idx_some e
  obtain ⟨h6, h7⟩ := List.getElem?_eq_some_iff.1 h5
  have := PlS.flat2 (i := i) (c := c) h6 rfl
  rw [h7] at this; exact this
theorem Pl.page {α : Type} {i : Dat α} {p : List (List α)} {c : Nat} {k q : Int} {x : List α} {y : α} (e : idx p k = some x) (e2 : idx x q = some y) : Pl (Row p.flatten c) (offS (p.map List.length) k.toNat * Dat.sz α + q.toNat * Dat.sz α) α i y fun y => Row (p.set k.toNat (x.set q.toNat y)).flatten c := by
  obtain ⟨-, h5⟩ := idx_some e2
  obtain ⟨h6, h7⟩ := List.getElem?_eq_some_iff.1 h5
  have := Pl.part (PlS.page (i := i) (c := c) e) h6
  rw [h7] at this; exact this
def lenI (n m : Nat) : Option Unit := if n = m then some () else none
theorem lenI_eq {n m : Nat} {u : Unit} (h : lenI n m = some u) : m = n := by
  unfold lenI at h; split at h
  · exact Eq.symm ‹_›
  · cases h
theorem lenI_ok {n m : Nat} (h : n = m) : lenI n m = some () := if_pos h
theorem rowF_nil {α : Type} {i : Dat α} {p : List (List α)} {c : Nat} {k : Int} {x : List α} (e : idx p k = some x) (h : x = []) : Row (p.set k.toNat ([] : List α)).flatten c = Row p.flatten c := by
  subst h
  obtain ⟨-, h5⟩ := idx_some e
  obtain ⟨h6, h7⟩ := List.getElem?_eq_some_iff.1 h5
  rw [← h7, List.set_getElem_self]
/-- a pointer that is not nil -/
class IsPtr (τ : Ty) : Prop where
  h : ∀ {A : Nat → Prop} {w : World} {v : Value}, τ.p A w v → ∃ a, v = .pointer (some a)
instance {b o : Nat} {pr : Prop} : IsPtr (Pq b o pr) := ⟨fun h => ⟨_, h.2⟩⟩
instance {b o : Nat} : IsPtr (Pt b o) := ⟨fun h => ⟨_, h⟩⟩
instance {α : Type} {i : Dat α} {x : α} : IsPtr (PtrD x) := ⟨fun ⟨b, o, cs, h, _⟩ => ⟨_, h⟩⟩
theorem OpY.nilCheck {P : Program} {B0 : Nat} {A : Nat → Prop} {Ω : List Pe} {Γ : Env} {dst : Option Tmp} {ty : TypeId} {pos : String} {aft : Array Edge} {gd : Option (Nat × Bool)} {x : Operand} {τ σ : Ty} [Has Γ x τ] [k : AsT τ σ] [q : IsPtr σ] : OpY P B0 A Ω Γ ⟨dst, .nilCheck x, ty, pos, aft, gd⟩ σ :=
  OpY.val fun a w hl => by
    have h := k.le _ _ _ (Has.ev (x := x) (τ := τ) (op := .nilCheck x) (by simp [Op.operands]) hl)
    obtain ⟨ad, e⟩ := q.h h
    refine ⟨a.eval x, ?_, h⟩
    simp only [execOp, e, Sem.run_pure]
theorem Pl.partI {α : Type} {i : Dat α} {C : Ct} {o : Nat} {xs : List α} {upd : List α → Ct} {q : Int} {y : α} (h : PlS C o α i xs upd) (e : idx xs q = some y) : Pl C (o + q.toNat * Dat.sz α) α i y fun y => upd (xs.set q.toNat y) := by
  obtain ⟨-, h5⟩ := idx_some e
  obtain ⟨h6, h7⟩ := List.getElem?_eq_some_iff.1 h5
  have := Pl.part h h6
  rw [h7] at this; exact this
theorem rowF_keep {α : Type} {i : Dat α} {p : List (List α)} {c : Nat} {k : Int} {x : List α} (e : idx p k = some x) : Row p.flatten c = Row (p.set k.toNat x).flatten c := by
  obtain ⟨-, h5⟩ := idx_some e
  obtain ⟨h6, h7⟩ := List.getElem?_eq_some_iff.1 h5
  rw [← h7, List.set_getElem_self]
theorem PlS.pageF {α : Type} {i : Dat α} {p : List (List α)} {c : Nat} {k : Int} {x ys : List α} (e : idx p k = some x) (hy : ys.length = x.length) : PlS (Row (p.set k.toNat ys).flatten c) (offS (p.map List.length) k.toNat * Dat.sz α) α i ys fun zs => Row (p.set k.toNat zs).flatten c := by
  obtain ⟨h0, h5⟩ := idx_some e
  obtain ⟨h6, h7⟩ := List.getElem?_eq_some_iff.1 h5
  have e2 : idx (p.set k.toNat ys) k = some ys := by
    unfold idx
    rw [if_pos h0, List.getElem?_set_self h6]
  have := PlS.page (i := i) (c := c) e2
  rw [flat_set_lens h6 (by rw [h7]; exact hy)] at this
  simp only [List.set_set] at this
  exact this
end Go.Proofs.Ytfdmajkeihdhnaa.Tr
