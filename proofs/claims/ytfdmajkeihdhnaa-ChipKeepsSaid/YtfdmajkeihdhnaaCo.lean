/- Private rows: copied into, cleared, measured, indexed, cut. Conditions: none. -/
import Derived.Test.YtfdmajkeihdhnaaSn
namespace Go.Proofs.Ytfdmajkeihdhnaa.Tr
open Go Go.RowKit
set_option linter.unusedVariables false
set_option linter.unnecessarySimpa false

theorem setSeg_pre {cs a : List Value} {o r : Nat} (h : o + a.length + r ≤ cs.length) : setSeg cs o (a ++ seg cs (o + a.length) r) = setSeg cs o a := by
  have hs : (seg cs (o + a.length) r).length = r := seg_length h
  refine getD_ext (by rw [setSeg_length (by simp [hs]; omega), setSeg_length (by omega)]) fun j hj => ?_
  rw [setSeg_length (by simp [hs]; omega)] at hj
  rw [setSeg_getD (by simp [hs]; omega), setSeg_getD (by omega)]
  simp only [List.length_append, hs]
  by_cases h1 : o ≤ j ∧ j < o + a.length
  · rw [if_pos (by omega), if_pos h1]
    simp only [List.getD_eq_getElem?_getD]
    rw [List.getElem?_append_left (by omega)]
  · rw [if_neg h1]
    split
    · rename_i h2
      have e : (a ++ seg cs (o + a.length) r).getD (j - o) undef = (seg cs (o + a.length) r).getD (j - o - a.length) undef := by
        simp only [List.getD_eq_getElem?_getD]
        rw [List.getElem?_append_right (by omega)]
      rw [e, seg_getD (by omega)]; congr 1; omega
    · rfl
theorem elemsIn.append {α : Type} [Dat α] {A : Nat → Prop} {w : World} {cs ds : List Value} {xs ys : List α} (h : elemsIn A w cs xs) (g : elemsIn A w ds ys) (hl : cs.length = xs.length * Dat.sz α) : elemsIn A w (cs ++ ds) (xs ++ ys) := fun j hj => by
  simp only [List.length_append] at hj
  rcases Nat.lt_or_ge j xs.length with h1 | h1
  · have hle : j * Dat.sz α + Dat.sz α ≤ cs.length := by rw [hl, ← Nat.succ_mul]; exact Nat.mul_le_mul_right _ (by omega)
    rw [seg_left hle, List.getElem_append_left h1]
    exact h j h1
  · have e1 : j * Dat.sz α = cs.length + (j - xs.length) * Dat.sz α := by rw [hl, ← Nat.add_mul]; congr 1; omega
    have e2 : seg (cs ++ ds) (cs.length + (j - xs.length) * Dat.sz α) (Dat.sz α) = seg ds ((j - xs.length) * Dat.sz α) (Dat.sz α) := by
      unfold seg; rw [← List.drop_drop, List.drop_left]
    rw [e1, e2, List.getElem_append_right h1]
    exact g _ (by omega)
/-- some of the first elements put anew -/
def over {α : Type} (xs ys : List α) : List α := ys.take xs.length ++ xs.drop ys.length
theorem over_len {α : Type} {xs ys : List α} : (over xs ys).length = xs.length := by unfold over; simp; omega
theorem PlS.over {α : Type} {i : Dat α} {C : Ct} {o : Nat} {xs : List α} {upd : List α → Ct} (p : PlS C o α i xs upd) {A : Nat → Prop} {w : World} {cs news : List Value} {ys : List α} (hc : C.p A w cs) (hn : news.length = ys.length * Dat.sz α) (he : elemsIn A w news ys) :
    o + (news.take (min ys.length xs.length * Dat.sz α)).length ≤ cs.length ∧ (upd (Tr.over xs ys)).p A w (setSeg cs o (news.take (min ys.length xs.length * Dat.sz α))) := by
  obtain ⟨h1, h2⟩ := p.rd hc
  have hk : min ys.length xs.length ≤ ys.length := Nat.min_le_left _ _
  have hk2 : min ys.length xs.length ≤ xs.length := Nat.min_le_right _ _
  have hl : (news.take (min ys.length xs.length * Dat.sz α)).length = min ys.length xs.length * Dat.sz α := by rw [List.length_take, hn]; exact Nat.min_eq_left (Nat.mul_le_mul_right _ hk)
  have hle : min ys.length xs.length * Dat.sz α ≤ xs.length * Dat.sz α := Nat.mul_le_mul_right _ hk2
  have hsub : xs.length * Dat.sz α = min ys.length xs.length * Dat.sz α + (xs.length - min ys.length xs.length) * Dat.sz α := by rw [← Nat.add_mul]; congr 1; omega
  refine ⟨by omega, ?_⟩
  have hfit : o + (news.take (min ys.length xs.length * Dat.sz α)).length + (xs.length - min ys.length xs.length) * Dat.sz α ≤ cs.length := by omega
  rw [← setSeg_pre hfit]
  have hov : Tr.over xs ys = ys.take (min ys.length xs.length) ++ xs.drop (min ys.length xs.length) := by
    unfold Tr.over
    rcases Nat.le_total ys.length xs.length with h | h
    · rw [Nat.min_eq_left h, List.take_of_length_le h, List.take_of_length_le (Nat.le_refl _)]
    · rw [Nat.min_eq_right h, List.drop_of_length_le h, List.drop_of_length_le (Nat.le_refl _)]
  rw [hov]
  refine p.st _ (by simp; omega) hc (by
    have h9 : (ys.take (min ys.length xs.length) ++ xs.drop (min ys.length xs.length)).length = xs.length := by simp; omega
    rw [h9, List.length_append, seg_length hfit, hl]; omega) ?_
  refine elemsIn.append (he.take hn hk) ?_ (by rw [hl, List.length_take]; congr 1; omega)
  have h3 := h2.drop (m := min ys.length xs.length) (by rw [seg_length h1]; exact Nat.le_refl _)
  have e : (seg cs o (xs.length * Dat.sz α)).drop (min ys.length xs.length * Dat.sz α) = seg cs (o + (news.take (min ys.length xs.length * Dat.sz α)).length) ((xs.length - min ys.length xs.length) * Dat.sz α) := by
    unfold seg
    rw [hl, List.drop_take, List.drop_drop]
    congr 1
    omega
  rw [e] at h3
  exact h3

section ops
variable {P : Program} {B : Nat} {Ωs Ω Ωr : List Pe} {Γ : Env} {dst : Option Tmp} {ty : TypeId} {pos : String} {aft : Array Edge}
variable {α : Type} {i : Dat α} {t u e : TypeId} {bt : Nat}

/-- an operation's outcome, a value or none -/
def Outs (P : Program) (o : Oper) (a : Act) (w : World) (v : Value) (w' : World) : Prop := (execOp a.eval o).run P w = .ok (.value v) w' ∨ ((execOp a.eval o).run P w = .ok .skip w' ∧ v = undef)
theorem Outs.yields {P : Program} {B : Nat} {A0 : Nat → Prop} {Ωs Ωt : List Pe} {ν : Type} {τ : ν → Ty} {Ω' : ν → List Pe} {o : Oper} {a : Act} {w w' : World} {v : Value} (h : Outs P o a w v w') (g : ν) (k : Aft B A0 Ωs Ωt (τ g) (Ω' g) w w' v) : YieldsT P B A0 Ωs Ωt τ Ω' w ((execOp a.eval o).run P w) := by
  rcases h with h | ⟨h, rfl⟩ <;> rw [h] <;> exact ⟨g, k⟩
/-- a write of cells into a private block -/
theorem OpT.wr {o : Oper} {b : Nat} {pr : Prop} {C C' : Ct} {τ : Ty} [pk : Pick Ω b pr C Ωr] (hg : o.guard = none)
    (h : ∀ (A : Nat → Prop) (a : Act) (w : World), Pks A (Ωs ++ Ω) w → (∀ t, .tmp t ∈ o.op.operands.toList → (Γ t).p A w (a.tmps.getD t undef)) →
      ∃ v, (∀ A w, τ.p A w v) ∧ ((Outs P o a w v w ∧ ∀ A cs, pr → C.p A w cs → C'.p A w cs) ∨
        pr ∧ ∃ w' cs cs', Outs P o a w v w' ∧ Blk w b cs ∧ Blk w' b cs' ∧ Mut (fun k => k = b) w w' ∧ C'.p A w cs')) :
    OpT P B Ωs Ω Γ o (fun _ : Unit => τ) fun _ => ⟨b, pr, C'⟩ :: Ωr := by
  refine OpT.frame (Ωt := [⟨b, pr, C⟩]) (Ω' := fun _ => [⟨b, pr, C'⟩]) pk.perm ⟨hg, fun A0 a w hB hu ho ha hk hl => ?_⟩
  have hp1 : (Ωs ++ Ω).Perm ((Ωs ++ Ωr) ++ [⟨b, pr, C⟩]) := by
    rw [List.append_assoc]
    exact (pk.perm.trans (show (([⟨b, pr, C⟩] : List Pe) ++ Ωr).Perm (Ωr ++ [⟨b, pr, C⟩]) from List.perm_append_comm)).append_left _
  have hown : ∀ k, Own ((Ωs ++ Ωr) ++ [⟨b, pr, C'⟩]) k ↔ Own ((Ωs ++ Ωr) ++ [⟨b, pr, C⟩]) k := fun k => by
    rw [Own_append (Ω := Ωs ++ Ωr), Own_append (Ω := Ωs ++ Ωr)]
    constructor
    · rintro (h | ⟨e, he, h1, h2⟩)
      · exact .inl h
      · obtain rfl := List.mem_singleton.1 he; exact .inr ⟨_, List.mem_singleton.2 rfl, h1, h2⟩
    · rintro (h | ⟨e, he, h1, h2⟩)
      · exact .inl h
      · obtain rfl := List.mem_singleton.1 he; exact .inr ⟨_, List.mem_singleton.2 rfl, h1, h2⟩
  have hpub : Pub A0 ((Ωs ++ Ωr) ++ [⟨b, pr, C'⟩]) = Pub A0 ((Ωs ++ Ωr) ++ [⟨b, pr, C⟩]) := by
    funext k; exact propext (by rw [Pub_own, Pub_own, hown])
  have hap : Apart ((Ωs ++ Ωr) ++ [⟨b, pr, C'⟩]) := List.pairwise_append.2 ⟨(List.pairwise_append.1 ha).1, List.pairwise_singleton _ _, fun x hx y hy h1 h2 => by
    obtain rfl := List.mem_singleton.1 hy
    exact (List.pairwise_append.1 ha).2.2 x hx ⟨b, pr, C⟩ (List.mem_singleton.2 rfl) h1 h2⟩
  have hnw : ∀ k, Own [⟨b, pr, C'⟩] k → Own [⟨b, pr, C⟩] k ∨ w.heap.size ≤ k := fun k ⟨e, he, h1, h2⟩ => by
    obtain rfl := List.mem_singleton.1 he; exact .inl ⟨_, List.mem_singleton.2 rfl, h1, h2⟩
  obtain ⟨v, hv, ⟨h1, h2⟩ | ⟨hpr, w', cs, cs', h1, h2, h3, h4, h5⟩⟩ := h (Pub A0 ((Ωs ++ Ωr) ++ [⟨b, pr, C⟩])) a w (fun e he => hk e (hp1.mem_iff.1 he)) hl
  · refine h1.yields () ⟨Stp.refl _ _ _, hnw, hap, hv _ _, fun e he hp => ?_⟩
    obtain rfl := List.mem_singleton.1 he
    obtain ⟨cs, g1, g2⟩ := hk ⟨b, pr, C⟩ (by simp) hp
    rw [hpub]; exact ⟨cs, g1, h2 _ _ hp g2⟩
  · have hm : Mut (Own [⟨b, pr, C⟩]) w w' := h4.mono fun k e => ⟨_, List.mem_singleton.2 rfl, hpr, e.symm⟩
    have hkp : Keep (Pub A0 ((Ωs ++ Ωr) ++ [⟨b, pr, C⟩])) (Pub A0 ((Ωs ++ Ωr) ++ [⟨b, pr, C⟩])) w w' := h4.keep fun k hk e => (Pub_own.1 hk).2 (Own_append.2 (.inr ⟨_, List.mem_singleton.2 rfl, hpr, e.symm⟩))
    refine h1.yields () ⟨Stp.of_mut hm hB, hnw, hap, hv _ _, fun e he _ => ?_⟩
    obtain rfl := List.mem_singleton.1 he
    rw [hpub]; exact ⟨_, h3, C'.keep hkp h5⟩

theorem OpT.copyBy [S : TSl P t e] [T : TEl P e α i bt] {x y : Operand} {τ σ : Ty} {b o m : Nat} {pr : Prop} {C : Ct} {xs ys : List α} {upd : List α → Ct} [hx : Has Γ x τ] [ka : AsSv τ b pr o m] [pk : Pick Ω b pr C Ωr] [hy : Has Γ y σ] (hs : SrcOf (Ωs ++ Ω) σ α i ys) (p : PlS C o α i xs upd) (hm : m = xs.length) (hnil : pr → xs = [] → upd [] = C) :
    OpT P B Ωs Ω Γ ⟨dst, .call { callee := .builtin .copy, args := #[x, y], argTypes := #[t, u] }, ty, pos, aft, none⟩ (fun _ : Unit => I (min ys.length xs.length : Nat)) fun _ => ⟨b, pr, upd (over xs ys)⟩ :: Ωr :=
  OpT.wr (C := C) rfl fun A a w hk hl => by
    obtain ⟨ti, z, hi1, hi2, hi3, hi4, hi5⟩ := T.h
    have h1 := ka.le _ _ _ (hx.le a _ w fun t ht => hl t (by simp [Op.operands, Call.operands, ← ht]))
    have h2 := hs.h hk (hy.le a _ w fun t ht => hl t (by simp [Op.operands, Call.operands, ← ht]))
    obtain ⟨ad, c, news, e2, hn, he, hf⟩ := h2.cells (P := P)
    refine ⟨.int .i64 (min ys.length xs.length : Nat), fun _ _ => rfl, ?_⟩
    rcases h1 with ⟨hp, o', c', e1, -, ho⟩ | ⟨hp, h0, e1⟩
    · obtain ⟨cs, g1, g2⟩ := hk ⟨b, pr, C⟩ (List.mem_append_right _ (pk.perm.mem_iff.2 (List.mem_cons_self ..))) hp
      rcases Nat.eq_zero_or_pos m with h0 | h0
      · left
        have hx0 : xs = [] := List.eq_nil_of_length_eq_zero (by omega)
        refine ⟨.inl ?_, fun A cs hp hc => ?_⟩
        · have hf0 := hf 0 (Nat.zero_le _)
          simp only [Nat.zero_mul, List.take_zero] at hf0
          rw [hi3.symm, e2] at hf0
          subst hx0
          simp [execOp, resolve, invoke, builtin, Builtin.copy_, e1, e2, h0, run_underlying S.h, Builtin.lenOf, sizeOf, typeInfo, hi1, hf0, storeCells, goInt]
        · subst hx0
          have : over [] ys = [] := by unfold over; simp
          rw [this, hnil hp rfl]; exact hc
      · right
        obtain rfl := ho h0
        obtain ⟨k1, k2⟩ := p.over g2 hn he
        have hmin : min ys.length xs.length ≤ ys.length := Nat.min_le_left _ _
        have hsc : ∀ v ∈ news.take (min ys.length xs.length * Dat.sz α), v.oneCell' = true := fun v hv => (he.scal hn) v (List.mem_of_mem_take hv)
        obtain ⟨w', r1, r2, r3, r4⟩ := run_storeCells' (P := P) g1 k1 hsc
        refine ⟨hp, w', cs, _, .inl ?_, g1, r2, r3, k2⟩
        have hf0 := hf _ hmin
        have emin : Nat.min ys.length m = min ys.length xs.length := by rw [hm]
        rw [e2] at hf0
        have r1' : (storeCells ⟨b, o', none⟩ (news.take (min ys.length xs.length * Dat.sz α)).toArray.toList).run P w = .ok () w' := by simpa using r1
        simp only [execOp, resolve, invoke, builtin, Builtin.copy_, e1, e2, List.map_toArray, List.map_cons, List.map_nil, Sem.run_bind, Sem.run_pure, Result.andThen_ok, List.getElem?_toArray, List.getElem?_cons_zero, List.getElem?_cons_succ, run_underlying S.h, Builtin.lenOf, T.d.sz, emin, hf0, r1', goInt]
    · left
      have hx0 : xs = [] := List.eq_nil_of_length_eq_zero (by omega)
      refine ⟨.inl ?_, fun A cs hp' _ => absurd hp' hp⟩
      have hf0 := hf 0 (Nat.zero_le _)
      simp only [Nat.zero_mul, List.take_zero] at hf0
      rw [hi3.symm, e2] at hf0
      subst hx0
      simp [execOp, resolve, invoke, builtin, Builtin.copy_, e1, e2, run_underlying S.h, Builtin.lenOf, sizeOf, typeInfo, hi1, hf0, goInt]
/-- clear a slice of a private block -/
theorem OpT.clearBy [S : TSl P t e] [T : TEl P e α i bt] {x : Operand} {τ : Ty} {b o m : Nat} {pr : Prop} {C : Ct} {xs : List α} {upd : List α → Ct} [hx : Has Γ x τ] [ka : AsSv τ b pr o m] [pk : Pick Ω b pr C Ωr] (p : PlS C o α i xs upd) (hm : m = xs.length) (hnil : pr → xs = [] → upd [] = C) :
    OpT P B Ωs Ω Γ ⟨dst, .call { callee := .builtin .clear, args := #[x], argTypes := #[t] }, ty, pos, aft, none⟩ (fun _ : Unit => Ty.any) fun _ => ⟨b, pr, upd (List.replicate m (Dat.z (α := α)))⟩ :: Ωr :=
  OpT.wr (C := C) rfl fun A a w hk hl => by
    obtain ⟨ti, z, hi1, hi2, hi3, hi4, hi5⟩ := T.h
    have h1 := ka.le _ _ _ (hx.le a _ w fun t ht => hl t (by simp [Op.operands, Call.operands, ← ht]))
    refine ⟨.tuple #[], fun _ _ => trivial, ?_⟩
    rcases h1 with ⟨hp, o', c', e1, -, ho⟩ | ⟨hp, h0, e1⟩
    · obtain ⟨cs, g1, g2⟩ := hk ⟨b, pr, C⟩ (List.mem_append_right _ (pk.perm.mem_iff.2 (List.mem_cons_self ..))) hp
      rcases Nat.eq_zero_or_pos m with h0 | h0
      · left
        have hx0 : xs = [] := List.eq_nil_of_length_eq_zero (by omega)
        refine ⟨.inl ?_, fun A cs hp hc => by rw [h0, List.replicate_zero, hnil hp hx0]; exact hc⟩
        simp [execOp, resolve, invoke, builtin, Builtin.clear_, e1, h0, run_underlying S.h]
      · right
        obtain rfl := ho h0
        have hzl : z.cells.size = Dat.sz α := by rw [hi5]; simpa using zc_length α
        have hz : (Builtin.zeroCells z.cells m).toList.length = m * Dat.sz α := by rw [Array.length_toList, size_zeroCells, hzl]
        have he : elemsIn A w (Builtin.zeroCells z.cells m).toList (List.replicate m (Dat.z (α := α))) := fun j hj => by
          simp only [List.length_replicate] at hj
          have e2 : seg (Builtin.zeroCells z.cells m).toList (j * Dat.sz α) (Dat.sz α) = Dat.zc α := by
            have hle : j * Dat.sz α + Dat.sz α ≤ m * Dat.sz α := by rw [← Nat.succ_mul]; exact Nat.mul_le_mul_right _ (by omega)
            have hzc : (Dat.zc α).length = Dat.sz α := zc_length α
            refine getD_ext (by rw [seg_length (by omega), hzc]) fun q hq => ?_
            rw [seg_length (by omega)] at hq
            rw [seg_getD hq]
            have h3 : j * Dat.sz α + q < m * Dat.sz α := by omega
            have h4 : (j * Dat.sz α + q) % Dat.sz α = q := by rw [Nat.mul_comm, Nat.mul_add_mod, Nat.mod_eq_of_lt hq]
            have h5 : (Builtin.zeroCells z.cells m).toList.getD (j * Dat.sz α + q) undef = z.cells[(j * Dat.sz α + q) % z.cells.size]! := by
              simp [Builtin.zeroCells, List.getD_eq_getElem?_getD, hzl, h3]
            rw [h5, hzl, h4, hi5, getElem!_pos _ _ (by simpa [hzc] using hq)]
            simp [List.getD_eq_getElem?_getD, hzc, hq]
          rw [e2, List.getElem_replicate]; exact Dat.zrd
        have hf := (p.rd g2).1
        obtain ⟨w', r1, r2, r3, r4⟩ := run_storeCells' (P := P) g1 (o := o') (vs := (Builtin.zeroCells z.cells m).toList) (by rw [hz, hm]; exact hf) (he.scal (by rw [hz, List.length_replicate]))
        refine ⟨hp, w', cs, _, .inl ?_, g1, r2, r3, p.st _ (by rw [List.length_replicate, hm]) g2 (by rw [hz, List.length_replicate]) he⟩
        obtain ⟨m', rfl⟩ : ∃ m', m = m' + 1 := ⟨m - 1, by omega⟩
        simp [execOp, resolve, invoke, builtin, Builtin.clear_, e1, run_underlying S.h, zeroValue, typeInfo, hi1, hi2, r1]
    · left
      have hx0 : xs = [] := List.eq_nil_of_length_eq_zero (by omega)
      refine ⟨.inl ?_, fun A cs hp' _ => absurd hp' hp⟩
      simp [execOp, resolve, invoke, builtin, Builtin.clear_, e1, h0, run_underlying S.h]
end ops

section rd
variable {P : Program} {B0 : Nat} {A : Nat → Prop} {Ω : List Pe} {Γ : Env} {dst : Option Tmp} {ty : TypeId} {pos : String} {aft : Array Edge} {gd : Option (Nat × Bool)}
variable {α : Type} {i : Dat α} {t e : TypeId} {bt : Nat}
theorem OpY.lenSv {x : Operand} {τ : Ty} {b o m : Nat} {pr : Prop} [hx : Has Γ x τ] [ka : AsSv τ b pr o m] [S : TSl P t e] :
    OpY P B0 A Ω Γ ⟨dst, .call { callee := .builtin .len, args := #[x], argTypes := #[t] }, ty, pos, aft, gd⟩ (I m) :=
  OpY.val fun a w hl => by
    have h := ka.le _ _ _ (Has.ev (x := x) (τ := τ) (op := .call { callee := .builtin .len, args := #[x], argTypes := #[t] }) (by simp [Op.operands, Call.operands]) hl)
    rcases h with ⟨_, o', c, e1, _⟩ | ⟨_, rfl, e1⟩
    · exact ⟨.int .i64 m, by simp [execOp, resolve, invoke, builtin, e1, Builtin.len_, run_underlying S.h, goInt], rfl⟩
    · exact ⟨.int .i64 0, by simp [execOp, resolve, invoke, builtin, e1, Builtin.len_, run_underlying S.h, goInt], rfl⟩
/-- the place of an element of a private row -/
theorem OpY.indexSv [S : TSl P t e] [T : TDat P e α i] {x y : Operand} {τ σ : Ty} {b o m : Nat} {pr : Prop} {k : Int} [hx : Has Γ x τ] [ka : AsSv τ b pr o m] [Has Γ y σ] [hy : AsI σ k] (h0 : 0 ≤ k) (h1 : k < m) :
    OpY P B0 A Ω Γ ⟨dst, .indexAddr t x y, ty, pos, aft, gd⟩ (Pt b (o + k.toNat * Dat.sz α)) :=
  OpY.val fun a w hl => by
    have h := ka.le _ _ _ (Has.ev (x := x) (τ := τ) (op := .indexAddr t x y) (by simp [Op.operands]) hl)
    have e2 : a.eval y = .int .i64 k := hy.le _ _ _ (Has.ev (x := y) (τ := σ) (op := .indexAddr t x y) (by simp [Op.operands]) hl)
    rcases h with ⟨_, o', c, e1, _, ho⟩ | ⟨_, h2, e1⟩
    · obtain rfl := ho (by omega)
      refine ⟨_, ?_, rfl⟩
      have hin : 0 ≤ k ∧ k < (m : Int) := ⟨h0, h1⟩
      simp only [execOp, e1, e2, Instr.indexAt, asIntOf, Sem.run_bind, Sem.run_pure, Result.andThen_ok, run_underlying S.h, hin, and_self, if_true, T.sz, addr_add]
    · omega
/-- the first element of the block on: its place is the element's -/
theorem OpY.indexSl [S : TSl P t e] [T : TDat P e α i] {x y : Operand} {σ : Ty} {b m c : Nat} {pr : Prop} {k : Int} [hx : Has Γ x (Sl b pr 0 m c)] [Has Γ y σ] [hy : AsI σ k] (h0 : 0 ≤ k) (h1 : k < m) :
    OpY P B0 A Ω Γ ⟨dst, .indexAddr t x y, ty, pos, aft, gd⟩ (Pt b (k.toNat * Dat.sz α)) := by
  have := OpY.indexSv (P := P) (B0 := B0) (A := A) (Ω := Ω) (Γ := Γ) (dst := dst) (ty := ty) (pos := pos) (aft := aft) (gd := gd) (t := t) (x := x) (y := y) (b := b) (o := 0) (m := m) (pr := pr) (k := k) h0 h1
  rwa [Nat.zero_add] at this
/-- x[:r] -/
theorem OpY.sliceSlTo [S : TSl P t e] [T : TDat P e α i] {x z : Operand} {ρ : Ty} {b m c : Nat} {pr : Prop} {r : Int} [hx : Has Γ x (Sl b pr 0 m c)] [Has Γ z ρ] [hz : AsI ρ r] (h1 : 0 ≤ r) (h2 : r ≤ m) :
    OpY P B0 A Ω Γ ⟨dst, .slice t x none (some z) none, ty, pos, aft, gd⟩ (Sl b pr 0 r.toNat c) :=
  OpY.val fun a w hl => by
    have h := Has.ev (x := x) (τ := Sl b pr 0 m c) (op := .slice t x none (some z) none) (by simp [Op.operands]) hl
    have ez : a.eval z = .int .i64 r := hz.le _ _ _ (Has.ev (x := z) (τ := ρ) (op := .slice t x none (some z) none) (by simp [Op.operands]) hl)
    rcases h with ⟨hp, hmc, ex⟩ | ⟨hp, rfl, rfl, ex⟩
    · refine ⟨.slice (some ⟨b, 0, none⟩) r.toNat c, ?_, .inl ⟨hp, ⟨by omega, hmc.2⟩, rfl⟩⟩
      have c1 : 0 ≤ r ∧ r ≤ (c : Int) := by omega
      simp only [execOp, ex, ez, Instr.sliceAt, Instr.slice, Option.map_some, Option.map_none, Sem.run_bind, run_underlying S.h, Result.andThen_ok, Instr.sliceBounds, Instr.sliceBound, asIntOf, Sem.run_pure, c1, and_self, if_true, T.sz, Nat.sub_zero, Nat.zero_mul, addr_add, Nat.add_zero, Option.map_some, ite_self]
    · have hr : r = 0 := by omega
      subst hr
      refine ⟨.slice none 0 0, ?_, .inr ⟨hp, rfl, rfl, rfl⟩⟩
      simp [execOp, ex, ez, Instr.sliceAt, Instr.slice, run_underlying S.h, Instr.sliceBounds, Instr.sliceBound, asIntOf, T.sz]
section sv
variable {x y z : Operand} {τ σ ρ : Ty} {b o m : Nat} {pr : Prop} {l r : Int}
theorem Sv.cut {o' c : Nat} {v : Value} (hp : pr) (hmc : m ≤ c ∧ c ≤ maxLen) (ho : 0 < m → o' = o) (h0 : 0 ≤ l) (h1 : l ≤ r) (h2 : r ≤ m) (hv : v = .slice (if c = l.toNat then some ⟨b, o', none⟩ else some ⟨b, o' + l.toNat * Dat.sz α, none⟩) (r.toNat - l.toNat) (c - l.toNat)) {A : Nat → Prop} {w : World} :
    (Sv b pr (o + l.toNat * Dat.sz α) (r - l).toNat).p A w v := by
  left
  refine ⟨hp, if c = l.toNat then o' else o' + l.toNat * Dat.sz α, c - l.toNat, ?_, ⟨by omega, by omega⟩, fun h => ?_⟩
  · rw [hv, show (r - l).toNat = r.toNat - l.toNat by omega]; split <;> rfl
  · rw [if_neg (by omega), ho (by omega)]
/-- x[l:r] -/
theorem OpY.sliceSv2 [S : TSl P t e] [T : TDat P e α i] [hx : Has Γ x τ] [ka : AsSv τ b pr o m] [Has Γ y σ] [hy : AsI σ l] [Has Γ z ρ] [hz : AsI ρ r] (h0 : 0 ≤ l) (h1 : l ≤ r) (h2 : r ≤ m) :
    OpY P B0 A Ω Γ ⟨dst, .slice t x (some y) (some z) none, ty, pos, aft, gd⟩ (Sv b pr (o + l.toNat * Dat.sz α) (r - l).toNat) :=
  OpY.val fun a w hl => by
    have h := ka.le _ _ _ (Has.ev (x := x) (τ := τ) (op := .slice t x (some y) (some z) none) (by simp [Op.operands]) hl)
    have ey : a.eval y = .int .i64 l := hy.le _ _ _ (Has.ev (x := y) (τ := σ) (op := .slice t x (some y) (some z) none) (by simp [Op.operands]) hl)
    have ez : a.eval z = .int .i64 r := hz.le _ _ _ (Has.ev (x := z) (τ := ρ) (op := .slice t x (some y) (some z) none) (by simp [Op.operands]) hl)
    rcases h with ⟨hp, o', c, ex, hmc, ho⟩ | ⟨hp, rfl, ex⟩
    · refine ⟨_, ?_, Sv.cut hp hmc ho h0 h1 h2 rfl⟩
      have c1 : 0 ≤ r ∧ r ≤ (c : Int) := by omega
      have c2 : 0 ≤ l ∧ l ≤ (r.toNat : Int) := by omega
      simp only [execOp, ex, ey, ez, Instr.sliceAt, Instr.slice, Option.map_some, Option.map_none, Sem.run_bind, run_underlying S.h, Result.andThen_ok, Instr.sliceBounds, Instr.sliceBound, asIntOf, Sem.run_pure, c1, c2, and_self, if_true, T.sz, addr_add]
    · have hr : r = 0 := by omega
      have hl0 : l = 0 := by omega
      subst hr; subst hl0
      refine ⟨.slice none 0 0, ?_, .inr ⟨hp, rfl, rfl⟩⟩
      simp [execOp, ex, ey, ez, Instr.sliceAt, Instr.slice, run_underlying S.h, Instr.sliceBounds, Instr.sliceBound, asIntOf, T.sz]
/-- x[l:] -/
theorem OpY.sliceSvFrom [S : TSl P t e] [T : TDat P e α i] [hx : Has Γ x τ] [ka : AsSv τ b pr o m] [Has Γ y σ] [hy : AsI σ l] (h0 : 0 ≤ l) (h1 : l ≤ m) :
    OpY P B0 A Ω Γ ⟨dst, .slice t x (some y) none none, ty, pos, aft, gd⟩ (Sv b pr (o + l.toNat * Dat.sz α) ((m : Int) - l).toNat) :=
  OpY.val fun a w hl => by
    have h := ka.le _ _ _ (Has.ev (x := x) (τ := τ) (op := .slice t x (some y) none none) (by simp [Op.operands]) hl)
    have ey : a.eval y = .int .i64 l := hy.le _ _ _ (Has.ev (x := y) (τ := σ) (op := .slice t x (some y) none none) (by simp [Op.operands]) hl)
    rcases h with ⟨hp, o', c, ex, hmc, ho⟩ | ⟨hp, rfl, ex⟩
    · refine ⟨_, ?_, Sv.cut (r := (m : Int)) hp hmc ho h0 h1 (Int.le_refl _) rfl⟩
      have c2 : 0 ≤ l ∧ l ≤ (m : Int) := by omega
      simp only [execOp, ex, ey, Instr.sliceAt, Instr.slice, Option.map_some, Option.map_none, Sem.run_bind, run_underlying S.h, Result.andThen_ok, Instr.sliceBounds, Instr.sliceBound, asIntOf, Sem.run_pure, c2, and_self, if_true, T.sz, addr_add, Int.toNat_natCast]
    · have hl0 : l = 0 := by omega
      subst hl0
      refine ⟨.slice none 0 0, ?_, .inr ⟨hp, rfl, rfl⟩⟩
      simp [execOp, ex, ey, Instr.sliceAt, Instr.slice, run_underlying S.h, Instr.sliceBounds, Instr.sliceBound, asIntOf, T.sz]
end sv
end rd
end Go.Proofs.Ytfdmajkeihdhnaa.Tr
