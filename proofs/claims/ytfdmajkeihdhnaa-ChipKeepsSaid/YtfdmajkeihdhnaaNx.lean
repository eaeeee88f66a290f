/- More ways to make private rows: append of zeros onto nil, and zero fields that are rows not there yet. Conditions: none. -/
import Derived.Test.YtfdmajkeihdhnaaPl
namespace Go.Proofs.Ytfdmajkeihdhnaa.Tr
open Go Go.RowKit
set_option linter.unusedVariables false
set_option linter.unnecessarySimpa false
set_option linter.unusedSimpArgs false

theorem Row.zeros {α : Type} {i : Dat α} {A : Nat → Prop} {w : World} {zs : Array Value} {m gc : Nat} (hz : zs = (Dat.zc α).toArray) (ge : m ≤ gc) (cm : gc ≤ maxLen) (hm : m ≤ most) :
    (Row (List.replicate m (Dat.z (α := α))) gc).p A w (Builtin.zeroCells zs m ++ Builtin.zeroCells zs (gc - m)).toList := by
  have hzl : zs.size = Dat.sz α := by rw [hz]; simpa using Dat.len (Dat.zrd (α := α) (A := fun _ => True) (w := w))
  have hsz := Dat.pos (α := α)
  refine ⟨?_, by simpa using ge, cm, by simpa using hm, fun j hj => ?_⟩
  · simp only [Array.length_toList, Array.size_append, size_zeroCells, hzl, ← Nat.add_mul]; congr 1; omega
  · simp only [List.length_replicate] at hj
    have hzc : (Dat.zc α).length = Dat.sz α := Dat.len (Dat.zrd (α := α) (A := fun _ => True) (w := w))
    have hle : j * Dat.sz α + Dat.sz α ≤ m * Dat.sz α := by rw [← Nat.succ_mul]; exact Nat.mul_le_mul_right _ (by omega)
    have e3 : seg (Builtin.zeroCells zs m ++ Builtin.zeroCells zs (gc - m)).toList (j * Dat.sz α) (Dat.sz α) = Dat.zc α := by
      rw [Array.toList_append, seg_left (by rw [Array.length_toList, size_zeroCells, hzl]; exact hle)]
      refine getD_ext (by rw [seg_length (by rw [Array.length_toList, size_zeroCells, hzl]; exact hle), hzc]) fun q hq => ?_
      rw [seg_length (by rw [Array.length_toList, size_zeroCells, hzl]; exact hle)] at hq
      rw [seg_getD hq]
      have h3 : j * Dat.sz α + q < m * Dat.sz α := by omega
      have h4 : (j * Dat.sz α + q) % Dat.sz α = q := by rw [Nat.mul_comm, Nat.mul_add_mod, Nat.mod_eq_of_lt hq]
      have h5 : (Builtin.zeroCells zs m).toList.getD (j * Dat.sz α + q) undef = zs[(j * Dat.sz α + q) % zs.size]! := by
        simp [Builtin.zeroCells, List.getD_eq_getElem?_getD, hzl, h3]
      rw [h5, hzl, h4, hz, getElem!_pos _ _ (by simpa [hzc] using hq)]
      simp [List.getD_eq_getElem?_getD, hzc, hq]
    rw [e3, List.getElem_replicate]; exact Dat.zrd

/-- a number above 0 -/
def posI (n : Int) : Option Unit := if 0 < n then some () else none
theorem posI_some {n : Int} {u : Unit} (h : posI n = some u) : 0 < n := by
  unfold posI at h; split at h
  · assumption
  · cases h
theorem posI_ok {n : Int} (h : 0 < n) : posI n = some () := by unfold posI; rw [if_pos h]

section am
variable {P : Program} {B : Nat} {Ωs Ω : List Pe} {Γ : Env} {t e u ty : TypeId} {d : Tmp} {pos : String} {aft : Array Edge} {α : Type} {i : Dat α} {bt : Nat}
/-- append(nil, make([]T, n)...) -/
theorem OpT.appMake [S : TSl P t e] [T : TEl P e α i bt] [U : TIn P u .i64] {s x : Operand} {σ : Ty} {n : Int} {v v' : Unit} [hs : Has Γ s NilS] [hx : Has Γ x σ] [k : AsI σ n] (hr : room bt n = some v) (h0' : posI n = some v') :
    OpT P B Ωs Ω Γ ⟨some d, .call { callee := .builtin .append, args := #[s, x], argTypes := #[t, u] }, ty, pos, aft, none⟩ (fun g : Nat × Nat => Sl g.1 True 0 (List.replicate n.toNat (Dat.z (α := α))).length g.2)
      fun g => ⟨g.1, True, Row (List.replicate n.toNat (Dat.z (α := α))) g.2⟩ :: Ω :=
  OpT.newB (C := fun c => Row (List.replicate n.toNat (Dat.z (α := α))) c) rfl fun A a w _ _ hl => by
    have h0 := posI_some h0'
    obtain ⟨-, h1', hm'⟩ := room_some hr
    obtain ⟨m, rfl⟩ := Int.eq_ofNat_of_zero_le (show 0 ≤ n by omega)
    have h1 : m * bt ≤ 140737488355328 := by rw [← Int.natCast_mul] at h1'; omega
    have hm : m ≤ 140737488351232 := by omega
    simp only [Int.toNat_natCast, List.length_replicate]
    obtain ⟨ti, z, hi1, hi2, hi3, hi4, hi5⟩ := T.h
    have e1 : a.eval s = .slice none 0 0 := Has.ev (x := s) (τ := NilS) (op := .call { callee := .builtin .append, args := #[s, x], argTypes := #[t, u] }) (by simp [Op.operands, Call.operands]) hl
    have e2 : a.eval x = .int .i64 m := k.le _ _ _ (Has.ev (x := x) (τ := σ) (op := .call { callee := .builtin .append, args := #[s, x], argTypes := #[t, u] }) (by simp [Op.operands, Call.operands]) hl)
    have hsz := Dat.pos (α := α)
    have hw : IntKind.i64.wrap (m : Int) = m := wrap64_in (by omega) (by omega)
    have n0 : ¬ m = 0 := by omega
    have n1 : ¬ (m : Int) < 0 := by omega
    have hb : (m : Int) * (ti.bytes : Int) ≤ 281474976710656 := by
      rw [hi4]
      have h2 : ((m * bt : Nat) : Int) ≤ 140737488355328 := by omega
      rw [Int.natCast_mul] at h2
      omega
    have n2 : ¬ (281474976710656 < (m : Int) * (ti.bytes : Int)) := by omega
    have n3 : ¬ ((9223372036854775807 : Int) < (m : Int)) := by omega
    have n4 : ¬ (281474976710656 < Builtin.nextslicecap m 0 * ti.bytes) := by rw [nextslicecap_zero (by omega), hi4]; omega
    have n5 : ¬ m * Dat.sz α = 0 := by intro h; rcases Nat.mul_eq_zero.1 h with h | h <;> omega
    have ge := grownCap_ge w m 0 e
    have cm := grownCap_le_maxLen w m 0 e (by unfold maxLen; omega)
    have hrun : (execOp a.eval ⟨some d, .call { callee := .builtin .append, args := #[s, x], argTypes := #[t, u] }, ty, pos, aft, none⟩).run P w =
        .ok (.value (.slice (some ⟨w.heap.size, 0, none⟩) m (grownCap w m 0 e))) (w.drew.alloc (.cells (Builtin.zeroCells z.cells m ++ Builtin.zeroCells z.cells (grownCap w m 0 e - m)) e)) := by
      simp [execOp, resolve, invoke, builtin, e1, e2, Builtin.append_, run_underlying S.h, run_underlying U.h, sizeOf, typeInfo, zeroValue, hi1, hi2, hi3, asInt, asIntOf, hw, n0, n1, n2, n3, n4, n5, Question.forced, Builtin.firstCells, newRow, grownCap]
    generalize grownCap w m 0 e = gc at *
    refine ⟨gc, _, w.drawn + 1, (Builtin.zeroCells z.cells m ++ Builtin.zeroCells z.cells (gc - m)).toList, e, ?_, fun _ _ => .inl ⟨trivial, ⟨ge, cm⟩, rfl⟩, Row.zeros hi5 ge cm (by unfold most; omega)⟩
    rw [hrun, Array.toArray_toList]; rfl
end am
section ts
variable {P : Program} {r : Ref} {n : Nat} {ops : Array Oper} {k : Nat} {rest : List Oper} {Γ : Env} {Ω : List Pe} {Q : Exit → Act → World → Prop}
variable {t e u ty : TypeId} {d : Tmp} {pos : String} {aft : Array Edge} {α : Type} {i : Dat α} {bt : Nat}
theorem TS.appMake [op : Opens r] [S : TSl P t e] [T : TEl P e α i bt] [U : TIn P u .i64] {s x : Operand} {σ : Ty} {q : Int} {v v' : Unit} [hs : Has Γ s NilS] [hx : Has Γ x σ] [kx : AsI σ q] (hr : room bt q = some v) (h0 : posI q = some v') (hd : Nat.blt d n = true)
    (hk : ∀ b c, TS P r n ops rest (k + 1) (Γ.set d (Sl b True 0 (List.replicate q.toNat (Dat.z (α := α))).length c)) (⟨b, True, Row (List.replicate q.toNat (Dat.z (α := α))) c⟩ :: Ω) Q) :
    TS P r n ops (⟨some d, .call { callee := .builtin .append, args := #[s, x], argTypes := #[t, u] }, ty, pos, aft, none⟩ :: rest) k Γ Ω Q :=
  TS.t (OpT.appMake hr h0) hd fun g => hk g.1 g.2
/-- a private row that is not there -/
theorem TS.nilE (b : Nat) (α : Type) [i : Dat α] (h : TS P r n ops rest k Γ (⟨b, False, Row ([] : List α) 0⟩ :: Ω) Q) : TS P r n ops rest k Γ Ω Q :=
  TS.weaken (Env.le.refl _) (Less.none fun h => h) h
/-- a nil slot as a private row that isn't there -/
theorem TS.nilRowB (b : Nat) (t : Tmp) (α : Type) [i : Dat α] [hp : Has Γ (.tmp t) NilS] (h : TS P r n ops rest k (Γ.set t (Sl b False 0 0 0)) (⟨b, False, Row ([] : List α) 0⟩ :: Ω) Q) : TS P r n ops rest k Γ Ω Q :=
  TS.weaken (Env.le_set (hp.at.trans (NilS.sl fun h => h)) (Env.le.refl _)) (Less.none fun h => h) h
/-- a zero box some of whose slices are rows that are not there -/
structure ZeroC (α : Type) (i : Dat α) (C : Ct) : Prop where
  h : ∀ {A : Nat → Prop} {w : World}, C.p A w (Dat.zc α)
theorem ZeroC.one : ZeroC α i (One (Dat.z : α)) := ⟨Dat.zrd⟩
theorem ZeroC.mix {C : Ct} {o b : Nat} (h : ZeroC α i C) (hz : (Dat.zc α)[o]? = some (.slice none 0 0)) : ZeroC α i (C.mix o (Sl b False 0 0 0)) := ⟨CtH.nil h.h hz⟩
theorem OpT.allocZ {B : Nat} {Ωs : List Pe} [T : TEl P t α i bt] {C : Ct} (hz : ZeroC α i C) : OpT P B Ωs Ω Γ ⟨some d, .alloc t, ty, pos, aft, none⟩ (fun g : Nat × Unit => Pt g.1 0) fun g => ⟨g.1, True, C⟩ :: Ω :=
  OpT.newB (C := fun _ => C) rfl fun A a w _ _ hl => by
    obtain ⟨ti, z, h1, h2, _, _, h3⟩ := T.h
    refine ⟨(), .pointer (some ⟨w.heap.size, 0, none⟩), w.drawn, Dat.zc α, t, ?_, fun _ _ => rfl, hz.h⟩
    simp [execOp, Instr.alloc, zeroValue, typeInfo, h1, h2, newVar, newRow, h3]
theorem TS.allocZ [op : Opens r] [T : TEl P t α i bt] {C : Ct} (hz : ZeroC α i C) (hd : Nat.blt d n = true)
    (hk : ∀ b, TS P r n ops rest (k + 1) (Γ.set d (Pt b 0)) (⟨b, True, C⟩ :: Ω) Q) : TS P r n ops (⟨some d, .alloc t, ty, pos, aft, none⟩ :: rest) k Γ Ω Q :=
  TS.t (OpT.allocZ hz) hd fun g => hk g.1
theorem OpY.buildZ {B0 : Nat} {A : Nat → Prop} {dst : Option Tmp} {gd : Option (Nat × Bool)} {parts : Array (Nat × Operand)} {ps : List (Nat × Operand)} {C0 C : Ct} [T : TEl P t α i bt] (hps : parts = ps.toArray) (hu : ∃ fs, P.underlying t = some (.struct fs) ∧ (fs.toList.mapM (fun f => (P.info? f.type).map fun i => (f.offset, i.size))).isSome = true)
    (hz : ZeroC α i C0) (h : PartsC P t Γ ps C0 C) : OpY P B0 A Ω Γ ⟨dst, .build t parts, ty, pos, aft, gd⟩ (VC C) :=
  OpY.val fun a w hl => by
    subst hps
    obtain ⟨fs, u1, u2⟩ := hu
    obtain ⟨places, u2⟩ := Option.isSome_iff_exists.1 u2
    obtain ⟨ti, z, i1, i2, i3, i4, i5⟩ := T.h
    obtain ⟨cs', r1, r2⟩ := h.h a A w (fun k hk => hl k (by simp only [Op.operands]; simpa using hk)) fs places _ u1 u2 hz.h
    refine ⟨.agg cs'.toArray, ?_, cs', r2, rfl⟩
    have hb : P.built t ((ps.toArray.map fun (i, x) => (i, a.eval x)).toList) = some cs'.toArray := by
      unfold Program.built
      rw [i1, u1]
      simp only [i2, u2, i5]
      simpa using r1
    simp only [execOp, Sem.run_bind, run_build w t _ cs'.toArray hb, Result.andThen_ok, Sem.run_pure]
/-- of a row only a first part -/
theorem TC.trim {c : Code} (b m : Nat) {pr : Prop} {c0 : Nat} {xs : List α} {Ωr : List Pe} [h : Pick Ω b pr (Row xs c0) Ωr] (hm : m ≤ xs.length) (hk : TC P r n Γ (⟨b, pr, Row (xs.take m) c0⟩ :: Ωr) c Q) : TC P r n Γ Ω c Q :=
  TC.less (Less.pkTake m hm rfl (Less.refl _)) hk
theorem TE.trim {e : Exit} (b m : Nat) {pr : Prop} {c0 : Nat} {xs : List α} {Ωr : List Pe} [h : Pick Ω b pr (Row xs c0) Ωr] (hm : m ≤ xs.length) (hk : TE r n Γ (⟨b, pr, Row (xs.take m) c0⟩ :: Ωr) Q e) : TE r n Γ Ω Q e :=
  TE.less (Less.pkTake m hm rfl (Less.refl _)) hk
end ts
/-! private results that are taken as data -/
theorem RetO.pub {A : Nat → Prop} {w : World} {ν : Type} {τ : ν → Ty} {σ : Ty} {Ω' : ν → List Pe} {e : Ending} {w' : World} (hA : ∀ k, w.heap.size ≤ k → A k)
    (hσ : ∀ g (A : Nat → Prop) w v, (∀ e ∈ Ω' g, e.pr → A e.b ∧ ∃ cs, Blk w e.b cs ∧ e.C.p A w cs) → (τ g).p A w v → σ.p A w v) (h : RetO A w [] τ Ω' e w') : Ret A w σ e w' := by
  obtain ⟨v, g, h1, h2⟩ := h
  refine ⟨v, h1, ⟨h2.st.os, h2.st.tape, h2.st.output, h2.st.size, fun k hk => h2.st.old k hk fun ⟨e, he, _⟩ => absurd he (by simp), fun k hk => h2.st.cells k hk fun ⟨e, he, _⟩ => absurd he (by simp)⟩, ?_⟩
  refine hσ g A w' v (fun e he hp => ?_) (Ty.keep _ (Keep.mono fun k _ hk => (Pub_own.1 hk).1) h2.ty)
  obtain ⟨cs, g1, g2⟩ := h2.ks e he hp
  refine ⟨?_, cs, g1, e.C.keep (Keep.mono fun k _ hk => (Pub_own.1 hk).1) g2⟩
  rcases h2.nw e.b ⟨e, he, hp, rfl⟩ with ⟨x, hx, _⟩ | h
  · exact absurd hx (by simp)
  · exact hA e.b h
inductive TupP (A : Nat → Prop) (w : World) : List Ty → List Ty → Prop
  | nil : TupP A w [] []
  | cons {τ σ : Ty} {τs σs : List Ty} (h : ∀ v, τ.p A w v → σ.p A w v) (k : TupP A w τs σs) : TupP A w (τ :: τs) (σ :: σs)
theorem TupP.len {A : Nat → Prop} {w : World} {τs σs : List Ty} (h : TupP A w τs σs) : τs.length = σs.length := by
  induction h with
  | nil => rfl
  | cons h k ih => simp [ih]
theorem TupP.at {A : Nat → Prop} {w : World} {τs σs : List Ty} (h : TupP A w τs σs) : ∀ i (hi : i < σs.length) (hi' : i < τs.length) v, (τs[i]).p A w v → (σs[i]).p A w v := by
  induction h with
  | nil => intro i hi; simp at hi
  | cons h k ih =>
    intro i hi hi' v hv
    cases i with
    | zero => exact h v hv
    | succ i => exact ih i (by simpa using hi) (by simpa using hi') v hv
theorem TupP.le {A : Nat → Prop} {w : World} {τs σs : List Ty} {v : Value} (h : TupP A w τs σs) (hv : (Tup τs).p A w v) : (Tup σs).p A w v := by
  obtain ⟨vs, h1, h2, h3⟩ := hv
  exact ⟨vs, h1, h2.trans h.len, fun i hi => h.at i hi (by rw [h.len]; exact hi) _ (h3 i (by rw [h.len]; exact hi))⟩
theorem VC.pub {α β : Type} {i : Dat α} {j : Dat β} {A : Nat → Prop} {w : World} {C : Ct} {o : Nat} {τ : Ty} {xs : List α} {y : β} {v : Value} (c : CtSet C o (List α) instList xs (One y)) (ha : Dat.agg β = true) (hτ : ∀ u, τ.p A w u → (D xs).p A w u) (h : (VC (C.mix o τ)).p A w v) : (D y).p A w v := by
  obtain ⟨cs, h1, rfl⟩ := h
  have h2 := c.coll (Keep.refl A w) hτ h1
  exact ⟨cs, h2, by simp [mkV, ha]⟩
/-! calls to which private rows are lent, and that give a row of flat elements -/
section lo
variable {P : Program} {B : Nat} {Ωs Ω : List Pe} {Γ : Env} {dst : Option Tmp} {ty : TypeId} {pos : String} {aft : Array Edge} {f : FuncId} {ts : Array TypeId} {α : Type} {i : Dat α}
theorem OpT.callLO1 {x1 : Operand} {τ1 σ1 : Ty} {xs : List α} [h1 : Has Γ x1 τ1] [F : Fun P f] [Fl : Flat α i] (bs : List Nat) (k1 : ArgB (Ωs ++ Ω) bs τ1 σ1)
    (h : ∀ {A : Nat → Prop} w v1, (∀ k, w.heap.size ≤ k → A k) → OwnIn A [] → Apart [] → Pks (Pub A []) [] w → σ1.p (Pub A []) w v1 → Calls P f #[v1] w (RetO A w [] (fun g : Nat × Prop × Nat => Sl g.1 g.2.1 0 xs.length g.2.2) fun g => [⟨g.1, g.2.1, Row xs g.2.2⟩])) :
    OpT P B Ωs Ω Γ ⟨dst, .call { callee := .value (.func f), args := #[x1], argTypes := ts }, ty, pos, aft, none⟩ (fun g : Nat × Prop × Nat => Sl g.1 g.2.1 0 xs.length g.2.2) fun g => ⟨g.1, g.2.1, Row xs g.2.2⟩ :: Ω := by
  refine OpT.frame (Ωt := []) (Ω' := fun g : Nat × Prop × Nat => [⟨g.1, g.2.1, Row xs g.2.2⟩]) (List.Perm.refl _) ⟨rfl, fun A0 a w hB hu ho ha hk hl => ?_⟩
  rw [List.append_nil] at ha hk hl
  have hlt : ∀ j, Own (Ωs ++ Ω) j → j < w.heap.size := fun j hj => hk.lt hj
  have hr : (execOp a.eval ⟨dst, .call { callee := .value (.func f), args := #[x1], argTypes := ts }, ty, pos, aft, none⟩).run P w = .ok (.enter f #[a.eval x1]) w := by
    have e1 : a.eval (.func f) = .func (.func f) #[] #[] := rfl
    simp only [execOp, resolve, Deferred.ofValue, e1, Sem.run_bind, Sem.run_pure, Result.andThen_ok, invoke, F.h, Array.append_empty, Array.empty_append, List.map_toArray, List.map_cons, List.map_nil]
  rw [hr]
  have e0 : ∀ A : Nat → Prop, Pub A [] = A := fun A => by funext k; exact propext ⟨fun h => h.1, fun h => ⟨h, fun e he => absurd he (by simp)⟩⟩
  have hc := h (A := Lent (Pub A0 (Ωs ++ Ω)) bs) w (a.eval x1) (fun k hk => .inl (Pub_own.2 ⟨hu k hk, fun hj => by have := hlt k hj; omega⟩)) ⟨fun k ⟨e, he, _⟩ => absurd he (by simp)⟩ List.Pairwise.nil (fun e he => absurd he (by simp)) (by
    rw [e0]
    exact k1 _ w _ hk (h1.le a _ w fun t e => hl t (by simp [Op.operands, Call.operands, e])))
  refine hc.mono fun e w' ⟨v, g, g1, g2⟩ => ⟨v, g, g1, g2.st.mono hB (fun _ h => h), fun k hk => ?_, ?_, g2.ty, fun e he hp => ?_⟩
  · rcases g2.nw k hk with ⟨e, he, _⟩ | h
    · exact absurd he (by simp)
    · exact .inr h
  · refine List.pairwise_append.2 ⟨ha, List.pairwise_singleton _ _, fun x hx y hy h3 h4 h5 => ?_⟩
    rcases g2.nw y.b ⟨y, hy, h4, rfl⟩ with ⟨z, hz, _⟩ | h6
    · exact absurd hz (by simp)
    · have := hlt x.b ⟨x, hx, h3, rfl⟩; omega
  · obtain ⟨cs, q1, q2⟩ := g2.ks e he hp
    refine ⟨cs, q1, ?_⟩
    obtain rfl := List.mem_singleton.1 he
    obtain ⟨r1, r2, r3, r4, r5⟩ := q2
    exact ⟨r1, r2, r3, r4, fun j hj => Fl.h (r5 j hj)⟩
end lo
/-- an element of a part of a row -/
theorem Pl.rowSub {α : Type} {i : Dat α} {xs : List α} {c k m : Nat} {j : Int} {x : α} (h : idx ((xs.drop k).take m) j = some x) : Pl (Row xs c) (0 + k * Dat.sz α + j.toNat * Dat.sz α) α i x fun y => Row (xs.set (k + j.toNat) y) c := by
  obtain ⟨h1, h2⟩ := idx_some h
  have h3 : idx xs ((k + j.toNat : Nat) : Int) = some x := by
    obtain ⟨g1, g2⟩ := List.getElem?_eq_some_iff.1 h2
    simp only [List.length_take, List.length_drop] at g1
    unfold idx
    rw [if_pos (by omega), Int.toNat_natCast, ← h2, List.getElem?_take_of_lt (by omega), List.getElem?_drop]
  have h4 := Pl.rowz (i := i) (c := c) h3
  rw [Int.toNat_natCast, Nat.add_mul, ← Nat.add_assoc] at h4
  exact h4
theorem idx_sv {α : Type} {xs : List α} {n : Nat} {k : Int} {x : α} (h : idx xs k = some x) (hn : n = xs.length) : 0 ≤ k ∧ k < n := by
  obtain ⟨h1, h2⟩ := idx_some h
  obtain ⟨g1, g2⟩ := List.getElem?_eq_some_iff.1 h2
  omega
theorem splice_over_len {α : Type} {l ys : List α} {k m : Nat} (h : k + m ≤ l.length) : (splice l k (over ((l.drop k).take m) ys)).length = l.length := by
  rw [splice_len (by omega), over_len, List.length_take, List.length_drop]; omega
theorem splice_rep_len {α : Type} {l : List α} {k m : Nat} {z : α} (h : k + m ≤ l.length) : (splice l k (List.replicate m z)).length = l.length := by
  rw [splice_len (by omega), List.length_replicate]; omega
/-! bits of numbers that are not below 0 -/
def andI (a b : Int) : Option Int := if 0 ≤ a ∧ 0 ≤ b then some ((a.toNat &&& b.toNat : Nat) : Int) else none
def orI (a b : Int) : Option Int := if 0 ≤ a ∧ 0 ≤ b then some ((a.toNat ||| b.toNat : Nat) : Int) else none
def xorI (a b : Int) : Option Int := if 0 ≤ a ∧ 0 ≤ b then some ((a.toNat ^^^ b.toNat : Nat) : Int) else none
def shrI (a s : Int) : Option Int := if 0 ≤ a ∧ 0 ≤ s then some (a / 2 ^ s.toNat) else none
def shlI (a s : Int) : Option Int := if 0 ≤ a ∧ 0 ≤ s ∧ s ≤ 62 ∧ a * 2 ^ s.toNat ≤ 9223372036854775807 then some (a * 2 ^ s.toNat) else none
section bi
variable {P : Program} {B0 : Nat} {A : Nat → Prop} {Ω : List Pe} {Γ : Env} {dst : Option Tmp} {ty : TypeId} {pos : String} {aft : Array Edge} {gd : Option (Nat × Bool)}
theorem OpD.andi {x y : Operand} {τ σ : Ty} {t u : TypeId} {m k z : Int} [hsx : Has Γ x τ] [hx : ToD τ Int inferInstance m] [hsy : Has Γ y σ] [hy : ToD σ Int inferInstance k] (h : andI m k = some z) :
    OpY P B0 A Ω Γ ⟨dst, .binOp .and t x y u, ty, pos, aft, gd⟩ (D z) := fun a w hB hu hp hl => by
  unfold andI at h; split at h
  · rename_i hc
    injection h with h; subst h
    obtain ⟨e1, e2, hm, hk⟩ := evD2 (x := x) (y := y) (τ := τ) (σ := σ) (t := t) (u := u) (m := m) (k := k) (A := A) (op := .and) hl
    unfold intIn at hm hk
    have h1 : m.toNat < 2 ^ 63 := by omega
    have h2 : k.toNat < 2 ^ 63 := by omega
    have h3 : m.toNat &&& k.toNat < 2 ^ 63 := Nat.and_lt_two_pow _ h2
    refine OpY.toD (I_D (by omega) (by omega)) (OpY.val fun a w hl => ⟨.int .i64 (m.toNat &&& k.toNat : Nat), ?_, rfl⟩) a w hB hu hp hl
    obtain ⟨e1, e2, -, -⟩ := evD2 (x := x) (y := y) (τ := τ) (σ := σ) (t := t) (u := u) (m := m) (k := k) (A := A) (op := .and) hl
    have e3 : IntKind.i64.wrap ((BitVec.ofInt IntKind.i64.bits m &&& BitVec.ofInt IntKind.i64.bits k).toNat : Int) = ((m.toNat &&& k.toNat : Nat) : Int) := by
      have g1 : (BitVec.ofInt IntKind.i64.bits m).toNat = m.toNat := by show (BitVec.ofInt 64 m).toNat = _; rw [BitVec.toNat_ofInt]; omega
      have g2 : (BitVec.ofInt IntKind.i64.bits k).toNat = k.toNat := by show (BitVec.ofInt 64 k).toNat = _; rw [BitVec.toNat_ofInt]; omega
      rw [BitVec.toNat_and, g1, g2]
      exact wrap64_in (by omega) (by omega)
    simp only [execOp, e1, e2, eqGuard_and, binOp_and, Op.intBits, Sem.run_bind, Sem.run_pure, Result.andThen_ok]
    exact congrArg (fun z => Result.ok (Next.value (Value.int .i64 z)) w) e3
  · cases h
theorem OpD.ori {x y : Operand} {τ σ : Ty} {t u : TypeId} {m k z : Int} [hsx : Has Γ x τ] [hx : ToD τ Int inferInstance m] [hsy : Has Γ y σ] [hy : ToD σ Int inferInstance k] (h : orI m k = some z) :
    OpY P B0 A Ω Γ ⟨dst, .binOp .or t x y u, ty, pos, aft, gd⟩ (D z) := fun a w hB hu hp hl => by
  unfold orI at h; split at h
  · rename_i hc
    injection h with h; subst h
    obtain ⟨e1, e2, hm, hk⟩ := evD2 (x := x) (y := y) (τ := τ) (σ := σ) (t := t) (u := u) (m := m) (k := k) (A := A) (op := .or) hl
    unfold intIn at hm hk
    have h1 : m.toNat < 2 ^ 63 := by omega
    have h2 : k.toNat < 2 ^ 63 := by omega
    have h3 : m.toNat ||| k.toNat < 2 ^ 63 := Nat.or_lt_two_pow h1 h2
    refine OpY.toD (I_D (by omega) (by omega)) (OpY.val fun a w hl => ⟨.int .i64 (m.toNat ||| k.toNat : Nat), ?_, rfl⟩) a w hB hu hp hl
    obtain ⟨e1, e2, -, -⟩ := evD2 (x := x) (y := y) (τ := τ) (σ := σ) (t := t) (u := u) (m := m) (k := k) (A := A) (op := .or) hl
    have e3 : IntKind.i64.wrap ((BitVec.ofInt IntKind.i64.bits m ||| BitVec.ofInt IntKind.i64.bits k).toNat : Int) = ((m.toNat ||| k.toNat : Nat) : Int) := by
      have g1 : (BitVec.ofInt IntKind.i64.bits m).toNat = m.toNat := by show (BitVec.ofInt 64 m).toNat = _; rw [BitVec.toNat_ofInt]; omega
      have g2 : (BitVec.ofInt IntKind.i64.bits k).toNat = k.toNat := by show (BitVec.ofInt 64 k).toNat = _; rw [BitVec.toNat_ofInt]; omega
      rw [BitVec.toNat_or, g1, g2]
      exact wrap64_in (by omega) (by omega)
    simp only [execOp, e1, e2, eqGuard_or, binOp_or, Op.intBits, Sem.run_bind, Sem.run_pure, Result.andThen_ok]
    exact congrArg (fun z => Result.ok (Next.value (Value.int .i64 z)) w) e3
  · cases h
theorem OpD.xori {x y : Operand} {τ σ : Ty} {t u : TypeId} {m k z : Int} [hsx : Has Γ x τ] [hx : ToD τ Int inferInstance m] [hsy : Has Γ y σ] [hy : ToD σ Int inferInstance k] (h : xorI m k = some z) :
    OpY P B0 A Ω Γ ⟨dst, .binOp .xor t x y u, ty, pos, aft, gd⟩ (D z) := fun a w hB hu hp hl => by
  unfold xorI at h; split at h
  · rename_i hc
    injection h with h; subst h
    obtain ⟨e1, e2, hm, hk⟩ := evD2 (x := x) (y := y) (τ := τ) (σ := σ) (t := t) (u := u) (m := m) (k := k) (A := A) (op := .xor) hl
    unfold intIn at hm hk
    have h1 : m.toNat < 2 ^ 63 := by omega
    have h2 : k.toNat < 2 ^ 63 := by omega
    have h3 : m.toNat ^^^ k.toNat < 2 ^ 63 := Nat.xor_lt_two_pow h1 h2
    refine OpY.toD (I_D (by omega) (by omega)) (OpY.val fun a w hl => ⟨.int .i64 (m.toNat ^^^ k.toNat : Nat), ?_, rfl⟩) a w hB hu hp hl
    obtain ⟨e1, e2, -, -⟩ := evD2 (x := x) (y := y) (τ := τ) (σ := σ) (t := t) (u := u) (m := m) (k := k) (A := A) (op := .xor) hl
    have e3 : IntKind.i64.wrap ((BitVec.ofInt IntKind.i64.bits m ^^^ BitVec.ofInt IntKind.i64.bits k).toNat : Int) = ((m.toNat ^^^ k.toNat : Nat) : Int) := by
      have g1 : (BitVec.ofInt IntKind.i64.bits m).toNat = m.toNat := by show (BitVec.ofInt 64 m).toNat = _; rw [BitVec.toNat_ofInt]; omega
      have g2 : (BitVec.ofInt IntKind.i64.bits k).toNat = k.toNat := by show (BitVec.ofInt 64 k).toNat = _; rw [BitVec.toNat_ofInt]; omega
      rw [BitVec.toNat_xor, g1, g2]
      exact wrap64_in (by omega) (by omega)
    simp only [execOp, e1, e2, eqGuard_xor, binOp_xor, Op.intBits, Sem.run_bind, Sem.run_pure, Result.andThen_ok]
    exact congrArg (fun z => Result.ok (Next.value (Value.int .i64 z)) w) e3
  · cases h
theorem OpD.shri {x y : Operand} {τ σ : Ty} {t u : TypeId} {m k z : Int} [hsx : Has Γ x τ] [hx : ToD τ Int inferInstance m] [hsy : Has Γ y σ] [hy : AsCnt σ k] (h : shrI m k = some z) :
    OpY P B0 A Ω Γ ⟨dst, .binOp .shr t x y u, ty, pos, aft, gd⟩ (D z) := fun a w hB hu hp hl => by
  unfold shrI at h; split at h
  · rename_i hc
    injection h with h; subst h
    have h1 := hx.le _ _ _ (Has.ev (x := x) (τ := τ) (op := .binOp .shr t x y u) (by simp [Op.operands]) hl)
    have hm := D.wf h1
    have hm : intIn m := hm
    unfold intIn at hm
    have hd0 : 0 ≤ m / 2 ^ k.toNat := Int.ediv_nonneg hc.1 (Int.pow_nonneg (by decide))
    have hd1 : m / 2 ^ k.toNat ≤ m := Int.ediv_le_self _ hc.1
    refine OpY.toD (I_D (by omega) (by omega)) (OpY.val fun a w hl => ⟨.int .i64 (m / 2 ^ k.toNat), ?_, rfl⟩) a w hB hu hp hl
    have e1 : a.eval x = .int .i64 m := D_I _ _ _ (hx.le _ _ _ (Has.ev (x := x) (τ := τ) (op := .binOp .shr t x y u) (by simp [Op.operands]) hl))
    obtain ⟨K, e2⟩ := hy.ex _ _ _ (Has.ev (x := y) (τ := σ) (op := .binOp .shr t x y u) (by simp [Op.operands]) hl)
    have e3 : m.fdiv ((2 : Int) ^ (Min.min k.toNat IntKind.i64.bits : Nat)) = m / 2 ^ k.toNat := by
      rw [Int.fdiv_eq_ediv_of_nonneg _ (Int.pow_nonneg (by decide))]
      rcases Nat.le_total k.toNat 64 with hs | hs
      · rw [show Min.min k.toNat IntKind.i64.bits = k.toNat from Nat.min_eq_left hs]
      · rw [show Min.min k.toNat IntKind.i64.bits = 64 from Nat.min_eq_right hs]
        have hp : (2 : Nat) ^ 64 ≤ 2 ^ k.toNat := Nat.pow_le_pow_right (by decide) hs
        have hp2 : (2 : Int) ^ 64 ≤ 2 ^ k.toNat := by exact_mod_cast hp
        rw [Int.ediv_eq_zero_of_lt hc.1 (by omega), Int.ediv_eq_zero_of_lt hc.1 (by omega)]
    simp only [execOp, e1, e2, eqGuard_shr, binOp_shr, Op.shift]
    rw [if_neg (by omega)]
    simp only [e3, Sem.run_bind, Sem.run_pure, Result.andThen_ok]
  · cases h
theorem OpD.shli {x y : Operand} {τ σ : Ty} {t u : TypeId} {m k z : Int} [hsx : Has Γ x τ] [hx : ToD τ Int inferInstance m] [hsy : Has Γ y σ] [hy : AsCnt σ k] (h : shlI m k = some z) :
    OpY P B0 A Ω Γ ⟨dst, .binOp .shl t x y u, ty, pos, aft, gd⟩ (D z) := fun a w hB hu hp hl => by
  unfold shlI at h; split at h
  · rename_i hc
    injection h with h; subst h
    have hd0 : 0 ≤ m * 2 ^ k.toNat := Int.mul_nonneg hc.1 (Int.pow_nonneg (by decide))
    refine OpY.toD (I_D (by omega) (by omega)) (OpY.val fun a w hl => ⟨.int .i64 (m * 2 ^ k.toNat), ?_, rfl⟩) a w hB hu hp hl
    have e1 : a.eval x = .int .i64 m := D_I _ _ _ (hx.le _ _ _ (Has.ev (x := x) (τ := τ) (op := .binOp .shl t x y u) (by simp [Op.operands]) hl))
    obtain ⟨K, e2⟩ := hy.ex _ _ _ (Has.ev (x := y) (τ := σ) (op := .binOp .shl t x y u) (by simp [Op.operands]) hl)
    have e3 : IntKind.i64.wrap (m * (2 : Int) ^ (Min.min k.toNat IntKind.i64.bits : Nat)) = m * 2 ^ k.toNat := by
      rw [show Min.min k.toNat IntKind.i64.bits = k.toNat from Nat.min_eq_left (show k.toNat ≤ 64 by omega)]
      exact wrap64_in (by omega) (by omega)
    simp only [execOp, e1, e2, eqGuard_shl, binOp_shl, Op.shift]
    rw [if_neg (by omega)]
    simp only [e3, Sem.run_bind, Sem.run_pure, Result.andThen_ok]
  · cases h
end bi
section cv
variable {P : Program} {B0 : Nat} {A : Nat → Prop} {Ω : List Pe} {Γ : Env} {dst : Option Tmp} {ty : TypeId} {pos : String} {aft : Array Edge} {gd : Option (Nat × Bool)} {e : TypeId}
/-- a private row's bytes as a string -/
theorem OpY.convSrc {s d : TypeId} [S : TSl P s e] [E : TIn P e .u8] [T : TStr P d] {x : Operand} {τ : Ty} {xs : List UInt8} [hx : Has Γ x τ] (hs : SrcOf Ω τ UInt8 inferInstance xs) :
    OpY P B0 A Ω Γ ⟨dst, .convert s d x, ty, pos, aft, gd⟩ (Str xs) := fun a w hB hu hp hl => by
  obtain ⟨ad, c, e1, h4⟩ := hs.h hp (Has.ev (x := x) (τ := τ) (op := .convert s d x) (by simp [Op.operands]) hl)
  have hrun : (execOp a.eval ⟨dst, .convert s d x, ty, pos, aft, gd⟩).run P w = .ok (.value (.string ⟨xs.toArray⟩)) w := by
    simp only [execOp, e1, Sem.run_bind, run_convert_bytes_string w s d e ad xs.length c S.h E.h T.h]
    have : (Conv.bytesToString (.slice ad xs.length c)).run P w = .ok (.string ⟨xs.toArray⟩) w := by
      rcases Nat.eq_zero_or_pos xs.length with h0 | h0
      · have hx0 : xs = [] := List.eq_nil_of_length_eq_zero h0
        subst hx0
        cases ad with
        | none => simp [Conv.bytesToString]; rfl
        | some ad => 
          have := run_bytesToString (P := P) w ad 0 c [] (by simp [loadCells, loadCellsFrom])
          simp only [List.foldl_nil] at this
          exact this
      · obtain ⟨b, off, news, rfl, hl', hr, he⟩ := h4 h0
        have hn : news = xs.map fun x => Value.int .u8 (x.toNat : Int) := by
          have hsz : Dat.sz UInt8 = 1 := rfl
          refine getD_ext (by rw [hl', hsz]; simp) fun j hj => ?_
          rw [hl', hsz] at hj
          have h6 := he j (by omega)
          have h6 : seg news (j * 1) 1 = [.int .u8 (xs[j]'(by omega)).toNat] := h6
          have h7 := seg_getD (cs := news) (o := j * 1) (n := 1) (j := 0) (by omega)
          rw [h6] at h7
          simp only [Nat.mul_one, Nat.add_zero] at h7
          rw [← h7]
          simp [List.getD_eq_getElem?_getD, List.getElem?_eq_getElem (show j < xs.length by omega)]
        have h8 := run_loadCells (P := P) hr
        rw [hl', show Dat.sz UInt8 = 1 from rfl, Nat.mul_one, hn] at h8
        have h9 := run_bytesToString (P := P) w ⟨b, off, none⟩ xs.length c (xs.map fun x : UInt8 => (x.toNat : Int)) (by rw [h8]; simp [List.map_map, Function.comp_def])
        rw [h9]
        have := fold_push xs []
        simp only [List.nil_append] at this
        rw [← this]; rfl
    rw [this]; rfl
  rw [hrun]
  exact ⟨Grow.refl _ _, rfl⟩
end cv
end Go.Proofs.Ytfdmajkeihdhnaa.Tr
