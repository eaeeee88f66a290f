/- From what a row's arguments read as to the logic's data, and from a law's contract to the row. Conditions: none. -/
import Derived.Test.YtfdmajkeihdhnaaRows
import Derived.Test.YtfdmajkeihdhnaaTab
import Derived.SizedLaws
import Derived.ProofKit
import Derived.OpenShut
import Derived.Carry
import Derived.ChangeOld
import Derived.Deep.Slices
namespace Go.Proofs.Ytfdmajkeihdhnaa.Tr
open Go Go.RowKit Go.ChangeShapes Go.WideShapes Go.ChangeAt
set_option linter.unusedVariables false
set_option linter.unnecessarySimpa false

theorem cells?_row {w : World} {base : Nat} {a : Addr} {n : Nat} {cs : List Value} (h : w.cells? base a n = some cs) (hn : 0 < n) : a.spot = none ∧ cs.length = n ∧ rowAt w a.block a.off cs := by
  obtain ⟨-, hl, hc⟩ := World.cells?_some h
  obtain ⟨b, off, sp⟩ := a
  have hsp : sp = none := by
    have h0 := hc 0 hn
    rw [List.getElem?_eq_getElem (by omega)] at h0
    simpa [Addr.add] using World.cell?_spot h0
  subst hsp
  refine ⟨rfl, hl, fun j hj => ?_⟩
  have := hc j (by omega)
  rw [List.getElem?_eq_getElem hj] at this
  rw [List.getD_eq_getElem?_getD, List.getElem?_eq_getElem hj]
  rwa [addr_add] at this

/-- what reads as data of type t is data of α -/
class TOpen (P : Program) (t : TypeId) (α : outParam Type) (i : outParam (Dat α)) : Prop where
  h : ∀ {H : Type} {enc : TypeId × Value → H} {W : World} {base : Nat} {sp : Nat → Bool} {held : Bool} {fuel : Nat} {cs : List Value} {d : DataW H} {ps : List MemPlace},
    DataW.trod enc P W base sp held fuel t cs = some (d, ps) → (∀ n ∈ d.weights P t, n ≤ reachBytes) → ∃ x : α, Dat.rd (fun _ => True) W cs x
  s : ∀ {W : World} {base : Nat} {v : Value}, Value.okWide P W .any base t v → v = mkV α v.cells.toList

theorem reach_most : reachBytes ≤ most := by decide

theorem wf_u8 {n : Int} (h : (Lit.int .u8 n).wf = true) : 0 ≤ n ∧ n < 256 := by
  simp [Lit.wf, IntKind.bits, IntKind.signed, IntKind.min, IntKind.max] at h
  omega
theorem wf_u16 {n : Int} (h : (Lit.int .u16 n).wf = true) : 0 ≤ n ∧ n < 65536 := by
  simp [Lit.wf, IntKind.bits, IntKind.signed, IntKind.min, IntKind.max] at h
  omega
theorem wf_u32 {n : Int} (h : (Lit.int .u32 n).wf = true) : 0 ≤ n ∧ n < 4294967296 := by
  simp [Lit.wf, IntKind.bits, IntKind.signed, IntKind.min, IntKind.max] at h
  omega
theorem wf_u64 {n : Int} (h : (Lit.int .u64 n).wf = true) : 0 ≤ n ∧ n < 18446744073709551616 := by
  simp [Lit.wf, IntKind.bits, IntKind.signed, IntKind.min, IntKind.max] at h
  omega
theorem wf_i64 {n : Int} (h : (Lit.int .i64 n).wf = true) : intIn n := by
  simp [Lit.wf, IntKind.bits, IntKind.signed, IntKind.min, IntKind.max] at h
  unfold intIn
  omega

theorem topen_i64 {P : Program} {t : TypeId} (ht : P.underlying t = some (.int .i64)) : TOpen P t Int inferInstance where
  h hd _ := by
    obtain ⟨n, rfl, -, hw⟩ := DataW.trod_int ht hd
    exact ⟨n, rfl, wf_i64 hw⟩
  s hv := by obtain ⟨n, rfl⟩ := okWide_int ht hv; rfl
theorem topen_u8 {P : Program} {t : TypeId} (ht : P.underlying t = some (.int .u8)) : TOpen P t UInt8 inferInstance where
  h hd _ := by
    obtain ⟨n, rfl, -, hw⟩ := DataW.trod_int ht hd
    have := wf_u8 hw
    refine ⟨UInt8.ofNat n.toNat, ?_⟩
    show [Value.int .u8 n] = [.int .u8 _]
    rw [UInt8.toNat_ofNat_of_lt' (by show n.toNat < 256; omega), Int.toNat_of_nonneg this.1]
  s hv := by obtain ⟨n, rfl⟩ := okWide_int ht hv; rfl
theorem topen_u16 {P : Program} {t : TypeId} (ht : P.underlying t = some (.int .u16)) : TOpen P t UInt16 inferInstance where
  h hd _ := by
    obtain ⟨n, rfl, -, hw⟩ := DataW.trod_int ht hd
    have := wf_u16 hw
    refine ⟨UInt16.ofNat n.toNat, ?_⟩
    show [Value.int .u16 n] = [.int .u16 _]
    rw [UInt16.toNat_ofNat_of_lt' (by show n.toNat < 65536; omega), Int.toNat_of_nonneg this.1]
  s hv := by obtain ⟨n, rfl⟩ := okWide_int ht hv; rfl
theorem topen_u32 {P : Program} {t : TypeId} (ht : P.underlying t = some (.int .u32)) : TOpen P t UInt32 inferInstance where
  h hd _ := by
    obtain ⟨n, rfl, -, hw⟩ := DataW.trod_int ht hd
    have := wf_u32 hw
    refine ⟨UInt32.ofNat n.toNat, ?_⟩
    show [Value.int .u32 n] = [.int .u32 _]
    rw [UInt32.toNat_ofNat_of_lt' (by show n.toNat < 4294967296; omega), Int.toNat_of_nonneg this.1]
  s hv := by obtain ⟨n, rfl⟩ := okWide_int ht hv; rfl
theorem topen_u64 {P : Program} {t : TypeId} (ht : P.underlying t = some (.int .u64)) : TOpen P t UInt64 inferInstance where
  h hd _ := by
    obtain ⟨n, rfl, -, hw⟩ := DataW.trod_int ht hd
    have := wf_u64 hw
    refine ⟨UInt64.ofNat n.toNat, ?_⟩
    show [Value.int .u64 n] = [.int .u64 _]
    rw [UInt64.toNat_ofNat_of_lt' (by show n.toNat < 18446744073709551616; omega), Int.toNat_of_nonneg this.1]
  s hv := by obtain ⟨n, rfl⟩ := okWide_int ht hv; rfl
theorem topen_bool {P : Program} {t : TypeId} (ht : P.underlying t = some .bool) : TOpen P t Bool inferInstance where
  h hd _ := by
    obtain ⟨b, rfl, -⟩ := DataW.trod_bool ht hd
    exact ⟨b, rfl⟩
  s hv := by obtain ⟨n, rfl⟩ := okWide_bool ht hv; rfl

theorem weightsAll_mem {H : Type} {P : Program} {e : TypeId} {d : DataW H} {n : Nat} (hn : n ∈ d.weights P e) : ∀ {l : List (DataW H)}, d ∈ l → n ∈ DataW.weightsAll P e l
  | [], h => by cases h
  | x :: r, h => by
    simp only [DataW.weightsAll, List.mem_append]
    rcases List.mem_cons.1 h with rfl | h
    · exact .inl hn
    · exact .inr (weightsAll_mem hn h)

theorem topen_list {P : Program} {t e : TypeId} {α : Type} {i : Dat α} (ht : P.underlying t = some (.slice e)) (hc : P.cellsOf e = Dat.sz α) (hb : 1 ≤ P.bytesOf e) [k : TOpen P e α i] : TOpen P t (List α) inferInstance where
  h {H enc W base sp held fuel cs d ps} hd hw := by
    rcases Go.Deep.open_slice ht hd with ⟨rfl, -⟩ | ⟨a, len, cap, m, n, Df, Pl, rfl, -, h1, h2, hm, hx, hel⟩
    · exact ⟨[], none, 0, rfl, Nat.le_refl _, Nat.zero_le _, Nat.zero_le _, fun i hi => absurd hi (by simp)⟩
    · have hlm : len ≤ m := by rw [hm]; split <;> omega
      injection hx with hx1 hx2
      subst hx1
      have hwt : ∀ i, i < len → ∀ n ∈ (Df i).weights P e, n ≤ reachBytes := fun i hi n hn => by
        refine hw n ?_
        simp only [DataW.weights, ht]
        refine List.mem_cons_of_mem _ (List.mem_append_left _ ?_)
        exact weightsAll_mem hn (List.mem_map.2 ⟨i, by simpa using hi, rfl⟩)
      have hlen : len ≤ most := by
        have := hw ((((List.range len).map Df).length + ((List.range (m - len)).map fun j => Df (len + j)).length) * P.bytesOf e) (by simp only [DataW.weights, ht]; exact List.mem_cons_self ..)
        simp only [List.length_map, List.length_range] at this
        have h3 : len ≤ (len + (m - len)) * P.bytesOf e := Nat.le_trans (Nat.le_add_right _ _) (Nat.le_mul_of_pos_right _ hb)
        exact Nat.le_trans (Nat.le_trans h3 this) reach_most
      have hx : ∀ i : Fin len, ∃ x : α, ∃ es, W.cells? base (a.add (i.1 * P.cellsOf e)) (P.cellsOf e) = some es ∧ Dat.rd (fun _ => True) W es x := fun i => by
        obtain ⟨cs', g1, g2⟩ := hel i.1 (Nat.lt_of_lt_of_le i.2 hlm)
        obtain ⟨x, hx⟩ := k.h g2 (hwt i.1 i.2)
        exact ⟨x, cs', g1, hx⟩
      refine ⟨List.ofFn fun i => Classical.choose (hx i), some a, cap, by simp, by simpa using h1, h2, by simpa using hlen, fun i hi => ?_⟩
      have hi' : i < len := by simpa using hi
      obtain ⟨es, g1, g2⟩ := Classical.choose_spec (hx ⟨i, hi'⟩)
      have hpos : 0 < P.cellsOf e := by rw [hc]; exact Dat.pos
      obtain ⟨-, q2, q3⟩ := cells?_row g1 hpos
      obtain ⟨cs0, g0, -⟩ := hel 0 (by omega)
      rw [Nat.zero_mul] at g0
      obtain ⟨q1, -, -⟩ := cells?_row g0 hpos
      refine ⟨a.block, a.off, ?_, trivial, es, ?_, by simpa using g2⟩
      · obtain ⟨b, off, s⟩ := a
        obtain rfl : s = none := q1
        rfl
      · obtain ⟨b, off, s⟩ := a
        obtain rfl : s = none := q1
        rw [hc] at q3
        rw [addr_add] at q3
        exact q3
  s hv := by obtain ⟨a, l, c, rfl⟩ := okWide_slice ht hv; rfl

theorem weightsEach_mem {H : Type} {P : Program} : ∀ {ts : List TypeId} {ds : List (DataW H)} {j : Nat} {t : TypeId} {d : DataW H} {n : Nat}, ts[j]? = some t → ds[j]? = some d → n ∈ d.weights P t → n ∈ DataW.weightsEach P ts ds
  | [], _, _, _, _, _, h, _, _ => by simp at h
  | _ :: _, [], _, _, _, _, _, h, _ => by simp at h
  | t :: ts, d :: ds, 0, _, _, n, h1, h2, h3 => by
    obtain rfl : t = _ := by simpa using h1
    obtain rfl : d = _ := by simpa using h2
    simp only [DataW.weightsEach, List.mem_append]; exact .inl h3
  | t :: ts, d :: ds, j + 1, _, _, n, h1, h2, h3 => by
    simp only [DataW.weightsEach, List.mem_append]; exact .inr (weightsEach_mem (j := j) (by simpa using h1) (by simpa using h2) h3)

/-- what reads as fields is data -/
class TOpF (P : Program) (fs : List Field) (o : Nat) (α : Type) (i : Dat α) : Prop where
  h : ∀ {H : Type} {enc : TypeId × Value → H} {W : World} {base : Nat} {sp : Nat → Bool} {held : Bool} {fuel : Nat} {cs : List Value} {xs : List (DataW H × List MemPlace)},
    cs.length = o + Dat.sz α → (∀ (j : Nat) (f : Field), fs[j]? = some f → DataW.trod enc P W base sp held fuel f.type ((cs.drop f.offset).take (P.cellsOf f.type)) = xs[j]?) →
    xs.length = fs.length → (∀ n ∈ DataW.weightsEach P (fs.map (·.type)) (xs.map (·.1)), n ≤ reachBytes) → ∃ x : α, Dat.rd (fun _ => True) W (cs.drop o) x

theorem topf_one {P : Program} {f : Field} {α : Type} {i : Dat α} {o : Nat} {t : TypeId} (k : TOpen P t α i) (hc : P.cellsOf t = Dat.sz α) (ht : f.type = t) (ho : f.offset = o) : TOpF P [f] o α i where
  h {H enc W base sp held fuel cs xs} hl hx hn hw := by
    subst ht
    match xs, hn with
    | [x], _ =>
      have h0 := hx 0 f rfl
      rw [hc, ho] at h0
      have e : (cs.drop o).take (Dat.sz α) = cs.drop o := List.take_of_length_le (by rw [List.length_drop, hl]; omega)
      rw [e] at h0
      exact k.h h0 fun n hn => hw n (weightsEach_mem (j := 0) rfl rfl hn)

theorem topf_cons {P : Program} {f : Field} {fs : List Field} {α β : Type} {i : Dat α} {j : Dat β} {o o' : Nat} {t : TypeId} (k : TOpen P t α i) (hc : P.cellsOf t = Dat.sz α) (ht : f.type = t) (ho : f.offset = o) (ho' : o' = o + Dat.sz α) (r : TOpF P fs o' β j) : TOpF P (f :: fs) o (α × β) instProd where
  h {H enc W base sp held fuel cs xs} hl hx hn hw := by
    subst ht
    subst ho'
    match xs, hn with
    | x :: xs', hn =>
      have h0 := hx 0 f rfl
      rw [hc, ho] at h0
      obtain ⟨a, ha⟩ := k.h h0 fun n hn => hw n (weightsEach_mem (j := 0) rfl rfl hn)
      have hl' : cs.length = o + Dat.sz α + Dat.sz β := by
        have : Dat.sz (α × β) = Dat.sz α + Dat.sz β := rfl
        omega
      obtain ⟨b, hb⟩ := r.h hl' (fun q g hg => hx (q + 1) g hg) (by simpa using hn) fun n hn => hw n (by
        simp only [List.map_cons, DataW.weightsEach, List.mem_append]; exact .inr hn)
      refine ⟨(a, b), ?_, ?_, ?_⟩
      · rw [List.length_drop, hl']; omega
      · show Dat.rd _ W (seg (cs.drop o) 0 (Dat.sz α)) a
        simpa [seg] using ha
      · show Dat.rd _ W (seg (cs.drop o) (Dat.sz α) (Dat.sz β)) b
        have e : seg (cs.drop o) (Dat.sz α) (Dat.sz β) = cs.drop (o + Dat.sz α) := by
          simp only [seg, List.drop_drop]
          exact List.take_of_length_le (by rw [List.length_drop, hl']; omega)
        rw [e]; exact hb

theorem topen_struct {P : Program} {t : TypeId} {fs : Array Field} {α : Type} {i : Dat α} {β : Type} {j : Dat β} (f : α → β) (g : β → α) (hfg : ∀ y, f (g y) = y) (hi : i = Dat.iso f g hfg) (ht : P.underlying t = some (.struct fs)) (ha : Dat.agg β = true) (hc : P.cellsOf t = Dat.sz β) (k : TOpF P fs.toList 0 β j) : TOpen P t α i where
  h {H enc W base sp held fuel cs d ps} hd hw := by
    obtain ⟨xs, n, rfl, hx, hl, hn, hel⟩ := DataW.trod_struct ht hd
    injection hx with hx1 hx2
    subst hx1
    obtain ⟨y, hy⟩ := k.h (by rw [hl, hc]; omega) (fun q f hf => hel q f (by simpa using hf)) (by simpa using hn) (fun n hn => hw n (by simp only [DataW.weights, ht]; exact hn))
    subst hi
    refine ⟨g y, ?_⟩
    show Dat.rd _ W cs (f (g y))
    rw [hfg]
    simpa using hy
  s {W base v} hv := by
    simp only [Value.okWide, ht] at hv
    obtain ⟨cs, rfl, -⟩ := hv
    subst hi
    show _ = @mkV α (Dat.iso f g hfg) _
    have : @Dat.agg α (Dat.iso f g hfg) = true := ha
    simp [mkV, this, Value.cells]

theorem topen_vec {P : Program} {t e : TypeId} {n : Nat} {α : Type} {i : Dat α} [hn : BoolIs (Nat.ble 1 n) true] (ht : P.underlying t = some (.array n e)) (hc : P.cellsOf e = Dat.sz α) (hct : P.cellsOf t = n * Dat.sz α) [k : TOpen P e α i] : TOpen P t (Vec α n) instVec where
  h {H enc W base sp held fuel cs d ps} hd hw := by
    obtain ⟨xs, m, rfl, hx, hl, hm, hel⟩ := DataW.trod_array ht hd
    injection hx with hx1 hx2
    subst hx1
    have hx : ∀ q : Fin n, ∃ x : α, Dat.rd (fun _ => True) W (seg cs (q.1 * Dat.sz α) (Dat.sz α)) x := fun q => by
      have h1 := hel q.1 q.2
      rw [hc, List.getElem?_eq_getElem (by rw [hm]; exact q.2)] at h1
      refine k.h h1 fun w hwn => hw w ?_
      simp only [DataW.weights, ht]
      exact weightsAll_mem hwn (List.mem_map.2 ⟨_, List.getElem_mem _, rfl⟩)
    refine ⟨⟨List.ofFn fun q => Classical.choose (hx q), by simp⟩, by rw [hl, hct], fun q hq => ?_⟩
    have hq' : q < n := by simpa using hq
    have := Classical.choose_spec (hx ⟨q, hq'⟩)
    simpa using this
  s {W base v} hv := by
    simp only [Value.okWide, ht] at hv
    obtain ⟨cs, rfl, -⟩ := hv
    rfl

/-- an argument as a slot's type -/
theorem top_open {P : Program} {t : TypeId} {α : Type} {i : Dat α} [k : TOpen P t α i] {H : Type} {enc : TypeId × Value → H} {W : World} {base b0 : Nat} {sp : Nat → Bool} {held : Bool} {v : Value} {d : DataW H} {ps : List MemPlace}
    (h : DataW.Trod enc P W base sp held t v d ps) (hv : Value.okWide P W .any b0 t v) (hw : ∀ n ∈ d.weights P t, n ≤ reachBytes) : ∃ x : α, (D x).p (fun _ => True) W v := by
  obtain ⟨fuel, hf⟩ := h
  obtain ⟨x, hx⟩ := k.h hf hw
  exact ⟨x, _, hx, k.s hv⟩

theorem trodAll_stays {H : Type} {enc : TypeId × Value → H} {P : Program} (hl : laidOutB P = true) {W W' : World} (hb : Below W.heap.size W W') : ∀ {ts : List TypeId} {vs : List Value} {ds : List (DataW H)} {ps : List MemPlace},
    (∀ t ∈ ts, P.readableRec t = true ∧ t < P.types.size) → DataW.TrodAll enc P W 0 (fun _ => true) true ts vs ds ps → DataW.TrodAll enc P W' 0 (fun b => decide (b < W.heap.size)) true ts vs ds ps
  | [], vs, ds, ps, _, h => by obtain ⟨rfl, rfl, rfl⟩ := trodAll_nil h; exact trodAll_mk0
  | t :: ts, vs, ds, ps, hr, h => by
    obtain ⟨v, vs', d, ds', p, q, rfl, rfl, rfl, h1, h2⟩ := trodAll_cons h
    have hlt : ∀ x ∈ p, x.block < W.heap.size := by obtain ⟨m, hm⟩ := h1; exact DataW.trod_lt m _ _ _ hm
    exact trodAll_cons_mk (Below.trod hl (hr t (List.mem_cons_self ..)).1 (hr t (List.mem_cons_self ..)).2 h1 hb hlt) (trodAll_stays hl hb (fun u hu => hr u (List.mem_cons_of_mem _ hu)) h2)

/-- a law's contract carried to what the row asks -/
theorem law_post {H : Type} {enc : TypeId × Value → H} {P : Program} {f : Func} {s : ChangeSpec} {tb : TypeId} (hl : laidOutB P = true) (hb : P.underlying tb = some .bool) (hres : f.resultTypes = #[tb]) (hvars : s.vars = [])
    (hr : ∀ t ∈ f.params.toList, P.readableRec t = true ∧ t < P.types.size) {W W' : World} {args : Array Value} {ds gs : List (DataW H)} {before : List MemPlace} {e : Ending}
    (hs : s.fn H ds = { results := [.lit (.bool true)], args := ds })
    (hW : DataW.Whole enc P f.params.toList s.vars false W args.toList ds gs before) (h : Ret (fun _ => True) W (D true) e W') : ∃ v, e = .returned v ∧ s.post enc P f false true false false W args v W' := by
  obtain ⟨v, rfl, hg, hv⟩ := h
  obtain rfl : v = .bool true := by
    have := D_one rfl hv
    simpa [Dat.rd] using this
  have hW' := hW
  obtain ⟨p, q, hA, hV, rfl, -, -⟩ := hW
  rw [hvars] at hV
  obtain ⟨rfl, rfl⟩ := trodVars_none hV
  refine ⟨_, rfl, ds, [], p ++ [], [], p, [], hW', ?_, ?_, ?_, hg.below.frame _, fun h => by cases h⟩
  · rw [List.append_nil, hs, hres]
    exact trodAll_mk1 (shut_bool hb _)
  · rw [List.append_nil, hs]
    exact trodAll_stays hl hg.below hr hA
  · rw [List.append_nil, hs, hvars]
    rfl
end Go.Proofs.Ytfdmajkeihdhnaa.Tr
