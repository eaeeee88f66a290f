/- The laws of the cache, in plain Lean: the model. Conditions: none. -/
import Derived.Test.YtjnlpphnaldjeaaCacheV
namespace Go.Proofs.Ytjnlpphnaldjeaa.Tr
open Go
set_option linter.unusedVariables false
set_option linter.unusedSimpArgs false

theorem vset_getD {α : Type} [Inhabited α] {v : Vec α 256} {k : Nat} (hk : k < 256) (x d : α) (b : Nat) : (Vec.set v k x).l.getD b d = if b = k then x else v.l.getD b d := by
  have := v.h
  simp only [Vec.set, List.getD_eq_getElem?_getD]
  by_cases e : b = k
  · subst e; rw [List.getElem?_set_self (by omega), if_pos rfl]; rfl
  · rw [List.getElem?_set_ne (fun h => e h.symm), if_neg e]
theorem vset_upd {v : Vec Int 256} {k : Nat} (hk : k < 256) (x : Int) : (fun b => (Vec.set v k x).l.getD b 0) = upd (fun b => v.l.getD b 0) k x := by
  funext b; rw [vset_getD hk]; rfl
structure MI (m : Nat) (i : Int) (k : Kept) (vals : Vec UInt8 256) (used : Vec Int 256) : Prop where
  kr : KR k
  most : k.Most = m
  oi : OI i (k.Items.map (·.Id)) fun b => used.l.getD b 0
  val : ∀ x ∈ k.Items, x.Body = [vals.l.getD x.Id.toNat 0]
theorem MI.kw {m : Nat} {i : Int} {k : Kept} {vals : Vec UInt8 256} {used : Vec Int 256} (h : MI m i k vals used) : KW k.Items :=
  ⟨by have := h.kr.1; omega, fun x hx => by rw [h.val x hx]; simp⟩
theorem MI.tail {m : Nat} {i : Nat} (hi : i < 150) {k : Kept} {vals : Vec UInt8 256} {used : Vec Int 256} (h : MI m ((i : Int) + 1) k vals used) :
    ((loopO (fun s => bywaylaw13_CacheModel_l3 used s.1 s.2) ((0 : Int), (0 : Int))).bind fun many_65 => (cache_Ids k).bind fun x_75 => (gb (!(decide ((x_75.length : Int) ≠ many_65))) (cache_Right k)).bind fun x_76 => bif ((decide ((x_75.length : Int) ≠ many_65)) || (!x_76)) then (some (.inr (.inr false))) else ((addI (i : Int) (1 : Int)).bind fun x_78 => some (.inl (x_78, k, vals, used)))) =
      (some (.inl (((i + 1 : Nat) : Int), k, vals, used)) : Option ((Int × Kept × (Vec UInt8 256) × (Vec Int 256)) ⊕ (Unit ⊕ Bool))) := by
  rw [model_many, bind_s, (ids_eq k).1 h.kr, bind_s, h.oi.cnt, show decide (((k.Items.map (·.Id)).length : Int) ≠ ((k.Items.map (·.Id)).length : Int)) = false by simp, Bool.not_false, gb_true, right_eq, bind_s, decide_eq_true h.kr, Bool.not_true, Bool.false_or, cond_f, addI_nat (by omega), bind_s]
/-- forgetting -/
theorem MI.forget {m : Nat} {i : Nat} {k : Kept} {vals : Vec UInt8 256} {used : Vec Int 256} (h : MI m i k vals used) (b : UInt8) : MI m ((i : Int) + 1) ⟨k.Most, without k.Items (b.toNat : Int)⟩ vals (Vec.set used b.toNat 0) where
  kr := by
    obtain ⟨⟨h1, h2, h3⟩, h4⟩ := h.kr
    obtain ⟨h5, h6⟩ := kok_iff.1 h4
    have := without_len (l := k.Items) (id := (b.toNat : Int))
    refine ⟨⟨h1, h2, by simp only; omega⟩, kok_iff.2 ⟨fun x hx => h5 x (List.mem_filter.1 hx).1, ?_⟩⟩
    simp only
    rw [without_ids]
    exact h6.sublist List.filter_sublist
  most := h.most
  oi := by
    rw [vset_upd b.toNat_lt]
    simp only
    rw [without_ids]
    exact (h.oi.forget (by omega) b.toNat).mono (by omega)
  val x hx := h.val x (List.mem_filter.1 hx).1
theorem upd_upd {u : Nat → Int} {b : Nat} {x y : Int} : upd (upd u b x) b y = upd u b y := by
  funext c; unfold upd; split <;> rfl
theorem KOk.of_oi {l : List Item} {i : Int} {u : Nat → Int} (h : OI i (l.map (·.Id)) u) : KOk l :=
  kok_iff.2 ⟨fun x hx => (h.rng x.Id (List.mem_map.2 ⟨x, hx, rfl⟩)).1, h.nodup⟩
theorem without_not {l : List Item} {id : Int} : id ∉ (without l id).map (·.Id) := by rw [without_ids]; simp
/-- looking -/
theorem MI.look {m : Nat} {i : Nat} {k : Kept} {vals : Vec UInt8 256} {used : Vec Int 256} (h : MI m i k vals used) (b : UInt8) {j : Nat} (hj : j < k.Items.length) (hid : k.Items[j].Id = (b.toNat : Int)) :
    MI m ((i : Int) + 1) ⟨k.Most, without k.Items (b.toNat : Int) ++ [k.Items[j]]⟩ vals (Vec.set used b.toNat ((i : Int) + 1)) := by
  have hf := h.oi.forget (by omega) b.toNat
  rw [← without_ids] at hf
  have hp := hf.push (by omega) b.toNat_lt without_not
  rw [upd_upd] at hp
  have hlen : (without k.Items (b.toNat : Int)).length = k.Items.length - 1 := by
    have h1 := filter_len (b := (b.toNat : Int)) h.oi.nodup (List.mem_map.2 ⟨_, List.getElem_mem hj, hid⟩)
    rw [← without_ids, List.length_map, List.length_map] at h1
    exact h1
  have hoi : OI ((i : Int) + 1) ((without k.Items (b.toNat : Int) ++ [k.Items[j]]).map (·.Id)) (upd (fun c => used.l.getD c 0) b.toNat ((i : Int) + 1)) := by
    rw [List.map_append]
    simp only [List.map_cons, List.map_nil, hid]
    exact hp
  obtain ⟨⟨h1, h2, h3⟩, h4⟩ := h.kr
  refine ⟨⟨⟨h1, h2, ?_⟩, KOk.of_oi hoi⟩, h.most, ?_, fun x hx => ?_⟩
  · simp only [List.length_append, List.length_singleton]; omega
  · rw [vset_upd b.toNat_lt]; exact hoi
  · rcases List.mem_append.1 hx with hx | hx
    · exact h.val x (List.mem_filter.1 hx).1
    · obtain rfl : x = k.Items[j] := by simpa using hx
      exact h.val _ (List.getElem_mem hj)
theorem keep_mem2 {k : Kept} {x y : Item} (h : y ∈ (keepS k x).Items) : (y ∈ k.Items ∧ y.Id ≠ x.Id) ∨ y = x := by
  unfold keepS at h
  simp only [List.mem_append, List.mem_singleton] at h
  rcases h with h | h
  · left
    have : y ∈ without k.Items x.Id := by
      split at h
      · exact List.mem_of_mem_drop h
      · exact h
    have := List.mem_filter.1 this
    exact ⟨this.1, by simpa using this.2⟩
  · exact .inr h
theorem MI.keepV {m : Nat} {i : Nat} {k : Kept} {vals : Vec UInt8 256} {used : Vec Int 256} (h : MI m i k vals used) (b v : UInt8) {y : Item} (hy : y ∈ (keepS k ⟨(b.toNat : Int), [v]⟩).Items) : y.Body = [(Vec.set vals b.toNat v).l.getD y.Id.toNat 0] := by
  rcases keep_mem2 hy with ⟨h1, h2⟩ | rfl
  · have hr := h.oi.rng y.Id (List.mem_map.2 ⟨y, h1, rfl⟩)
    simp only at h2
    rw [vset_getD b.toNat_lt, if_neg (by omega)]
    exact h.val y h1
  · rw [vset_getD b.toNat_lt, if_pos (by simp)]
theorem MI.keepA {m : Nat} {i : Nat} {k : Kept} {vals : Vec UInt8 256} {used : Vec Int 256} (h : MI m i k vals used) (b v : UInt8) (hc : (without k.Items (b.toNat : Int)).length ≠ m) :
    MI m ((i : Int) + 1) (keepS k ⟨(b.toNat : Int), [v]⟩) (Vec.set vals b.toNat v) (Vec.set used b.toNat ((i : Int) + 1)) := by
  have hf := h.oi.forget (by omega) b.toNat
  rw [← without_ids] at hf
  have hp := hf.push (by omega) b.toNat_lt without_not
  rw [upd_upd] at hp
  refine ⟨keep_KR h.kr (by simp), h.most, ?_, fun y hy => h.keepV b v hy⟩
  rw [vset_upd b.toNat_lt, keep_ids (m := m) h.most]
  unfold kid
  rw [← without_ids, List.length_map, if_neg hc]
  exact hp
theorem MI.keepB {m : Nat} {i : Nat} {k : Kept} {vals : Vec UInt8 256} {used : Vec Int 256} (h : MI m i k vals used) (hm : 1 ≤ m) (b v : UInt8) (hc : (without k.Items (b.toNat : Int)).length = m) {o : Int} (ho : Oldest used 256 o) :
    ∃ q : Nat, q < 256 ∧ o = q ∧ q ≠ b.toNat ∧ MI m ((i : Int) + 1) (keepS k ⟨(b.toNat : Int), [v]⟩) (Vec.set vals b.toNat v) (Vec.set (Vec.set used q 0) b.toNat ((i : Int) + 1)) := by
  have hlm : k.Items.length ≤ m := by have := h.kr.1.2.2; have := h.most; omega
  have hnb : (b.toNat : Int) ∉ k.Items.map (·.Id) := fun hb => by
    have h1 := filter_len h.oi.nodup hb
    rw [← without_ids, List.length_map, List.length_map, hc] at h1
    omega
  have hw : without k.Items (b.toNat : Int) = k.Items := without_none fun j hj e => hnb (List.mem_map.2 ⟨_, List.getElem_mem hj, e⟩)
  rw [hw] at hc
  cases hl : k.Items with
  | nil => rw [hl] at hc; simp at hc; omega
  | cons x t =>
    have hoi := h.oi
    rw [hl, List.map_cons] at hoi hnb
    have hox := hoi.first ho
    have hr := hoi.rng x.Id (List.mem_cons_self ..)
    have hd := hoi.drop (by omega)
    refine ⟨x.Id.toNat, by omega, by omega, fun e => hnb (by rw [show (b.toNat : Int) = x.Id by omega]; exact List.mem_cons_self ..), keep_KR h.kr (by simp), h.most, ?_, fun y hy => h.keepV b v hy⟩
    have hp := hd.push (by omega) b.toNat_lt (fun hb => hnb (List.mem_cons_of_mem _ hb))
    rw [vset_upd b.toNat_lt, vset_upd (show x.Id.toNat < 256 by omega), keep_ids (m := m) h.most]
    unfold kid
    rw [← without_ids, List.length_map, hw, if_pos hc, hl]
    exact hp
end Go.Proofs.Ytjnlpphnaldjeaa.Tr
