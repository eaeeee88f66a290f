/- The law ChipKeeps. Conditions: none. -/
import Derived.Test.YtfdmajkeihdhnaaChipN
namespace Go.Proofs.Ytfdmajkeihdhnaa.Tr
open Go
set_option linter.unusedVariables false
set_option linter.unusedSimpArgs false

/-- an entry of a table of three by four -/
def vv {α : Type} (v : Vec (Vec α 4) 3) (n k : Nat) : Option α := (v.l[n]?).bind fun x => x.l[k]?
theorem vv_row {α : Type} (v : Vec (Vec α 4) 3) {n : Nat} (hn : n < 3) : ∃ x, idx v.l (n : Int) = some x ∧ v.l[n]? = some x := by
  have : n < v.l.length := by rw [v.h]; exact hn
  exact ⟨v.l[n], idx_nat this, List.getElem?_eq_getElem this⟩
theorem vv_at {α : Type} (v : Vec (Vec α 4) 3) {n k : Nat} {x : Vec α 4} (hk : k < 4) (h : v.l[n]? = some x) : ∃ y, idx x.l (k : Int) = some y ∧ vv v n k = some y := by
  have : k < x.l.length := by rw [x.h]; exact hk
  exact ⟨x.l[k], idx_nat this, by unfold vv; rw [h]; exact List.getElem?_eq_getElem this⟩
theorem vv_set {α : Type} (v : Vec (Vec α 4) 3) {n k : Nat} {x : Vec α 4} (y : α) (hn : n < 3) (hk : k < 4) (h : v.l[n]? = some x) (m j : Nat) :
    vv (Vec.set v n (Vec.set x k y)) m j = if m = n ∧ j = k then some y else vv v m j := by
  unfold vv Vec.set
  dsimp only
  have h1 : n < v.l.length := by rw [v.h]; exact hn
  have h2 : k < x.l.length := by rw [x.h]; exact hk
  by_cases hm : m = n
  · subst hm
    rw [List.getElem?_set_self h1, h]
    by_cases hj : j = k
    · subst hj
      rw [if_pos ⟨rfl, rfl⟩]
      exact List.getElem?_set_self h2
    · rw [if_neg (fun e => hj e.2)]
      exact List.getElem?_set_ne (Ne.symm hj)
  · rw [if_neg (fun e => hm e.1), List.getElem?_set_ne (Ne.symm hm)]
def pg (c : Chip) (n k : Nat) : Option (List UInt8) := (c.Blocks[n]?).bind fun b => b.Pages[k]?
structure KInv (i : Nat) (c : Chip) (sure : Vec (Vec Bool 4) 3) (has : Vec (Vec UInt8 4) 3) : Prop where
  right : cRight c = true
  len : c.Blocks.length = 3
  pages : c.Pages = 4
  size : c.Size = 5
  ops : c.Ops ≤ i
  bl : ∀ b ∈ c.Blocks, b.Bad = false ∧ b.Worn ≤ i
  is : ∀ n k h, vv sure n k = some true → vv has n k = some h → pg c n k = some (List.replicate 5 h)
theorem KInv.next {i : Nat} {c : Chip} {sure : Vec (Vec Bool 4) 3} {has : Vec (Vec UInt8 4) 3} (h : KInv i c sure has) : KInv (i + 1) c sure has :=
  ⟨h.right, h.len, h.pages, h.size, by have := h.ops; omega, fun b hb => ⟨(h.bl b hb).1, by have := (h.bl b hb).2; omega⟩, h.is⟩
theorem prog_off {c : Chip} (n page : Int) (p : List UInt8) (h : c.Off = true) : (ProgV c n page p).1 = c := by
  unfold ProgV
  rw [h]
  simp only [if_true]
  split <;> rfl
theorem erase_off {c : Chip} (n : Int) (h : c.Off = true) : (EraseV c n).1 = c := by
  unfold EraseV
  rw [h]
  simp only [if_true]
  split
  · split
    · rfl
    · split <;> rfl
  · rfl
theorem keeps_l4 {i : Nat} {c : Chip} {sure : Vec (Vec Bool 4) 3} {has : Vec (Vec UInt8 4) 3} (inv : KInv i c sure has) {n : Nat} (hn : n < 3) :
    loopO (fun s => bywaylaw06_ChipKeeps_l4 (n : Int) c sure has s) (0 : Int) = some (.inl ()) := by
  obtain ⟨h1, h2, h3, h4, h5, h6, h7, h8, h9, h10⟩ := cRight_spec inv.right
  have hnl : n < c.Blocks.length := by rw [inv.len]; exact hn
  obtain ⟨b1, -, -, -, -, b6⟩ := h10 _ (List.getElem_mem hnl)
  have hp4 := inv.pages
  have hs5 := inv.size
  cases hoff : c.Off with
  | true =>
    refine loopO_iter (fun _ => (0 : Int)) 0 (by omega) (fun i hi => by omega) ?_ rfl
    unfold bywaylaw06_ChipKeeps_l4
    rw [hoff, Bool.not_true, Bool.and_false, cond_f]
  | false =>
    refine loopO_iter (fun i => (i : Int)) 4 (by omega) (fun k hk => ?_) ?_ rfl
    · unfold bywaylaw06_ChipKeeps_l4
      have hkl : k < c.Blocks[n].Pages.length := by omega
      have hlen := b6 _ (List.getElem_mem hkl)
      rw [show decide ((k : Int) < (4 : Int)) = true from lt_t (n := 4) hk, hoff, Bool.not_false, Bool.and_true, cond_t, read_eq inv.right hnl hkl, bind_s, hoff, if_neg (by decide)]
      dsimp only
      have hg : (!((decide ((0 : Int) ≠ (0 : Int))) || (decide ((c.Blocks[n].Pages[k].length : Int) ≠ (5 : Int))))) = true := by simp; omega
      obtain ⟨xs, e1, e2⟩ := vv_row sure hn
      obtain ⟨ys, e3, e4⟩ := vv_at sure hk e2
      obtain ⟨xh, e5, e6⟩ := vv_row has hn
      obtain ⟨yh, e7, e8⟩ := vv_at has hk e6
      rw [hg, gb_true, e1, bind_s, gb_true, e3, bind_s, Bool.true_and]
      cases ys with
      | false => simp only [gb_false, bind_s, Bool.false_and]; rw [cond_false (by simp; omega), addI_1 (by omega), bind_s]
      | true =>
        have hpg := inv.is n k yh e4 e8
        unfold pg at hpg
        rw [List.getElem?_eq_getElem hnl, Option.bind_some, List.getElem?_eq_getElem hkl] at hpg
        have hpg := Option.some.inj hpg
        rw [hpg, gb_true, show idx (List.replicate 5 yh) (0 : Int) = some yh by rfl, bind_s, gb_true, e5, bind_s, gb_true, e7, bind_s]
        rw [show ((true : Bool) && (!(decide (yh ≠ yh)))) = true by simp, gb_true, show idx (List.replicate 5 yh) (4 : Int) = some yh by rfl, bind_s, gb_true, bind_s, gb_true, e7, bind_s, cond_false (by simp), addI_1 (by omega), bind_s]
    · unfold bywaylaw06_ChipKeeps_l4
      rw [show decide (((4 : Nat) : Int) < (4 : Int)) = false from lt_f (n := 4), Bool.false_and, cond_f]
theorem keeps_tail {l0 : List bywaylaw06_Do} {i : Nat} (hi : i < l0.length) {j : Nat} {c c' : Chip} {sure : Vec (Vec Bool 4) 3} {has : Vec (Vec UInt8 4) 3} (hc : cRight c = true) (inv : KInv j c' sure has) {n : Nat} (hn : n < 3)
    (ho1 : c.Ops ≤ c'.Ops) (ho2 : c'.Ops ≤ c.Ops + 1) (hoff : c.Off = true → l0[i].Kind % (UInt8.ofNat 4) ≠ UInt8.ofNat 3 → c' = c) :
    ((gb c.Off (idx l0 (i : Int))).bind fun x_100 => (gb (c.Off && (decide ((x_100.Kind % (UInt8.ofNat 4)) ≠ (UInt8.ofNat 3)))) (bywayref06_Same c' c)).bind fun x_101 => (gb (!(((c.Off && (decide ((x_100.Kind % (UInt8.ofNat 4)) ≠ (UInt8.ofNat 3)))) && (!x_101)) || (decide (c'.Ops < c.Ops)))) (addI c.Ops (1 : Int))).bind fun x_102 => bif ((((c.Off && (decide ((x_100.Kind % (UInt8.ofNat 4)) ≠ (UInt8.ofNat 3)))) && (!x_101)) || (decide (c'.Ops < c.Ops))) || (decide (c'.Ops > x_102))) then (some (.inr false)) else ((loopO (fun s => bywaylaw06_ChipKeeps_l4 (n : Int) c' sure has s) (0 : Int)).bind fun o_105 => elS o_105 (fun _ => some (.inl (c', sure, has))) (fun q => some (.inr q)))) = (some (.inl (c', sure, has)) : Option ((Chip × Vec (Vec Bool 4) 3 × Vec (Vec UInt8 4) 3) ⊕ Bool)) := by
  obtain ⟨-, -, -, -, -, -, h7, h8, -, -⟩ := cRight_spec hc
  rw [keeps_l4 inv hn]
  have hadd : addI c.Ops (1 : Int) = some (c.Ops + 1) := addI_ok (by omega) (by omega)
  rw [gb_of2 (idx_nat hi), bind_s, hadd]
  have hlt : decide (c'.Ops < c.Ops) = false := by simp; omega
  have hgt : decide (c'.Ops > c.Ops + 1) = false := by simp; omega
  cases hco : c.Off with
  | false =>
    simp only [Bool.false_and, gb_false, bind_s, hlt, Bool.or_false, Bool.not_false, gb_true, hgt]
    rw [cond_f, elS_inl]
  | true =>
    simp only [cond_t, Bool.true_and]
    by_cases hk : l0[i].Kind % (UInt8.ofNat 4) ≠ UInt8.ofNat 3
    · obtain rfl := hoff hco hk
      rw [decide_eq_true hk, gb_true, same_self hc, bind_s]
      simp only [Bool.not_true, Bool.and_false, hlt, Bool.or_false, Bool.not_false, gb_true, bind_s, hgt]
      rw [cond_f, elS_inl]
    · simp only [decide_eq_false hk, gb_false, bind_s, Bool.false_and, hlt, Bool.or_false, Bool.not_false, gb_true, hgt]
      rw [cond_f, elS_inl]
theorem kind3 {x : UInt8} (h0 : ¬ x % (UInt8.ofNat 4) = UInt8.ofNat 0) (h1 : ¬ x % (UInt8.ofNat 4) = UInt8.ofNat 1) (h2 : ¬ x % (UInt8.ofNat 4) = UInt8.ofNat 2) : x % (UInt8.ofNat 4) = UInt8.ofNat 3 := by
  have hm : (x % (UInt8.ofNat 4)).toNat = x.toNat % 4 := UInt8.toNat_mod x _
  have key : ∀ k : UInt8, ¬ x % (UInt8.ofNat 4) = k → x.toNat % 4 ≠ k.toNat := fun k h e => h (UInt8.toNat_inj.1 (by rw [hm, e]))
  have g0 := key _ h0
  have g1 := key _ h1
  have g2 := key _ h2
  have e0 : (UInt8.ofNat 0).toNat = 0 := rfl
  have e1 : (UInt8.ofNat 1).toNat = 1 := rfl
  have e2 : (UInt8.ofNat 2).toNat = 2 := rfl
  have e3 : (UInt8.ofNat 3).toNat = 3 := rfl
  refine UInt8.toNat_inj.1 ?_
  rw [hm, e3]
  omega
end Go.Proofs.Ytfdmajkeihdhnaa.Tr
