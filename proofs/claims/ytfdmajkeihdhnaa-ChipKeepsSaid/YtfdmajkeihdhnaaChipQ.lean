/- The law ChipKeeps, its steps. Conditions: none. -/
import Derived.Test.YtfdmajkeihdhnaaChipO
namespace Go.Proofs.Ytfdmajkeihdhnaa.Tr
open Go
set_option linter.unusedVariables false
set_option linter.unusedSimpArgs false

theorem pg_set {c : Chip} {k : Nat} {b : Block} (hk : k < c.Blocks.length) (a z : Int) (o : Int) (f : Bool) (l : List Fault) (n j : Nat) :
    pg ⟨a, z, c.Blocks.set k b, o, f, l⟩ n j = if n = k then b.Pages[j]? else pg c n j := by
  unfold pg
  dsimp only
  by_cases h : n = k
  · subst h; rw [if_pos rfl, List.getElem?_set_self hk]; rfl
  · rw [if_neg h, List.getElem?_set_ne (Ne.symm h)]
/-- a page is programmed -/
theorem keeps_prog {i : Nat} (hi : i < 1000) {c : Chip} {sure : Vec (Vec Bool 4) 3} {has : Vec (Vec UInt8 4) 3} (inv : KInv i c sure has) {n : Nat} (hn : n < 3) (hnl : n < c.Blocks.length) {q : Nat} (hq : c.Blocks[n].Used = (q : Int)) (hq4 : q < 4) (b : UInt8)
    {xs : Vec Bool 4} {xh : Vec UInt8 4} (es : sure.l[n]? = some xs) (eh : has.l[n]? = some xh) (r : Chip × Int) (hr : ProgV c n q [b, b, b, b, b] = r) :
    c.Ops ≤ r.1.Ops ∧ r.1.Ops ≤ c.Ops + 1 ∧ (c.Off = true → KInv (i + 1) r.1 sure has ∧ r.1 = c) ∧ (c.Off = false → KInv (i + 1) r.1 (Vec.set sure n (Vec.set xs q (decide (r.2 = 0)))) (Vec.set has n (Vec.set xh q b))) := by
  obtain ⟨h1, h2, h3, h4, h5, h6, h7, h8, h9, h10⟩ := cRight_spec inv.right
  obtain ⟨b1, b2, b3, b4, b5, b6⟩ := h10 _ (List.getElem_mem hnl)
  have hR := prog_right hnl q [b, b, b, b, b] inv.right
  have hp4 := inv.pages
  have hoff : c.Off = true → r.1 = c := fun h => by rw [← hr]; exact prog_off _ _ _ h
  rcases prog_cases hnl q [b, b, b, b, b] inv.right with ⟨g, g'⟩ | ⟨g1, g2, g3, g4, g5, g6, g⟩
  · rw [hr] at g g'
    refine ⟨by rw [g]; omega, by rw [g]; omega, fun _ => ⟨by rw [g]; exact inv.next, g⟩, fun _ => ?_⟩
    rw [g, decide_eq_false g']
    refine { inv.next with is := fun m j h e1 e2 => ?_ }
    rw [vv_set sure _ hn hq4 es] at e1
    rw [vv_set has _ hn hq4 eh] at e2
    by_cases hmj : m = n ∧ j = q
    · rw [if_pos hmj] at e1; cases e1
    · rw [if_neg hmj] at e1 e2; exact inv.is m j h e1 e2
  · rw [hr] at g hR
    have hqn : Int.toNat (q : Int) = q := rfl
    rw [hqn] at g
    have ho := inv.ops
    refine ⟨by rw [g]; dsimp only; omega, by rw [g]; dsimp only; omega, fun h => ⟨by rw [hoff h]; exact inv.next, hoff h⟩, fun hof => ?_⟩
    refine ⟨hR, by rw [g]; simpa using inv.len, by rw [g]; exact inv.pages, by rw [g]; exact inv.size, by rw [g]; dsimp only; omega, fun x hx => ?_, fun m j h e1 e2 => ?_⟩
    · rw [g] at hx
      rcases mem_set hx with hx | rfl
      · exact ⟨(inv.bl x hx).1, by have := (inv.bl x hx).2; omega⟩
      · have := inv.bl _ (List.getElem_mem hnl)
        exact ⟨g1, by dsimp only; omega⟩
    · rw [vv_set sure _ hn hq4 es] at e1
      rw [vv_set has _ hn hq4 eh] at e2
      rw [g, pg_set hnl]
      by_cases hmj : m = n ∧ j = q
      · obtain ⟨rfl, rfl⟩ := hmj
        rw [if_pos ⟨rfl, rfl⟩] at e1 e2
        have hz : r.2 = 0 := by simpa using e1
        have hm : maskOf (strikeV c) [b, b, b, b, b] = [b, b, b, b, b] := by
          rw [g] at hz
          unfold maskOf
          cases hst : (strikeV c).2 with
          | false => rfl
          | true => exfalso; simp only [hst, if_true] at hz; split at hz <;> cases hz
        rw [if_pos rfl, hm]
        dsimp only
        rw [List.getElem?_set_self (by omega)]
        obtain rfl := Option.some.inj e2
        rfl
      · rw [if_neg hmj] at e1 e2
        have := inv.is m j h e1 e2
        by_cases hm : m = n
        · subst hm
          have hj : j ≠ q := fun e => hmj ⟨rfl, e⟩
          rw [if_pos rfl]
          dsimp only
          rw [List.getElem?_set_ne (Ne.symm hj)]
          unfold pg at this
          rw [List.getElem?_eq_getElem hnl] at this
          exact this
        · rw [if_neg hm]; exact this
/-- one row set whole, up to k -/
def rowTo {α : Type} [Inhabited α] (v : Vec (Vec α 4) 3) (n : Nat) (y : α) : Nat → Vec (Vec α 4) 3
  | 0 => v
  | k + 1 => Vec.set (rowTo v n y k) n (Vec.set (((rowTo v n y k).l[n]?).getD (Vec.rep 4 default)) k y)
theorem rowTo_vv {α : Type} [Inhabited α] (v : Vec (Vec α 4) 3) {n : Nat} (hn : n < 3) (y : α) : ∀ k, k ≤ 4 → ∀ m j, vv (rowTo v n y k) m j = if m = n ∧ j < k then some y else vv v m j
  | 0, _, m, j => by rw [if_neg (by omega)]; rfl
  | k + 1, h, m, j => by
    obtain ⟨x, e1, e2⟩ := vv_row (rowTo v n y k) hn
    show vv (Vec.set (rowTo v n y k) n (Vec.set (((rowTo v n y k).l[n]?).getD (Vec.rep 4 default)) k y)) m j = _
    rw [e2, Option.getD_some, vv_set _ _ hn (by omega) e2, rowTo_vv v hn y k (by omega)]
    by_cases h1 : m = n ∧ j = k
    · rw [if_pos h1, if_pos (by omega)]
    · rw [if_neg h1]
      by_cases h2 : m = n ∧ j < k
      · rw [if_pos h2, if_pos (by omega)]
      · rw [if_neg h2, if_neg (by omega)]
theorem keeps_l3 {n : Nat} (hn : n < 3) (r : Chip × Int) (sure : Vec (Vec Bool 4) 3) (has : Vec (Vec UInt8 4) 3) :
    loopO (fun s => bywaylaw06_ChipKeeps_l3 (n : Int) r s.1 s.2.1 s.2.2) ((0 : Int), sure, has) = some (rowTo sure n (decide (r.2 = 0)) 4, rowTo has n 255 4) := by
  refine loopO_iter (fun k => ((k : Int), rowTo sure n (decide (r.2 = 0)) k, rowTo has n 255 k)) 4 (by omega) (fun k hk => ?_) ?_ rfl
  · unfold bywaylaw06_ChipKeeps_l3
    dsimp only
    obtain ⟨xs, e1, e2⟩ := vv_row (rowTo sure n (decide (r.2 = 0)) k) hn
    obtain ⟨ys, e3, e4⟩ := vv_at (rowTo sure n (decide (r.2 = 0)) k) hk e2
    obtain ⟨xh, e5, e6⟩ := vv_row (rowTo has n 255 k) hn
    obtain ⟨yh, e7, e8⟩ := vv_at (rowTo has n 255 k) hk e6
    rw [show decide ((k : Int) < (4 : Int)) = true from lt_t (n := 4) hk, cond_t, e1, bind_s, e3, bind_s, e5, bind_s, e7, bind_s, bind_s, bind_s, addI_1 (by omega), bind_s]
    show _ = some (Sum.inl (((k + 1 : Nat) : Int), Vec.set (rowTo sure n (decide (r.2 = 0)) k) n (Vec.set (((rowTo sure n (decide (r.2 = 0)) k).l[n]?).getD (Vec.rep 4 default)) k (decide (r.2 = 0))), Vec.set (rowTo has n 255 k) n (Vec.set (((rowTo has n 255 k).l[n]?).getD (Vec.rep 4 default)) k 255)))
    rw [e2, e6]
    rfl
  · unfold bywaylaw06_ChipKeeps_l3
    dsimp only
    rw [show decide (((4 : Nat) : Int) < (4 : Int)) = false from lt_f (n := 4), cond_f]
/-- a block is erased -/
theorem keeps_erase {i : Nat} (hi : i < 1000) {c : Chip} {sure : Vec (Vec Bool 4) 3} {has : Vec (Vec UInt8 4) 3} (inv : KInv i c sure has) {n : Nat} (hn : n < 3) (hnl : n < c.Blocks.length) (r : Chip × Int) (hr : EraseV c n = r) :
    c.Ops ≤ r.1.Ops ∧ r.1.Ops ≤ c.Ops + 1 ∧ (c.Off = true → KInv (i + 1) r.1 sure has ∧ r.1 = c) ∧ (c.Off = false → (∃ y, idx r.1.Blocks (n : Int) = some y ∧ y.Worn = c.Blocks[n].Worn + 1) ∧ KInv (i + 1) r.1 (rowTo sure n (decide (r.2 = 0)) 4) (rowTo has n 255 4)) := by
  obtain ⟨h1, h2, h3, h4, h5, h6, h7, h8, h9, h10⟩ := cRight_spec inv.right
  obtain ⟨b1, b2, b3, b4, b5, b6⟩ := h10 _ (List.getElem_mem hnl)
  have hR := erase_right hnl inv.right
  rw [hr] at hR
  have hp4 := inv.pages
  have hs5 := inv.size
  have ho := inv.ops
  obtain ⟨hbad, hworn⟩ := inv.bl _ (List.getElem_mem hnl)
  cases hof : c.Off with
  | true =>
    have h : r.1 = c := by rw [← hr]; exact erase_off _ hof
    exact ⟨by rw [h]; omega, by rw [h]; omega, fun _ => ⟨by rw [h]; exact inv.next, h⟩, fun h => by cases h⟩
  | false =>
    have g : r = (⟨c.Pages, c.Size, c.Blocks.set n ⟨c.Blocks[n].Pages.map (eraseP (strikeV c)), if (strikeV c).2 then c.Pages else 0, c.Blocks[n].Worn + 1, c.Blocks[n].Bad⟩, c.Ops + 1, if (strikeV c).2 then (strikeV c).1.Cut else c.Off, c.Faults⟩,
        if (strikeV c).2 then (if (strikeV c).1.Cut then 7 else 9) else 0) := by
      rw [← hr]
      unfold EraseV
      have hh : hasB c n = true := by unfold hasB; simp [inv.right]; omega
      rw [if_pos ⟨hh, by omega⟩, show Int.toNat (n : Int) = n from rfl, List.getElem?_eq_getElem hnl]
      dsimp only
      rw [if_neg (by omega), hof, if_neg (by decide), hbad, if_neg (by decide)]
    refine ⟨by rw [g]; dsimp only; omega, by rw [g]; dsimp only; omega, fun h => (by cases h), fun _ => ⟨⟨⟨c.Blocks[n].Pages.map (eraseP (strikeV c)), if (strikeV c).2 then c.Pages else 0, c.Blocks[n].Worn + 1, c.Blocks[n].Bad⟩, by rw [g]; dsimp only; rw [idx_set' hnl, if_pos rfl], rfl⟩, ?_⟩⟩
    refine ⟨hR, by rw [g]; simpa using inv.len, by rw [g]; exact inv.pages, by rw [g]; exact inv.size, by rw [g]; dsimp only; omega, fun x hx => ?_, fun m j h e1 e2 => ?_⟩
    · rw [g] at hx
      rcases mem_set hx with hx | rfl
      · exact ⟨(inv.bl x hx).1, by have := (inv.bl x hx).2; omega⟩
      · exact ⟨hbad, by dsimp only; omega⟩
    · rw [rowTo_vv _ hn _ 4 (by omega)] at e1 e2
      rw [g, pg_set hnl]
      by_cases hmj : m = n ∧ j < 4
      · obtain ⟨rfl, hj⟩ := hmj
        rw [if_pos ⟨rfl, hj⟩] at e1 e2
        have hz : r.2 = 0 := by simpa using e1
        have hst : (strikeV c).2 = false := by
          rw [g] at hz
          cases hst : (strikeV c).2 with
          | false => rfl
          | true => exfalso; simp only [hst, if_true] at hz; split at hz <;> cases hz
        have hjl : j < c.Blocks[m].Pages.length := by omega
        have hl := b6 _ (List.getElem_mem hjl)
        rw [if_pos rfl]
        dsimp only
        rw [List.getElem?_map, List.getElem?_eq_getElem hjl]
        obtain rfl := Option.some.inj e2
        show some (eraseP (strikeV c) c.Blocks[m].Pages[j]) = _
        unfold eraseP
        rw [hst, if_neg (by decide), show c.Blocks[m].Pages[j].length = 5 by omega]
      · rw [if_neg hmj] at e1 e2
        have := inv.is m j h e1 e2
        by_cases hm : m = n
        · subst hm
          exfalso
          unfold vv at e1
          cases hx : sure.l[m]? with
          | none => rw [hx] at e1; cases e1
          | some x =>
            rw [hx, Option.bind_some] at e1
            have := (List.getElem?_eq_some_iff.1 e1).1
            rw [x.h] at this
            exact hmj ⟨rfl, this⟩
        · rw [if_neg hm]; exact this
end Go.Proofs.Ytfdmajkeihdhnaa.Tr
