/- The law ChipKeeps, whole. Conditions: none. -/
import Derived.Test.YtfdmajkeihdhnaaChipQ
namespace Go.Proofs.Ytfdmajkeihdhnaa.Tr
open Go
set_option linter.unusedVariables false
set_option linter.unusedSimpArgs false

theorem keeps_l2 (x : Int) (r : Chip × Int) (s : Vec (Vec Bool 4) 3) (h : Vec (Vec UInt8 4) 3) : (fun k => bywaylaw06_ChipKeeps_l2 x r s h k) = fun k => bywaylaw06_ChipKeeps_l4 x r.1 s h k := rfl
theorem keeps_step (faults0 : List Fault) (l0 : List bywaylaw06_Do) (hf : faults0.length ≤ 60) {i : Nat} (hi : i < l0.length) (hi100 : i < 100) {c : Chip} {sure : Vec (Vec Bool 4) 3} {has : Vec (Vec UInt8 4) 3} (inv : KInv i c sure has) :
    ∃ c' sure' has', bywaylaw06_ChipKeeps_l1 faults0 l0 (i : Int) c sure has = some (.inl (((i + 1 : Nat) : Int), c', sure', has')) ∧ KInv (i + 1) c' sure' has' := by
  obtain ⟨h1, h2, h3, h4, h5, h6, h7, h8, h9, h10⟩ := cRight_spec inv.right
  have hn : l0[i].Block.toNat % 3 < 3 := Nat.mod_lt _ (by omega)
  have hrem : remI (l0[i].Block.toNat : Int) (3 : Int) = some ((l0[i].Block.toNat % 3 : Nat) : Int) := remI_nat (b := 3) (by omega)
  generalize l0[i].Block.toNat % 3 = n at hn hrem
  have hnl : n < c.Blocks.length := by rw [inv.len]; exact hn
  obtain ⟨b1, b2, b3, b4, b5, b6⟩ := h10 _ (List.getElem_mem hnl)
  have hp4 := inv.pages
  have hs5 := inv.size
  have ho := inv.ops
  suffices hs : ∃ c' sure' has', KInv (i + 1) c' sure' has' ∧ ((bif (decide ((l0[i].Kind % (UInt8.ofNat 4)) = (UInt8.ofNat 0))) then (some (decide ((l0[i].Kind % (UInt8.ofNat 4)) = (UInt8.ofNat 0)))) else (some (decide ((l0[i].Kind % (UInt8.ofNat 4)) = (UInt8.ofNat 1))))).bind fun x_22 => bif x_22 then ((idx c.Blocks (n : Int)).bind fun x_24 => bif (decide (x_24.Used = (4 : Int))) then ((room 1 (5 : Int)).bind fun u_25 => (chip_Program c (n : Int) (3 : Int) (List.replicate (Int.toNat (5 : Int)) (Dat.z : UInt8))).bind fun r_26 => bif (decide (r_26.2 = (0 : Int))) then (some (.inr false)) else (some (.inl (c, sure, has)))) else ((idx l0 (i : Int)).bind fun x_30 => (idx l0 (i : Int)).bind fun x_31 => (idx l0 (i : Int)).bind fun x_32 => (idx l0 (i : Int)).bind fun x_33 => (idx l0 (i : Int)).bind fun x_34 => (some (([x_30.Byte, x_31.Byte, x_32.Byte, x_33.Byte, x_34.Byte] : List UInt8) : (List UInt8))).bind fun p_35 => (chip_Program c (n : Int) x_24.Used p_35).bind fun r_36 => (bif (!c.Off) then ((idx l0 (i : Int)).bind fun x_41 => (idx sure.l (n : Int)).bind fun x_42 => (idx x_42.l x_24.Used).bind fun x_43 => (idx has.l (n : Int)).bind fun x_44 => (idx x_44.l x_24.Used).bind fun x_45 => (some ((Vec.set sure (Int.toNat (n : Int)) (Vec.set x_42 (Int.toNat x_24.Used) (decide (r_36.2 = (0 : Int))))) : (Vec (Vec Bool 4) 3))).bind fun sure_46 => (some ((Vec.set has (Int.toNat (n : Int)) (Vec.set x_44 (Int.toNat x_24.Used) x_41.Byte)) : (Vec (Vec UInt8 4) 3))).bind fun has_47 => some (sure_46, has_47)) else (some (sure, has))).bind fun o_40 => el2 o_40 (fun sure_38 has_39 => (gb c.Off (idx l0 (i : Int))).bind fun x_48 => (gb (c.Off && (decide ((x_48.Kind % (UInt8.ofNat 4)) ≠ (UInt8.ofNat 3)))) (bywayref06_Same r_36.1 c)).bind fun x_49 => (gb (!(((c.Off && (decide ((x_48.Kind % (UInt8.ofNat 4)) ≠ (UInt8.ofNat 3)))) && (!x_49)) || (decide (r_36.1.Ops < c.Ops)))) (addI c.Ops (1 : Int))).bind fun x_50 => bif ((((c.Off && (decide ((x_48.Kind % (UInt8.ofNat 4)) ≠ (UInt8.ofNat 3)))) && (!x_49)) || (decide (r_36.1.Ops < c.Ops))) || (decide (r_36.1.Ops > x_50))) then (some (.inr false)) else ((loopO (fun s => bywaylaw06_ChipKeeps_l2 (n : Int) r_36 sure_38 has_39 s) (0 : Int)).bind fun o_53 => elS o_53 (fun _ => some (.inl (r_36.1, sure_38, has_39))) (fun q => some (.inr q)))))) else ((bif (decide ((l0[i].Kind % (UInt8.ofNat 4)) = (UInt8.ofNat 2))) then ((chip_Erase c (n : Int)).bind fun r_73 => (bif (!c.Off) then ((loopO (fun s => bywaylaw06_ChipKeeps_l3 (n : Int) r_73 s.1 s.2.1 s.2.2) ((0 : Int), sure, has)).bind fun o_80 => el2 o_80 (fun sure_78 has_79 => (idx r_73.1.Blocks (n : Int)).bind fun x_92 => (idx c.Blocks (n : Int)).bind fun x_93 => (addI x_93.Worn (1 : Int)).bind fun x_94 => bif (decide (x_92.Worn ≠ x_94)) then (some (.inr false)) else (some (.inl (sure_78, has_79))))) else (some (.inl (sure, has)))).bind fun o_77 => elS o_77 (fun s => el2 s (fun sure_75 has_76 => some (.inl (r_73.1, sure_75, has_76)))) (fun q => some (.inr q))) else ((chip_On c faults0).bind fun r_99 => some (.inl (r_99.1, sure, has)))).bind fun o_72 => elS o_72 (fun s => el3 s (fun c_69 sure_70 has_71 => (gb c.Off (idx l0 (i : Int))).bind fun x_100 => (gb (c.Off && (decide ((x_100.Kind % (UInt8.ofNat 4)) ≠ (UInt8.ofNat 3)))) (bywayref06_Same c_69 c)).bind fun x_101 => (gb (!(((c.Off && (decide ((x_100.Kind % (UInt8.ofNat 4)) ≠ (UInt8.ofNat 3)))) && (!x_101)) || (decide (c_69.Ops < c.Ops)))) (addI c.Ops (1 : Int))).bind fun x_102 => bif ((((c.Off && (decide ((x_100.Kind % (UInt8.ofNat 4)) ≠ (UInt8.ofNat 3)))) && (!x_101)) || (decide (c_69.Ops < c.Ops))) || (decide (c_69.Ops > x_102))) then (some (.inr false)) else ((loopO (fun s => bywaylaw06_ChipKeeps_l4 (n : Int) c_69 sure_70 has_71 s) (0 : Int)).bind fun o_105 => elS o_105 (fun _ => some (.inl (c_69, sure_70, has_71))) (fun q => some (.inr q))))) (fun q => some (.inr q)))) = (some (.inl (c', sure', has')) : Option ((Chip × Vec (Vec Bool 4) 3 × Vec (Vec UInt8 4) 3) ⊕ Bool)) by
    obtain ⟨c', sure', has', hinv, e⟩ := hs
    refine ⟨c', sure', has', ?_, hinv⟩
    unfold bywaylaw06_ChipKeeps_l1
    rw [show (decide ((i : Int) < (l0.length : Int)) && decide ((i : Int) < (100 : Int))) = true by simp; omega, cond_t, idx_nat hi, bind_s, hrem, bind_s, bind_s]
    rw [idx_nat hi] at e
    rw [e, bind_s, elS_inl, el3_at, addI_1 (by omega), bind_s]
  cases hk : (decide ((l0[i].Kind % (UInt8.ofNat 4)) = (UInt8.ofNat 0)) || decide ((l0[i].Kind % (UInt8.ofNat 4)) = (UInt8.ofNat 1))) with
  | true =>
    have e22 : (bif (decide ((l0[i].Kind % (UInt8.ofNat 4)) = (UInt8.ofNat 0))) then (some (decide ((l0[i].Kind % (UInt8.ofNat 4)) = (UInt8.ofNat 0)))) else (some (decide ((l0[i].Kind % (UInt8.ofNat 4)) = (UInt8.ofNat 1))))) = some true := by
      cases h0 : decide ((l0[i].Kind % (UInt8.ofNat 4)) = (UInt8.ofNat 0)) with
      | true => rw [cond_t]
      | false => rw [h0, Bool.false_or] at hk; rw [cond_f, hk]
    rw [e22, bind_s, cond_t, idx_nat hnl, bind_s]
    by_cases hu : c.Blocks[n].Used = 4
    · refine ⟨c, sure, has, inv.next, ?_⟩
      rw [decide_eq_true hu, cond_t, room_ok (by omega) (by omega) (by omega), bind_s, prog_eq _ _ _ inv.right, bind_s]
      have hne : (ProgV c n 3 (List.replicate (Int.toNat (5 : Int)) (Dat.z : UInt8))).2 ≠ 0 := by
        rcases prog_cases hnl 3 (List.replicate (Int.toNat (5 : Int)) (Dat.z : UInt8)) inv.right with ⟨-, g⟩ | ⟨g1, g2, g3, g4, g5, g6, g⟩
        · exact g
        · exfalso; omega
      rw [decide_eq_false hne, cond_f]
    · rw [decide_eq_false hu, cond_f, idx_nat hi, bind_s, bind_s, bind_s, bind_s, bind_s, bind_s, prog_eq _ _ _ inv.right, bind_s]
      obtain ⟨q, hq⟩ := Int.eq_ofNat_of_zero_le b2
      have hq4 : q < 4 := by omega
      obtain ⟨xs, e1, e2⟩ := vv_row sure hn
      obtain ⟨ys, e3, e4⟩ := vv_at sure hq4 e2
      obtain ⟨xh, e5, e6⟩ := vv_row has hn
      obtain ⟨yh, e7, e8⟩ := vv_at has hq4 e6
      rw [hq]
      generalize hr : ProgV c n q [l0[i].Byte, l0[i].Byte, l0[i].Byte, l0[i].Byte, l0[i].Byte] = r
      obtain ⟨g1, g2, g3, g4⟩ := keeps_prog (by omega) inv hn hnl hq hq4 l0[i].Byte e2 e6 r hr
      have hi' : some l0[i] = idx l0 (i : Int) := (idx_nat hi).symm
      rcases Bool.eq_false_or_eq_true c.Off with hoff | hoff
      · obtain ⟨g5, g6⟩ := g3 hoff
        refine ⟨r.1, sure, has, g5, ?_⟩
        rw [show (!c.Off) = false by rw [hoff]; rfl, cond_f, bind_s, el2_at, hi', keeps_l2]
        exact keeps_tail hi inv.right g5 hn g1 g2 fun _ _ => g6
      · refine ⟨r.1, _, _, g4 hoff, ?_⟩
        rw [show (!c.Off) = true by rw [hoff]; rfl, cond_t, bind_s, e1, bind_s, e3, bind_s, e5, bind_s, e7, bind_s, bind_s, bind_s, bind_s, el2_at, hi', keeps_l2]
        exact keeps_tail hi inv.right (g4 hoff) hn g1 g2 fun h _ => by rw [hoff] at h; cases h
  | false =>
    simp only [Bool.or_eq_false_iff] at hk
    obtain ⟨hk0, hk1⟩ := hk
    rw [hk0, cond_f, hk1, bind_s, cond_f]
    by_cases hk2 : (l0[i].Kind % (UInt8.ofNat 4)) = (UInt8.ofNat 2)
    · rw [decide_eq_true hk2, cond_t, erase_eq _ inv.right, bind_s]
      generalize hr : EraseV c n = r
      obtain ⟨g1, g2, g3, g4⟩ := keeps_erase (by omega) inv hn hnl r hr
      rcases Bool.eq_false_or_eq_true c.Off with hoff | hoff
      · obtain ⟨g5, g6⟩ := g3 hoff
        refine ⟨r.1, sure, has, g5, ?_⟩
        rw [show (!c.Off) = false by rw [hoff]; rfl, cond_f, bind_s, elS_inl, el2_at, bind_s, elS_inl, el3_at]
        exact keeps_tail hi inv.right g5 hn g1 g2 fun _ _ => g6
      · obtain ⟨⟨y, e1, e2⟩, g5⟩ := g4 hoff
        refine ⟨r.1, _, _, g5, ?_⟩
        rw [show (!c.Off) = true by rw [hoff]; rfl, cond_t, keeps_l3 hn, bind_s, el2_at, e1, bind_s, idx_nat hnl, bind_s, addI_ok (by omega) (by omega), bind_s, cond_false (by simp [e2]), bind_s, elS_inl, el2_at, bind_s, elS_inl, el3_at]
        exact keeps_tail hi inv.right g5 hn g1 g2 fun h _ => by rw [hoff] at h; cases h
    · rw [decide_eq_false hk2, cond_f, on_eq inv.right (by omega), bind_s, bind_s, elS_inl, el3_at]
      have hon : onV c faults0 = (⟨c.Pages, c.Size, c.Blocks, c.Ops, false, faults0⟩, 0) := by unfold onV; rw [if_pos (by omega)]
      have hR := on_right (f := faults0) inv.right
      rw [hon] at hR ⊢
      have inv' : KInv (i + 1) ⟨c.Pages, c.Size, c.Blocks, c.Ops, false, faults0⟩ sure has := ⟨hR, inv.len, inv.pages, inv.size, by dsimp only; omega, inv.next.bl, inv.is⟩
      refine ⟨_, sure, has, inv', ?_⟩
      exact keeps_tail hi inv.right inv' hn (by dsimp only; omega) (by dsimp only; omega) fun _ h => absurd (kind3 (of_decide_eq_false hk0) (of_decide_eq_false hk1) hk2) h
theorem chipKeeps_plain (faults0 : List Fault) (l0 : List bywaylaw06_Do) : bywaylaw06_ChipKeeps faults0 l0 = some true := by
  unfold bywaylaw06_ChipKeeps
  have hs : cSound (3 : Nat) (4 : Nat) (5 : Nat) = true := by decide
  have hnew : chip_New (3 : Int) (4 : Int) (5 : Int) = some (newChip 3 4 5, 0) := new_eq hs
  rw [chip_awake_eq, bind_s, Bool.not_true, cond_f, hnew, bind_s]
  dsimp only
  by_cases hf : faults0.length ≤ 60
  · rw [cond_false (by simp; omega), on_eq (new_right hs) (by omega), bind_s]
    have hon : onV (newChip 3 4 5) faults0 = (⟨4, 5, List.replicate 3 (newBlock 4 5), 0, false, faults0⟩, 0) := by unfold onV; rw [if_pos (by omega)]; rfl
    have hR := on_right (f := faults0) (new_right hs)
    rw [hon] at hR ⊢
    dsimp only at hR ⊢
    have inv0 : KInv 0 ⟨4, 5, List.replicate 3 (newBlock 4 5), 0, false, faults0⟩ Dat.z Dat.z := by
      refine ⟨hR, by simp, rfl, rfl, by simp, fun b hb => ?_, fun m j h e1 e2 => ?_⟩
      · obtain rfl := (List.mem_replicate.1 hb).2
        exact ⟨rfl, by simp [newBlock]⟩
      · exfalso
        have hz : ∀ m j, vv (Dat.z : Vec (Vec Bool 4) 3) m j ≠ some true := by
          intro m j
          unfold vv
          show ((List.replicate 3 (Dat.z : Vec Bool 4))[m]?).bind _ ≠ _
          rw [List.getElem?_replicate]
          split
          · show ((List.replicate 4 (Dat.z : Bool))[j]?) ≠ _
            rw [List.getElem?_replicate]
            split
            · intro h; cases h
            · intro h; cases h
          · intro h; cases h
        exact hz m j e1
    obtain ⟨e, h1, h2⟩ := loopO_inv (f := fun s => bywaylaw06_ChipKeeps_l1 faults0 l0 s.1 s.2.1 s.2.2.1 s.2.2.2) (fun s => ∃ i : Nat, s.1 = (i : Int) ∧ i ≤ 100 ∧ KInv i s.2.1 s.2.2.1 s.2.2.2) (fun s => 200 - s.1.toNat) (fun e => ∃ c, e = .inl c ∧ cRight c = true)
      (fun s hs => by
        obtain ⟨i, e1, hle, inv⟩ := hs
        obtain ⟨si, c, sure, has⟩ := s
        dsimp only at e1 inv ⊢
        subst e1
        by_cases hi : i < l0.length ∧ i < 100
        · obtain ⟨c', sure', has', e2, inv'⟩ := keeps_step faults0 l0 hf hi.1 hi.2 inv
          exact .inl ⟨_, e2, ⟨i + 1, rfl, by omega, inv'⟩, by dsimp only; omega⟩
        · refine .inr ⟨.inl c, ?_, c, rfl, inv.right⟩
          unfold bywaylaw06_ChipKeeps_l1
          rw [show (decide ((i : Int) < (l0.length : Int)) && decide ((i : Int) < (100 : Int))) = false by
            simp only [Bool.and_eq_false_iff, decide_eq_false_iff_not]; omega, cond_f]) (s := ((0 : Int), (⟨4, 5, List.replicate 3 (newBlock 4 5), 0, false, faults0⟩ : Chip), Dat.z, Dat.z)) ⟨0, rfl, by omega, inv0⟩ (by dsimp only; omega)
    obtain ⟨c, rfl, hc⟩ := h2
    rw [h1, bind_s, elS_inl, chip_Right_eq, bind_s, hc]
  · rw [cond_true (by simp; omega), decide_eq_true (by omega)]
end Go.Proofs.Ytfdmajkeihdhnaa.Tr
