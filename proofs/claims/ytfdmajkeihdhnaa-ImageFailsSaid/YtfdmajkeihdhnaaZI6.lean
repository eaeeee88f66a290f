/- What the proof leans on. Conditions: none. -/
import Derived.Test.YtfdmajkeihdhnaaZI5
namespace Go.Proofs.Ytfdmajkeihdhnaa.Tr
open Go
set_option linter.unusedVariables false
set_option linter.unusedSimpArgs false
theorem image_awake_eq : bywaylaw21_awake = some true := by decide +kernel
theorem look_blank {b : List UInt8} (h : ∀ x ∈ b, x = 255) (u : Bool) : lookV b u = if u then ⟨1, 0, 0⟩ else ⟨0, 0, 0⟩ := by unfold lookV; rw [if_pos h]
def iPage (i : Nat) : Page := ⟨1, (i : Int), 1, []⟩
theorem iPage_may {i : Nat} (h : i < 64) : PMay (iPage i) (24 : Nat) := by
  refine ⟨⟨by decide, by decide⟩, .inl rfl, by show (0 : Int) ≤ i; omega, by show (i : Int) < 64; omega, by show (1 : UInt64) < _; decide, by show ((0 : Nat) : Int) ≤ _; decide⟩
def iBytes (i : Nat) : List UInt8 := sealed (pInner (iPage i) 24)
theorem iPut {i : Nat} (h : i < 64) : page_Put (⟨(1 : Int), (i : Int), (UInt64.ofNat 1), []⟩ : Page) (24 : Int) = some (iBytes i, 0) := by
  have := page_Put_eq (iPage i) (24 : Nat)
  unfold PutV at this
  rw [if_pos (iPage_may h)] at this
  exact this
theorem iBytes_length {i : Nat} (h : i < 64) : (iBytes i).length = 24 := by
  unfold iBytes sealed
  have e := pInner_length (s := (24 : Nat)) (iPage_may h)
  have e : (pInner (iPage i) 24).length = 20 := e
  rw [List.length_append, e, putOf_some (by decide) (by decide), putNum_length]; rfl
theorem iBytes_look {i : Nat} (h : i < 64) : lookV (iBytes i) true = ⟨3, (i : Int), 1⟩ := by
  have hr : ReadV (iBytes i) = (iPage i, 0) := read_put (iPage_may h)
  unfold lookV
  rw [if_neg fun hall => ?_, if_neg ?_, if_pos ?_]
  · rw [hr]; rfl
  · rw [hr]; exact ⟨rfl, rfl⟩
  · unfold RReadV
    rw [hr, if_neg (by simp), if_neg (show ¬ (iPage i, (0 : Int)).1.Kind = 0 from show ¬ (1 : Int) = 0 by decide), if_pos (by unfold RForm; rintro ⟨h, -⟩; exact absurd h (show ¬ (1 : Int) = 2 by decide))]
    exact (show ¬ (2 : Int) = 0 by decide)
  · rcases put_kind (iPage_may h) with h1 | h1
    all_goals
      have hl := iBytes_length h
      have h2 : (iBytes i).getD 0 0 = 255 := by
        rw [List.getD_eq_getElem?_getD, List.getElem?_eq_getElem (by omega)]
        exact hall _ (List.getElem_mem _)
      have h3 : (iBytes i).getD 0 0 = _ := h1
      rw [h2] at h3
      revert h3; decide
theorem pages_set {l : List Block} {n k : Nat} (hn : n < l.length) (hk : k < l[n].Pages.length) (hu : l[n].Used = (k : Int)) (y : List UInt8) (w : Int) (bad : Bool) :
    ∃ A B, l.flatMap blockPages = A ++ (l[n].Pages[k], false) :: B ∧ (l.set n ⟨l[n].Pages.set k y, l[n].Used + 1, w, bad⟩).flatMap blockPages = A ++ (y, true) :: B := by
  have e1 : blockPages l[n] = (blockPages l[n]).take k ++ (l[n].Pages[k], false) :: (blockPages l[n]).drop (k + 1) := by
    have hk2 : k < (blockPages l[n]).length := by rw [blockPages_length]; exact hk
    have hg : (blockPages l[n])[k] = (l[n].Pages[k], false) := by simp [blockPages, hu]
    rw [← hg, ← List.drop_eq_getElem_cons hk2, List.take_append_drop]
  have e2 : blockPages ⟨l[n].Pages.set k y, l[n].Used + 1, w, bad⟩ = (blockPages l[n]).take k ++ (y, true) :: (blockPages l[n]).drop (k + 1) := by
    have hset : blockPages ⟨l[n].Pages.set k y, l[n].Used + 1, w, bad⟩ = (blockPages l[n]).set k (y, true) := by
      refine List.ext_getElem (by simp [blockPages]) fun i h1 h2 => ?_
      have hi : i < l[n].Pages.length := by simpa [blockPages] using h2
      rw [List.getElem_set]
      by_cases hik : k = i
      · subst hik
        rw [if_pos rfl]
        simp [blockPages, hu]
        omega
      · rw [if_neg hik]
        simp only [blockPages, List.getElem_map, List.getElem_zipIdx, List.getElem_set, if_neg hik, hu]
        refine congrArg _ ?_
        rw [decide_eq_decide]
        omega
    rw [hset, List.set_eq_take_append_cons_drop, if_pos (by rw [blockPages_length]; exact hk)]
  refine ⟨(l.take n).flatMap blockPages ++ (blockPages l[n]).take k, (blockPages l[n]).drop (k + 1) ++ (l.drop (n + 1)).flatMap blockPages, ?_, ?_⟩
  · have : l = l.take n ++ l[n] :: l.drop (n + 1) := by rw [← List.drop_eq_getElem_cons hn, List.take_append_drop]
    have e3 : l.flatMap blockPages = (l.take n).flatMap blockPages ++ (blockPages l[n] ++ (l.drop (n + 1)).flatMap blockPages) := by
      conv => lhs; rw [this]
      rw [List.flatMap_append, List.flatMap_cons]
    rw [e3, e1]
    simp only [List.append_assoc, List.cons_append]
    rw [← e1]
  · rw [List.set_eq_take_append_cons_drop, if_pos hn, List.flatMap_append, List.flatMap_cons, e2]
    simp only [List.append_assoc, List.cons_append]
structure FInv (i : Nat) (lost data : Int) (c : Chip) : Prop where
  right : cRight c = true
  len : c.Blocks.length = 4
  pages : c.Pages = 4
  size : c.Size = 24
  ops : c.Ops ≤ i
  bl : ∀ b ∈ c.Blocks, b.Bad = false ∧ b.Worn ≤ 0
  off : c.Off = false
  fl : ∀ f ∈ c.Faults, f.Op < c.Ops
  pg : ∀ q ∈ allPages c, (q.2 = false → ∀ x ∈ q.1, x = 255) ∧ ((∀ x ∈ q.1, x = 255) ∨ ∃ id g, lookV q.1 q.2 = ⟨3, id, g⟩)
  tl : tallyOf (sheetsOf c) = ⟨16 - lost - data, data, 0, 0, lost⟩
  lo : 0 ≤ lost ∧ 0 ≤ data ∧ lost + data ≤ i
theorem FInv.next {i : Nat} {lost data : Int} {c : Chip} (h : FInv i lost data c) : FInv (i + 1) lost data c :=
  { h with ops := by have := h.ops; omega, lo := by have := h.lo; omega }
theorem tally_mid (A B : List image_sheet) (v : image_sheet) : tallyOf (A ++ v :: B) = tstep (tallyOf (A ++ B)) v := by
  unfold tallyOf tstep
  simp only [List.countP_append, List.countP_cons]
  by_cases h0 : v.kind = 0
  · simp [h0]; omega
  · by_cases h1 : v.kind = 1
    · simp [h1]; omega
    · by_cases h2 : v.kind = 2
      · simp [h2]; omega
      · by_cases h3 : v.kind = 3
        · simp [h3]; omega
        · simp [h0, h1, h2, h3]; omega
theorem mask_255 (p : List UInt8) (f : Fault) (h : f.Mask = 255) (b : Bool) : maskOf (f, b) p = p := by
  unfold maskOf
  cases b
  · rfl
  · rw [if_pos rfl]
    dsimp only
    rw [h]
    have : (fun x : UInt8 => x ||| ~~~(255 : UInt8)) = id := by funext x; show x ||| ~~~(255 : UInt8) = x; have : (~~~(255 : UInt8)) = 0 := by decide
                                                                rw [this]; simp
    rw [this, List.map_id]
theorem mask_0 (p : List UInt8) (f : Fault) (h : f.Mask = 0) : ∀ x ∈ maskOf (f, true) p, x = 255 := by
  unfold maskOf
  rw [if_pos rfl]
  dsimp only
  rw [h]
  intro x hx
  obtain ⟨y, -, rfl⟩ := List.mem_map.1 hx
  have : (~~~(0 : UInt8)) = 255 := by decide
  rw [this]
  apply UInt8.toNat_inj.1
  rw [UInt8.toNat_or]
  have : y.toNat < 256 := UInt8.toNat_lt y
  show y.toNat ||| 255 = 255
  apply Nat.eq_of_testBit_eq
  intro j
  rw [Nat.testBit_or]
  by_cases hj : j < 8
  · have : (255 : Nat).testBit j = true := by
      match j, hj with
      | 0, _ => rfl
      | 1, _ => rfl
      | 2, _ => rfl
      | 3, _ => rfl
      | 4, _ => rfl
      | 5, _ => rfl
      | 6, _ => rfl
      | 7, _ => rfl
    rw [this, Bool.or_true]
  · rw [Nat.testBit_lt_two_pow (Nat.lt_of_lt_of_le this (by show 2 ^ 8 ≤ 2 ^ j; exact Nat.pow_le_pow_right (by decide) (by omega))), Bool.false_or]
theorem fails_prog {i : Nat} (hi : i < 60) {lost data : Int} {c : Chip} (inv : FInv i lost data c) {n k : Nat} (hn : n < c.Blocks.length) (hu : c.Blocks[n].Used = (k : Int)) (hk4 : k < 4) (keep fails : Bool) {mask : UInt8} (hm : mask = bif keep then 255 else 0) :
    ∃ c1 r, chip_On c [⟨c.Ops, fails, false, mask⟩] = some (c1, 0) ∧ chip_Program c1 n c.Blocks[n].Used (iBytes i) = some r ∧ decide (r.2 = 9) = fails ∧
      ((fails && !keep) = true → FInv (i + 1) (lost + 1) data r.1) ∧ ((fails && !keep) = false → FInv (i + 1) lost (data + 1) r.1) := by
  obtain ⟨h1, h2, h3, h4, h5, h6, h7, h8, h9, h10⟩ := cRight_spec inv.right
  obtain ⟨b1, b2, b3, b4, b5, b6⟩ := h10 _ (List.getElem_mem hn)
  obtain ⟨hbad, hworn⟩ := inv.bl _ (List.getElem_mem hn)
  have hp4 := inv.pages
  have hs24 := inv.size
  have hops := inv.ops
  have hkl : k < c.Blocks[n].Pages.length := by omega
  have hon := on_eq (f := [⟨c.Ops, fails, false, mask⟩]) inv.right (by simp)
  have hR1 := on_right (f := [⟨c.Ops, fails, false, mask⟩]) inv.right
  unfold onV at hon hR1
  rw [if_pos (by simp)] at hon hR1
  dsimp only at hR1
  refine ⟨_, ProgV ⟨c.Pages, c.Size, c.Blocks, c.Ops, false, [⟨c.Ops, fails, false, mask⟩]⟩ n k (iBytes i), hon, (by rw [hu]; exact prog_eq _ _ _ hR1), ?_⟩
  have hst : strikeV (⟨c.Pages, c.Size, c.Blocks, c.Ops, false, [⟨c.Ops, fails, false, mask⟩]⟩ : Chip) = (⟨c.Ops, fails, false, mask⟩, fails) := by
    rw [strike_one (c := ⟨c.Pages, c.Size, c.Blocks, c.Ops, false, [⟨c.Ops, fails, false, mask⟩]⟩) (f := ⟨c.Ops, fails, false, mask⟩) rfl rfl]; rfl
  have hdo := prog_do (c := ⟨c.Pages, c.Size, c.Blocks, c.Ops, false, [⟨c.Ops, fails, false, mask⟩]⟩) (n := n) (k := k) (p := iBytes i) hR1 hn rfl hbad hu (by dsimp only; omega) (by rw [iBytes_length (by omega)]; dsimp only; omega) (by dsimp only; omega)
  rw [hst] at hdo
  dsimp only at hdo
  have hR2 := prog_right (c := ⟨c.Pages, c.Size, c.Blocks, c.Ops, false, [⟨c.Ops, fails, false, mask⟩]⟩) hn (k : Int) (iBytes i) hR1
  rw [hdo] at hR2 ⊢
  dsimp only at hR2 ⊢
  obtain ⟨A, B, p1, p2⟩ := pages_set hn hkl hu (maskOf (⟨c.Ops, fails, false, mask⟩, fails) (iBytes i)) c.Blocks[n].Worn c.Blocks[n].Bad
  have hpg := inv.pg
  have p1 : allPages c = _ := p1
  have hold := hpg (c.Blocks[n].Pages[k], false) (by rw [p1]; simp)
  have htl := inv.tl
  unfold sheetsOf at htl
  rw [p1, List.map_append, List.map_cons, tally_mid] at htl
  dsimp only at htl
  rw [look_blank (hold.1 rfl) false, if_neg (by decide)] at htl
  have gen : ∀ (lost' data' : Int), tstep (tallyOf (A.map (fun p => lookV p.1 p.2) ++ B.map fun p => lookV p.1 p.2)) (lookV (maskOf (⟨c.Ops, fails, false, mask⟩, fails) (iBytes i)) true) = ⟨16 - lost' - data', data', 0, 0, lost'⟩ → ((∀ x ∈ maskOf (⟨c.Ops, fails, false, mask⟩, fails) (iBytes i), x = 255) ∨ ∃ id g, lookV (maskOf (⟨c.Ops, fails, false, mask⟩, fails) (iBytes i)) true = ⟨3, id, g⟩) → (0 ≤ lost' ∧ 0 ≤ data' ∧ lost' + data' ≤ ((i + 1 : Nat) : Int)) →
      FInv (i + 1) lost' data' ⟨c.Pages, c.Size, c.Blocks.set n ⟨c.Blocks[n].Pages.set k (maskOf (⟨c.Ops, fails, false, mask⟩, fails) (iBytes i)), c.Blocks[n].Used + 1, c.Blocks[n].Worn, c.Blocks[n].Bad⟩, c.Ops + 1, if fails = true then false else false, [⟨c.Ops, fails, false, mask⟩]⟩ := fun lost' data' ht hy hlo => by
    refine ⟨hR2, by simpa using inv.len, inv.pages, inv.size, by dsimp only; omega, fun b hb => ?_, by dsimp only; split <;> rfl, fun f hf => ?_, fun q hq => ?_, ?_, hlo⟩
    · rcases mem_set hb with hb | rfl
      · exact inv.bl b hb
      · exact ⟨hbad, hworn⟩
    · obtain rfl := List.mem_singleton.1 hf
      dsimp only; omega
    · have hq : q ∈ (c.Blocks.set n ⟨c.Blocks[n].Pages.set k (maskOf (⟨c.Ops, fails, false, mask⟩, fails) (iBytes i)), c.Blocks[n].Used + 1, c.Blocks[n].Worn, c.Blocks[n].Bad⟩).flatMap blockPages := hq
      rw [p2] at hq
      rcases List.mem_append.1 hq with h | h
      · exact hpg q (by rw [p1]; exact List.mem_append_left _ h)
      · rcases List.mem_cons.1 h with rfl | h
        · exact ⟨fun h => (by cases h), hy⟩
        · exact hpg q (by rw [p1]; exact List.mem_append_right _ (List.mem_cons_of_mem _ h))
    · unfold sheetsOf
      have p2 : allPages ⟨c.Pages, c.Size, c.Blocks.set n ⟨c.Blocks[n].Pages.set k (maskOf (⟨c.Ops, fails, false, mask⟩, fails) (iBytes i)), c.Blocks[n].Used + 1, c.Blocks[n].Worn, c.Blocks[n].Bad⟩, c.Ops + 1, if fails = true then false else false, [⟨c.Ops, fails, false, mask⟩]⟩ = _ := p2
      rw [p2, List.map_append, List.map_cons, tally_mid]
      exact ht
  have hlo := inv.lo
  generalize htt : tallyOf (A.map (fun p => lookV p.1 p.2) ++ B.map fun p => lookV p.1 p.2) = T at htl gen
  unfold tstep at htl
  dsimp only at htl
  rw [if_pos rfl] at htl
  injection htl with t1 t2 t3 t4 t5
  refine ⟨?_, fun hfk => ?_, fun hfk => ?_⟩
  · cases fails <;> rfl
  · have hf : fails = true := by cases fails; simp at hfk; rfl
    have hkp : keep = false := by cases keep; rfl; simp at hfk
    subst hf hkp
    have hb := mask_0 (iBytes i) ⟨c.Ops, true, false, mask⟩ hm
    refine gen (lost + 1) data ?_ (.inl hb) (by omega)
    rw [look_blank hb true, if_pos rfl]
    unfold tstep
    dsimp only
    rw [if_neg (by decide), if_pos rfl, t2, t3, t4, t5]
    congr 1; omega
  · have hmk : maskOf (⟨c.Ops, fails, false, mask⟩, fails) (iBytes i) = iBytes i := by
      cases hf : fails with
      | false => rfl
      | true =>
        have : keep = true := by rw [hf] at hfk; cases keep; simp at hfk; rfl
        subst this
        exact mask_255 _ _ hm _
    refine gen lost (data + 1) ?_ (.inr ⟨_, _, by rw [hmk]; exact iBytes_look (by omega)⟩) (by omega)
    rw [hmk, iBytes_look (by omega)]
    unfold tstep
    dsimp only
    rw [if_neg (by decide), if_neg (by decide), if_neg (by decide), if_pos rfl, t2, t3, t4, t5]
    congr 1; omega
end Go.Proofs.Ytfdmajkeihdhnaa.Tr
namespace Go.Proofs.Ytfdmajkeihdhnaa.Tr
open Go
set_option linter.unusedVariables false
set_option linter.unusedSimpArgs false
theorem fails_sound {i : Nat} {lost data : Int} {c : Chip} (inv : FInv i lost data c) : soundB c = decide (lost = 0) := by
  have hl : ((sheetsOf c).countP (fun v => decide (v.kind = 1)) : Int) = lost := congrArg Tally.Lost inv.tl
  have hb : ∀ q ∈ allPages c, badP q = decide ((lookV q.1 q.2).kind = 1) := fun q hq => by
    obtain ⟨h1, h2⟩ := inv.pg q hq
    unfold badP
    rcases h2 with h2 | ⟨id, g, h2⟩
    · rw [look_blank h2]
      cases q.2 <;> rfl
    · rw [h2]
      cases hq2 : q.2 with
      | true => rfl
      | false =>
        exfalso
        rw [look_blank (h1 hq2), hq2] at h2
        cases h2
  unfold soundB
  have e : ((allPages c).all fun p => !badP p) = decide ((sheetsOf c).countP (fun v => decide (v.kind = 1)) = 0) := by
    rw [Bool.eq_iff_iff]
    simp only [List.all_eq_true, decide_eq_true_eq, List.countP_eq_zero, Bool.not_eq_true']
    unfold sheetsOf
    constructor
    · intro h v hv
      obtain ⟨q, hq, rfl⟩ := List.mem_map.1 hv
      have := h q hq
      rw [hb q hq] at this
      simpa using this
    · intro h q hq
      rw [hb q hq]
      have := h _ (List.mem_map.2 ⟨q, hq, rfl⟩)
      simpa using this
  rw [e, decide_eq_decide]
  omega
structure EInv (n : Nat) (c : Chip) : Prop where
  right : cRight c = true
  len : c.Blocks.length = 4
  pages : c.Pages = 4
  ops : c.Ops ≤ 100 + n
  bl : ∀ b ∈ c.Blocks, b.Bad = false ∧ b.Worn ≤ n
  off : c.Off = false
  fl : ∀ f ∈ c.Faults, f.Op < c.Ops
  er : ∀ j (h : j < c.Blocks.length), j < n → c.Blocks[j].Used = 0 ∧ ∀ p ∈ c.Blocks[j].Pages, ∀ x ∈ p, x = 255
theorem fails_erase {n : Nat} {c : Chip} (inv : EInv n c) (hn : n < 4) : ∃ r, chip_Erase c n = some r ∧ EInv (n + 1) r.1 := by
  have hnl : n < c.Blocks.length := by rw [inv.len]; exact hn
  obtain ⟨hbad, hw⟩ := inv.bl _ (List.getElem_mem hnl)
  have hops := inv.ops
  have hst := strike_none fun f hf => by have := inv.fl f hf; omega
  have hdo := erase_do inv.right hnl inv.off hbad (by omega) (by omega)
  have hR := erase_right hnl inv.right
  refine ⟨_, erase_eq _ inv.right, ?_⟩
  rw [hdo] at hR ⊢
  refine ⟨hR, by simpa using inv.len, inv.pages, by dsimp only; omega, fun b hb => ?_, by dsimp only; rw [hst]; exact inv.off, fun f hf => by have := inv.fl f hf; dsimp only; omega, fun j hj hjn => ?_⟩
  · rcases mem_set hb with hb | rfl
    · have := inv.bl b hb; exact ⟨this.1, by omega⟩
    · exact ⟨hbad, by dsimp only; omega⟩
  · dsimp only at hj ⊢
    simp only [List.getElem_set]
    by_cases hjn2 : n = j
    · rw [if_pos hjn2]
      dsimp only
      refine ⟨by rw [hst]; rfl, fun p hp => ?_⟩
      obtain ⟨q, -, rfl⟩ := List.mem_map.1 hp
      unfold eraseP
      rw [hst, if_neg (by decide)]
      intro x hx
      exact (List.mem_replicate.1 hx).2
    · rw [if_neg hjn2]
      exact inv.er j (by simpa using hj) (by omega)
theorem fails_end {c : Chip} (inv : EInv 4 c) : sheetsOf c = List.replicate 16 ⟨0, 0, 0⟩ ∧ soundB c = true := by
  obtain ⟨p, hp, hp0, hp16, hb, hlen, h512⟩ := pages_of inv.right
  have hp4 := inv.pages
  have hlen4 := inv.len
  obtain rfl : p = 4 := by omega
  have hq : ∀ q ∈ allPages c, q.2 = false ∧ ∀ x ∈ q.1, x = 255 := fun q hq => by
    unfold allPages at hq
    obtain ⟨b, hbm, hqb⟩ := List.mem_flatMap.1 hq
    obtain ⟨j, hj, rfl⟩ := List.getElem_of_mem hbm
    obtain ⟨h1, h2⟩ := inv.er j hj (by omega)
    unfold blockPages at hqb
    obtain ⟨z, hz, rfl⟩ := List.mem_map.1 hqb
    refine ⟨by dsimp only; rw [h1]; simp, h2 z.1 ?_⟩
    have := List.mem_zipIdx hz
    obtain ⟨-, h3, h4⟩ := this
    rw [h4]; exact List.getElem_mem _
  constructor
  · unfold sheetsOf
    rw [List.eq_replicate_iff]
    refine ⟨by rw [List.length_map, hlen, hlen4], fun v hv => ?_⟩
    obtain ⟨q, hqm, rfl⟩ := List.mem_map.1 hv
    obtain ⟨h1, h2⟩ := hq q hqm
    rw [look_blank h2, h1]; rfl
  · unfold soundB
    rw [List.all_eq_true]
    intro q hqm
    obtain ⟨h1, h2⟩ := hq q hqm
    unfold badP
    rw [look_blank h2, h1]; rfl
theorem imageFails_plain (l0 : List UInt8) (keep0 : Bool) : bywaylaw21_ImageFails l0 keep0 = some true := by
  unfold bywaylaw21_ImageFails
  rw [image_awake_eq, bind_s, Bool.not_true, cond_f]
  by_cases hl : (l0.length : Int) > 12
  · rw [decide_eq_true hl, cond_t]
  rw [decide_eq_false hl, cond_f]
  have hs : cSound (4 : Nat) (4 : Nat) (24 : Nat) = true := by decide
  have hnew : chip_New (4 : Int) (4 : Int) (24 : Int) = some (newChip 4 4 24, 0) := new_eq hs
  rw [hnew, bind_s]
  dsimp only
  rw [cond_false (by simp)]
  have inv0 : FInv 0 0 0 (newChip 4 4 24) := by
    have h255 : ∀ q ∈ allPages (newChip 4 4 24), q.2 = false ∧ ∀ x ∈ q.1, x = 255 := by decide +kernel
    refine ⟨new_right hs, rfl, rfl, rfl, by decide, fun b hb => ?_, rfl, fun f hf => absurd hf (by simp [newChip]), fun q hq => ⟨fun _ => (h255 q hq).2, .inl (h255 q hq).2⟩, by decide +kernel, by decide⟩
    obtain rfl := (List.mem_replicate.1 hb).2
    exact ⟨rfl, by simp [newBlock]⟩
  have hloop : Gets (loopO (fun s => bywaylaw21_ImageFails_l1 l0 keep0 s.1 s.2.1 s.2.2.1 s.2.2.2) ((0 : Int), (0 : Int), (0 : Int), newChip 4 4 24)) (fun e => ∃ lost data c, e = .inl (lost, data, c) ∧ FInv l0.length lost data c) := by
    refine Gets.loop (fun s => ∃ i : Nat, s.2.2.1 = (i : Int) ∧ i ≤ l0.length ∧ FInv i s.1 s.2.1 s.2.2.2) (fun s => l0.length - s.2.2.1.toNat) ?_ ⟨0, rfl, Nat.zero_le _, inv0⟩ (by dsimp only; omega)
    rintro ⟨lost, data, i', c⟩ ⟨i, e1, hi, inv⟩
    dsimp only at e1 inv ⊢
    subst e1
    unfold bywaylaw21_ImageFails_l1
    rcases Nat.lt_or_ge i l0.length with hlt | hge
    · rw [lt_t hlt, cond_t, idx_nat hlt, bind_s]
      have hn4 : l0[i].toNat % 4 < 4 := Nat.mod_lt _ (by decide)
      have hrem : remI (l0[i].toNat : Int) (4 : Int) = some ((l0[i].toNat % 4 : Nat) : Int) := remI_nat (b := 4) (by decide)
      rw [hrem, bind_s]
      generalize l0[i].toNat % 4 = n at hn4
      have hn : n < c.Blocks.length := by rw [inv.len]; exact hn4
      rw [idx_nat hn, bind_s]
      obtain ⟨h1, h2, h3, h4, h5, h6, h7, h8, h9, h10⟩ := cRight_spec inv.right
      obtain ⟨b1, b2, b3, b4, b5, b6⟩ := h10 _ (List.getElem_mem hn)
      have hp4 := inv.pages
      by_cases hu : c.Blocks[n].Used = 4
      · rw [decide_eq_true hu, cond_t, bind_s, elS_inl, el3_at, addI_1 (by omega), bind_s]
        exact Gets.l ⟨i + 1, rfl, hlt, inv.next⟩ (by dsimp only; omega)
      · obtain ⟨k, hk⟩ := Int.eq_ofNat_of_zero_le b2
        rw [decide_eq_false hu, cond_f, iPut (by omega), bind_s]
        have hmask : (bif keep0 then (some (UInt8.ofNat 255)) else (some (UInt8.ofNat 0))) = some (bif keep0 then (255 : UInt8) else 0) := by cases keep0 <;> rfl
        rw [hmask, bind_s, bind_s, bind_s]
        obtain ⟨c1, r, q1, q2, q3, q4, q5⟩ := fails_prog (by omega) inv hn hk (by omega) keep0 (decide ((UInt8.ofNat 128) ≤ l0[i])) rfl
        rw [q1, bind_s]
        dsimp only
        rw [q2, bind_s, q3, cond_false (by simp)]
        cases hf : (decide ((UInt8.ofNat 128) ≤ l0[i]) && !keep0) with
        | true =>
          have inv' := q4 hf
          have hlo := inv.lo
          rw [cond_t, addI_ok (by omega) (by omega), bind_s, bind_s, elS_inl, el3_at, addI_1 (by omega), bind_s]
          exact Gets.l ⟨i + 1, rfl, hlt, inv'⟩ (by dsimp only; omega)
        | false =>
          have inv' := q5 hf
          have hlo := inv.lo
          rw [cond_f, addI_ok (by omega) (by omega), bind_s, bind_s, elS_inl, el3_at, addI_1 (by omega), bind_s]
          exact Gets.l ⟨i + 1, rfl, hlt, inv'⟩ (by dsimp only; omega)
    · obtain rfl : i = l0.length := by omega
      rw [lt_f, cond_f]
      exact Gets.r ⟨_, _, _, rfl, inv⟩
  obtain ⟨e, he, lost, data, c, rfl, inv⟩ := hloop
  rw [he, bind_s, elS_inl, el3_at, count_eq inv.right, bind_s, inv.tl]
  dsimp only
  have hlo := inv.lo
  rw [show (!(decide ((0 : Int) ≠ 0))) = true by simp, gb_true, subI_ok (by omega) (by omega), bind_s, gb_true, subI_ok (by omega) (by omega), bind_s]
  rw [show (!((decide ((0 : Int) ≠ 0)) || (decide ((⟨16 - lost - data, data, 0, 0, lost⟩ : Tally) ≠ ⟨16 - lost - data, data, 0, 0, lost⟩)))) = true by simp, gb_true, sound_eq inv.right, bind_s, fails_sound inv, cond_false (by simp)]
  have einv0 : EInv 0 c := ⟨inv.right, inv.len, inv.pages, by have := inv.ops; omega, fun b hb => ⟨(inv.bl b hb).1, by have := (inv.bl b hb).2; omega⟩, inv.off, inv.fl, fun j _ h => by omega⟩
  have hloop2 : Gets (loopO (fun s => bywaylaw21_ImageFails_l2 s.1 s.2) ((0 : Int), c)) (fun c => EInv 4 c) := by
    refine Gets.loop (fun s => ∃ i : Nat, s.1 = (i : Int) ∧ i ≤ 4 ∧ EInv i s.2) (fun s => 4 - s.1.toNat) ?_ ⟨0, rfl, Nat.zero_le _, einv0⟩ (by dsimp only; omega)
    rintro ⟨i', c⟩ ⟨i, e1, hi, inv⟩
    dsimp only at e1 inv ⊢
    subst e1
    unfold bywaylaw21_ImageFails_l2
    rcases Nat.lt_or_ge i 4 with hlt | hge
    · obtain ⟨r, e, inv'⟩ := fails_erase inv hlt
      rw [show decide ((i : Int) < (4 : Int)) = true from lt_t (n := 4) hlt, cond_t, e, bind_s, addI_1 (by omega), bind_s]
      exact Gets.l ⟨i + 1, rfl, hlt, inv'⟩ (by dsimp only; omega)
    · obtain rfl : i = 4 := by omega
      rw [show decide (((4 : Nat) : Int) < (4 : Int)) = false from lt_f (n := 4), cond_f]
      exact Gets.r inv
  obtain ⟨c2, e2, inv2⟩ := hloop2
  obtain ⟨g1, g2⟩ := fails_end inv2
  rw [e2, bind_s, count_eq inv2.right, bind_s, g1, sound_eq inv2.right, g2]
  have ht : tallyOf (List.replicate 16 ⟨0, 0, 0⟩) = ⟨16, 0, 0, 0, 0⟩ := by decide +kernel
  rw [ht]
  rfl
end Go.Proofs.Ytfdmajkeihdhnaa.Tr
namespace Go.Proofs.Ytfdmajkeihdhnaa.Tr
open Go Go.RowKit Go.ChangeShapes Go.WideShapes Go.ChangeAt
set_option synthInstance.maxHeartbeats 400000
set_option synthInstance.maxSize 4096
set_option linter.unusedVariables false
set_option linter.unnecessarySimpa false
theorem law_own : ownKnob Try.prog.godebug = none := by kernel_rfl
theorem law_laid : laidOutB Try.prog = true := by kernel_rfl
instance : TOpen Try.prog 5 UInt8 inferInstance := topen_u8 (by kernel_rfl)
instance : TOpen Try.prog 23 (List UInt8) inferInstance := topen_list (e := 5) (by kernel_rfl) (by kernel_rfl) (by decide +kernel)
instance : TOpen Try.prog 4 Bool inferInstance := topen_bool (by kernel_rfl)
set_option maxRecDepth 100000 in
theorem imageFails_lifted (os : Os) (started : os.Started) (H : Type) (enc : TypeId × Value → H) :
    ReturnsInHanded {} Try.checked os 13 .any (Rows.imageFailsSpec.pre6 enc Try.prog Try.f13 Rows.imageFailsRow.domain false) (Rows.imageFailsSpec.post enc Try.prog Try.f13 false true false false) := by
  refine returnsInHanded_of_change_sized (C := Try.checked) law_own started (by kernel_rfl) Try.func13
    (ChangeSpec.witness6 (enc := enc) (C := Try.checked) false ⟨#[], #[.slice none 0 0, .bool false], []⟩ 8 (by kernel_rfl) (by kernel_rfl) (by kernel_rfl) (by kernel_rfl)) ?_
  intro W base args ds gs before hval0 hW hcnd hsz0 _
  have hval : ∀ (j : Nat) t v, Try.f13.params[j]? = some t → args[j]? = some v → Value.okWide Try.prog W .any base t v := hval0
  have hW' := hW
  obtain ⟨p, q, hA0, hV, rfl, hfz, hnd⟩ := hW
  have hA : DataW.TrodAll enc Try.prog W 0 (fun _ => true) true Try.f13.params.toList args.toList ds p := hA0
  have hsz : ∀ n ∈ DataW.weightsEach Try.prog Try.f13.params.toList ds, n ≤ reachBytes := fun n hn => by
    obtain ⟨rfl, -⟩ := trodVars_none hV
    have := List.all_eq_true.1 hsz0 n (by
      show n ∈ DataW.weightsEach Try.prog (Try.f13.params.toList ++ []) (ds ++ [])
      rw [List.append_nil, List.append_nil]; exact hn)
    simpa using this
  rw [Try.params13] at hA hval hsz
  obtain ⟨v0, vs0, d0, ds0, p0, q0, hargs, rfl, rfl, h0, r0⟩ := trodAll_cons hA
  obtain ⟨v1, vs1, d1, ds1, p1, q1, rfl, rfl, rfl, h1, r1⟩ := trodAll_cons r0
  obtain ⟨rfl, rfl, rfl⟩ := trodAll_nil r1
  obtain rfl : args = #[v0, v1] := by cases args; simp_all
  obtain ⟨x0, y0⟩ := top_open h0 (hval 0 _ v0 rfl rfl) (fun n hn => hsz n (DataW.weights_mem_each (j := 0) rfl rfl n hn))
  obtain ⟨x1, y1⟩ := top_open h1 (hval 1 _ v1 rfl rfl) (fun n hn => hsz n (DataW.weights_mem_each (j := 1) rfl rfl n hn))
  refine (bywaylaw21_ImageFails_c W v0 v1 (fun _ _ => trivial) y0 y1 (imageFails_plain _ _)).mono fun e W1 h => ?_
  refine law_post (tb := 4) law_laid (by kernel_rfl) (by kernel_rfl) rfl (by rw [Try.params13]; decide +kernel) rfl hW' h
end Go.Proofs.Ytfdmajkeihdhnaa.Tr
namespace Go.Proofs.Ytfdmajkeihdhnaa
open Go Go.RowKit Go.ChangeShapes Go.WideShapes Go.ChangeAt
theorem imageFails_holds : Rows.ImageFailsSaid :=
  OpenClaim.holds_of_wide 13 Try.f13 rfl rfl rfl rfl rfl rfl rfl ⟨rfl, rfl, rfl, rfl, rfl⟩ rfl rfl rfl rfl rfl (by kernel_rfl) Try.func13 (by kernel_rfl)
    (of_decide_eq_true (by kernel_rfl)) (by unfold Func.isWrapper; first | (rw [if_pos (by decide +kernel)]; kernel_rfl) | (rw [if_neg (by decide +kernel)]; exact ⟨rfl, rfl⟩))
    (fun os started H enc _ => Tr.imageFails_lifted os started H enc)
#print axioms imageFails_holds
end Go.Proofs.Ytfdmajkeihdhnaa
