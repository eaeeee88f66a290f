/- The rows of the laws: each holds for every input. Conditions: none. -/
import Derived.Test.YtfdmajkeihdhnaaTo
import Derived.Test.YtfdmajkeihdhnaaChipR
namespace Go.Proofs.Ytfdmajkeihdhnaa.Tr
open Go Go.RowKit Go.ChangeShapes Go.WideShapes Go.ChangeAt
set_option synthInstance.maxHeartbeats 400000
set_option synthInstance.maxSize 4096
set_option linter.unusedVariables false
set_option linter.unnecessarySimpa false
theorem law_own : ownKnob Try.prog.godebug = none := by kernel_rfl
theorem law_laid : laidOutB Try.prog = true := by kernel_rfl
instance : TOpen Try.prog 3 Int inferInstance := topen_i64 (by kernel_rfl)
instance : TOpen Try.prog 4 Bool inferInstance := topen_bool (by kernel_rfl)
instance : TOpen Try.prog 5 UInt8 inferInstance := topen_u8 (by kernel_rfl)
instance : TOpen Try.prog 106 Fault inferInstance := topen_struct (i := Fault_dat) Fault_to Fault_of (fun _ => rfl) rfl Try.underlying106 rfl (by kernel_rfl) (topf_cons (o := 0) (inferInstance : TOpen Try.prog 3 Int inferInstance) (by kernel_rfl) (by rfl) (by rfl) (by rfl) (topf_cons (o := 1) (inferInstance : TOpen Try.prog 4 Bool inferInstance) (by kernel_rfl) (by rfl) (by rfl) (by rfl) (topf_cons (o := 2) (inferInstance : TOpen Try.prog 4 Bool inferInstance) (by kernel_rfl) (by rfl) (by rfl) (by rfl) (topf_one (inferInstance : TOpen Try.prog 5 UInt8 inferInstance) (by kernel_rfl) (by rfl) (by rfl)))))
instance : TOpen Try.prog 54 (List Fault) inferInstance := topen_list (e := 106) (by kernel_rfl) (by kernel_rfl) (by decide +kernel)
instance : TOpen Try.prog 67 bywaylaw06_Do inferInstance := topen_struct (i := bywaylaw06_Do_dat) bywaylaw06_Do_to bywaylaw06_Do_of (fun _ => rfl) rfl Try.underlying67 rfl (by kernel_rfl) (topf_cons (o := 0) (inferInstance : TOpen Try.prog 5 UInt8 inferInstance) (by kernel_rfl) (by rfl) (by rfl) (by rfl) (topf_cons (o := 1) (inferInstance : TOpen Try.prog 5 UInt8 inferInstance) (by kernel_rfl) (by rfl) (by rfl) (by rfl) (topf_one (inferInstance : TOpen Try.prog 5 UInt8 inferInstance) (by kernel_rfl) (by rfl) (by rfl))))
instance : TOpen Try.prog 55 (List bywaylaw06_Do) inferInstance := topen_list (e := 67) (by kernel_rfl) (by kernel_rfl) (by decide +kernel)
set_option maxRecDepth 100000 in
theorem chipKeeps_lifted (os : Os) (started : os.Started) (H : Type) (enc : TypeId × Value → H) :
    ReturnsInHanded {} Try.checked os 7 .any (Rows.chipKeepsSpec.pre6 enc Try.prog Try.f7 Rows.chipKeepsRow.domain false) (Rows.chipKeepsSpec.post enc Try.prog Try.f7 false true false false) := by
  refine returnsInHanded_of_change_sized (C := Try.checked) law_own started (by kernel_rfl) Try.func7
    (ChangeSpec.witness6 (enc := enc) (C := Try.checked) false ⟨#[], #[.slice none 0 0, .slice none 0 0], []⟩ 8 (by kernel_rfl) (by kernel_rfl) (by kernel_rfl) (by kernel_rfl)) ?_
  intro W base args ds gs before hval0 hW hcnd hsz0 _
  have hval : ∀ (j : Nat) t v, Try.f7.params[j]? = some t → args[j]? = some v → Value.okWide Try.prog W .any base t v := hval0
  have hW' := hW
  obtain ⟨p, q, hA0, hV, rfl, hfz, hnd⟩ := hW
  have hA : DataW.TrodAll enc Try.prog W 0 (fun _ => true) true Try.f7.params.toList args.toList ds p := hA0
  have hsz : ∀ n ∈ DataW.weightsEach Try.prog Try.f7.params.toList ds, n ≤ reachBytes := fun n hn => by
    obtain ⟨rfl, -⟩ := trodVars_none hV
    have := List.all_eq_true.1 hsz0 n (by
      show n ∈ DataW.weightsEach Try.prog (Try.f7.params.toList ++ []) (ds ++ [])
      rw [List.append_nil, List.append_nil]; exact hn)
    simpa using this
  rw [Try.params7] at hA hval hsz
  obtain ⟨v0, vs0, d0, ds0, p0, q0, hargs, rfl, rfl, h0, r0⟩ := trodAll_cons hA
  obtain ⟨v1, vs1, d1, ds1, p1, q1, rfl, rfl, rfl, h1, r1⟩ := trodAll_cons r0
  obtain ⟨rfl, rfl, rfl⟩ := trodAll_nil r1
  obtain rfl : args = #[v0, v1] := by cases args; simp_all
  obtain ⟨x0, y0⟩ := top_open h0 (hval 0 _ v0 rfl rfl) (fun n hn => hsz n (DataW.weights_mem_each (j := 0) rfl rfl n hn))
  obtain ⟨x1, y1⟩ := top_open h1 (hval 1 _ v1 rfl rfl) (fun n hn => hsz n (DataW.weights_mem_each (j := 1) rfl rfl n hn))
  refine (bywaylaw06_ChipKeeps_c W v0 v1 (fun _ _ => trivial) y0 y1 (chipKeeps_plain _ _)).mono fun e W1 h => ?_
  refine law_post (tb := 4) law_laid (by kernel_rfl) (by kernel_rfl) rfl (by rw [Try.params7]; decide +kernel) rfl hW' h
end Go.Proofs.Ytfdmajkeihdhnaa.Tr
namespace Go.Proofs.Ytfdmajkeihdhnaa
open Go Go.RowKit Go.ChangeShapes Go.WideShapes Go.ChangeAt
/-- the statement -/
theorem chipKeeps_holds : Rows.ChipKeepsSaid :=
  OpenClaim.holds_of_wide 7 Try.f7 rfl rfl rfl rfl rfl rfl rfl ⟨rfl, rfl, rfl, rfl, rfl⟩ rfl rfl rfl rfl rfl (by kernel_rfl) Try.func7 (by kernel_rfl)
    (of_decide_eq_true (by kernel_rfl)) (by unfold Func.isWrapper; first | (rw [if_pos (by decide +kernel)]; kernel_rfl) | (rw [if_neg (by decide +kernel)]; exact ⟨rfl, rfl⟩))
    (fun os started H enc _ => Tr.chipKeeps_lifted os started H enc)
#print axioms chipKeeps_holds
end Go.Proofs.Ytfdmajkeihdhnaa
