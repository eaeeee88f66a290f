/- The rows of the laws: each holds for every input. Conditions: none. -/
import Derived.Test.YtjnlpphnaldjeaaTo
import Derived.Test.YtjnlpphnaldjeaaCacheY
namespace Go.Proofs.Ytjnlpphnaldjeaa.Tr
open Go Go.RowKit Go.ChangeShapes Go.WideShapes Go.ChangeAt
set_option synthInstance.maxHeartbeats 400000
set_option synthInstance.maxSize 4096
set_option linter.unusedVariables false
set_option linter.unnecessarySimpa false
theorem law_own : ownKnob Try.prog.godebug = none := by kernel_rfl
theorem law_laid : laidOutB Try.prog = true := by kernel_rfl
instance : TOpen Try.prog 5 UInt8 inferInstance := topen_u8 (by kernel_rfl)
instance : TOpen Try.prog 46 bywaylaw13_Do inferInstance := topen_struct (i := bywaylaw13_Do_dat) bywaylaw13_Do_to bywaylaw13_Do_of (fun _ => rfl) rfl Try.underlying46 rfl (by kernel_rfl) (topf_cons (o := 0) (inferInstance : TOpen Try.prog 5 UInt8 inferInstance) (by kernel_rfl) (by rfl) (by rfl) (by rfl) (topf_cons (o := 1) (inferInstance : TOpen Try.prog 5 UInt8 inferInstance) (by kernel_rfl) (by rfl) (by rfl) (by rfl) (topf_one (inferInstance : TOpen Try.prog 5 UInt8 inferInstance) (by kernel_rfl) (by rfl) (by rfl))))
instance : TOpen Try.prog 42 (List bywaylaw13_Do) inferInstance := topen_list (e := 46) (by kernel_rfl) (by kernel_rfl) (by decide +kernel)
set_option maxRecDepth 100000 in
theorem cacheModel_lifted (os : Os) (started : os.Started) (H : Type) (enc : TypeId × Value → H) :
    ReturnsInHanded {} Try.checked os 4 .any (Rows.cacheModelSpec.pre6 enc Try.prog Try.f4 Rows.cacheModelRow.domain false) (Rows.cacheModelSpec.post enc Try.prog Try.f4 false true false false) := by
  refine returnsInHanded_of_change_sized (C := Try.checked) law_own started (by kernel_rfl) Try.func4
    (ChangeSpec.witness6 (enc := enc) (C := Try.checked) false ⟨#[], #[.int .u8 0, .slice none 0 0], []⟩ 8 (by kernel_rfl) (by kernel_rfl) (by kernel_rfl) (by kernel_rfl)) ?_
  intro W base args ds gs before hval0 hW hcnd hsz0 _
  have hval : ∀ (j : Nat) t v, Try.f4.params[j]? = some t → args[j]? = some v → Value.okWide Try.prog W .any base t v := hval0
  have hW' := hW
  obtain ⟨p, q, hA0, hV, rfl, hfz, hnd⟩ := hW
  have hA : DataW.TrodAll enc Try.prog W 0 (fun _ => true) true Try.f4.params.toList args.toList ds p := hA0
  have hsz : ∀ n ∈ DataW.weightsEach Try.prog Try.f4.params.toList ds, n ≤ reachBytes := fun n hn => by
    obtain ⟨rfl, -⟩ := trodVars_none hV
    have := List.all_eq_true.1 hsz0 n (by
      show n ∈ DataW.weightsEach Try.prog (Try.f4.params.toList ++ []) (ds ++ [])
      rw [List.append_nil, List.append_nil]; exact hn)
    simpa using this
  rw [Try.params4] at hA hval hsz
  obtain ⟨v0, vs0, d0, ds0, p0, q0, hargs, rfl, rfl, h0, r0⟩ := trodAll_cons hA
  obtain ⟨v1, vs1, d1, ds1, p1, q1, rfl, rfl, rfl, h1, r1⟩ := trodAll_cons r0
  obtain ⟨rfl, rfl, rfl⟩ := trodAll_nil r1
  obtain rfl : args = #[v0, v1] := by cases args; simp_all
  obtain ⟨x0, y0⟩ := top_open h0 (hval 0 _ v0 rfl rfl) (fun n hn => hsz n (DataW.weights_mem_each (j := 0) rfl rfl n hn))
  obtain ⟨x1, y1⟩ := top_open h1 (hval 1 _ v1 rfl rfl) (fun n hn => hsz n (DataW.weights_mem_each (j := 1) rfl rfl n hn))
  refine (bywaylaw13_CacheModel_c W v0 v1 (fun _ _ => trivial) y0 y1 (cacheModel_plain (D.wf y0) (D.wf y1))).mono fun e W1 h => ?_
  refine law_post (tb := 4) law_laid (by kernel_rfl) (by kernel_rfl) rfl (by rw [Try.params4]; decide +kernel) rfl hW' h
end Go.Proofs.Ytjnlpphnaldjeaa.Tr
namespace Go.Proofs.Ytjnlpphnaldjeaa
open Go Go.RowKit Go.ChangeShapes Go.WideShapes Go.ChangeAt
/-- the statement -/
theorem cacheModel_holds : Rows.CacheModelSaid :=
  OpenClaim.holds_of_wide 4 Try.f4 rfl rfl rfl rfl rfl rfl rfl ⟨rfl, rfl, rfl, rfl, rfl⟩ rfl rfl rfl rfl rfl (by kernel_rfl) Try.func4 (by kernel_rfl)
    (of_decide_eq_true (by kernel_rfl)) (by unfold Func.isWrapper; first | (rw [if_pos (by decide +kernel)]; kernel_rfl) | (rw [if_neg (by decide +kernel)]; exact ⟨rfl, rfl⟩))
    (fun os started H enc _ => Tr.cacheModel_lifted os started H enc)
#print axioms cacheModel_holds
end Go.Proofs.Ytjnlpphnaldjeaa
