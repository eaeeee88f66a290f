/- The rows of the laws: each holds for every input. Conditions: none. -/
import Derived.Test.YtfdmajkeihdhnaaTo
import Derived.Test.YtfdmajkeihdhnaaBadE
namespace Go.Proofs.Ytfdmajkeihdhnaa.Tr
open Go Go.RowKit Go.ChangeShapes Go.WideShapes Go.ChangeAt
set_option synthInstance.maxHeartbeats 400000
set_option synthInstance.maxSize 4096
set_option linter.unusedVariables false
set_option linter.unnecessarySimpa false
theorem law_own : ownKnob Try.prog.godebug = none := by kernel_rfl
theorem law_laid : laidOutB Try.prog = true := by kernel_rfl
instance : TOpen Try.prog 5 UInt8 inferInstance := topen_u8 (by kernel_rfl)
set_option maxRecDepth 100000 in
theorem badGood_lifted (os : Os) (started : os.Started) (H : Type) (enc : TypeId × Value → H) :
    ReturnsInHanded {} Try.checked os 6 .any (Rows.badGoodSpec.pre6 enc Try.prog Try.f6 Rows.badGoodRow.domain false) (Rows.badGoodSpec.post enc Try.prog Try.f6 false true false false) := by
  refine returnsInHanded_of_change_sized (C := Try.checked) law_own started (by kernel_rfl) Try.func6
    (ChangeSpec.witness6 (enc := enc) (C := Try.checked) false ⟨#[], #[.int .u8 0, .int .u8 0, .int .u8 0], []⟩ 8 (by kernel_rfl) (by kernel_rfl) (by kernel_rfl) (by kernel_rfl)) ?_
  intro W base args ds gs before hval0 hW hcnd hsz0 _
  have hval : ∀ (j : Nat) t v, Try.f6.params[j]? = some t → args[j]? = some v → Value.okWide Try.prog W .any base t v := hval0
  have hW' := hW
  obtain ⟨p, q, hA0, hV, rfl, hfz, hnd⟩ := hW
  have hA : DataW.TrodAll enc Try.prog W 0 (fun _ => true) true Try.f6.params.toList args.toList ds p := hA0
  have hsz : ∀ n ∈ DataW.weightsEach Try.prog Try.f6.params.toList ds, n ≤ reachBytes := fun n hn => by
    obtain ⟨rfl, -⟩ := trodVars_none hV
    have := List.all_eq_true.1 hsz0 n (by
      show n ∈ DataW.weightsEach Try.prog (Try.f6.params.toList ++ []) (ds ++ [])
      rw [List.append_nil, List.append_nil]; exact hn)
    simpa using this
  rw [Try.params6] at hA hval hsz
  obtain ⟨v0, vs0, d0, ds0, p0, q0, hargs, rfl, rfl, h0, r0⟩ := trodAll_cons hA
  obtain ⟨v1, vs1, d1, ds1, p1, q1, rfl, rfl, rfl, h1, r1⟩ := trodAll_cons r0
  obtain ⟨v2, vs2, d2, ds2, p2, q2, rfl, rfl, rfl, h2, r2⟩ := trodAll_cons r1
  obtain ⟨rfl, rfl, rfl⟩ := trodAll_nil r2
  obtain rfl : args = #[v0, v1, v2] := by cases args; simp_all
  obtain ⟨x0, y0⟩ := top_open h0 (hval 0 _ v0 rfl rfl) (fun n hn => hsz n (DataW.weights_mem_each (j := 0) rfl rfl n hn))
  obtain ⟨x1, y1⟩ := top_open h1 (hval 1 _ v1 rfl rfl) (fun n hn => hsz n (DataW.weights_mem_each (j := 1) rfl rfl n hn))
  obtain ⟨x2, y2⟩ := top_open h2 (hval 2 _ v2 rfl rfl) (fun n hn => hsz n (DataW.weights_mem_each (j := 2) rfl rfl n hn))
  refine (bywaylaw08_BadGood_c W v0 v1 v2 (fun _ _ => trivial) y0 y1 y2 (badGood_plain _ _ _)).mono fun e W1 h => ?_
  refine law_post (tb := 4) law_laid (by kernel_rfl) (by kernel_rfl) rfl (by rw [Try.params6]; decide +kernel) rfl hW' h
end Go.Proofs.Ytfdmajkeihdhnaa.Tr
namespace Go.Proofs.Ytfdmajkeihdhnaa
open Go Go.RowKit Go.ChangeShapes Go.WideShapes Go.ChangeAt
/-- the statement -/
theorem badGood_holds : Rows.BadGoodSaid :=
  OpenClaim.holds_of_wide 6 Try.f6 rfl rfl rfl rfl rfl rfl rfl ⟨rfl, rfl, rfl, rfl, rfl⟩ rfl rfl rfl rfl rfl (by kernel_rfl) Try.func6 (by kernel_rfl)
    (of_decide_eq_true (by kernel_rfl)) (by unfold Func.isWrapper; first | (rw [if_pos (by decide +kernel)]; kernel_rfl) | (rw [if_neg (by decide +kernel)]; exact ⟨rfl, rfl⟩))
    (fun os started H enc _ => Tr.badGood_lifted os started H enc)
#print axioms badGood_holds
end Go.Proofs.Ytfdmajkeihdhnaa
