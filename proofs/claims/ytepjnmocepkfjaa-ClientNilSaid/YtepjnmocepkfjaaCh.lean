/- Layer 23's laws: awake. -/
import Derived.Test.YtepjnmocepkfjaaCg
set_option linter.unusedVariables false
set_option linter.unusedSimpArgs false
set_option maxRecDepth 100000
namespace Go.Proofs.Ytepjnmocepkfjaa
open V A
theorem cawake_spec : FSpec Try.prog 9 [] [] fun a cs => a = bA true ∧ cs = [] := by
  refine a_enter hT [] [] Try.func9 rfl rfl rfl trivial fun c => ?_
  refine a_call hT rfl rfl rfl (by kernel_rfl) (cnew_spec (by decide) (by decide)) [] [20] rfl rfl ?_
  rintro _ _ ⟨g, rfl, rfl⟩
  refine a_callF hT rfl rfl rfl (by kernel_rfl) (ccall_spec (C := ⟨1, 0, []⟩) (meth := 1) (arg := []) (dl := 10) (now := 0) (CS.ok.zero (by decide)) (by decide) (by decide) (h := 10) (h1 := 0) (h2 := 0) (h3 := 0)) [20] [20] ⟨rfl, rfl, ⟨rfl, rfl⟩, rfl, rfl, trivial⟩ rfl ⟨rfl, trivial⟩ ?_
  rintro _ _ ⟨C', ⟨rfl, rfl⟩, rfl⟩
  refine a_new hT hZ 21 rfl rfl rfl rfl fun g1 => ?_
  refine a_new hT hZ 22 rfl rfl rfl rfl fun g2 => ?_
  refine a_gt hT rfl rfl rfl rfl ?_
  refine a_gt hT rfl rfl rfl rfl ?_
  refine a_ret hT [] rfl rfl rfl rfl rfl rfl ?_
  first | exact ⟨rfl, rfl⟩ | rfl
end Go.Proofs.Ytepjnmocepkfjaa
