/- Just a window of calls beyond the floor can be open, and behind the first one's completion there is room again. It holds of every input; no condition. -/
import Derived.Test.YtepjnmocepkfjaaRows
import Derived.Test.YtepjnmocepkfjaaWClientFull
import Derived.WalkKit
import Derived.ProofKit
import Derived.OpenShut
import Derived.SizedLaws
set_option linter.unusedVariables false
namespace Go.Proofs.Ytepjnmocepkfjaa
open V
theorem clientFull_own : ownKnob Try.prog.godebug = none := by kernel_rfl
set_option maxRecDepth 100000 in
theorem clientFull_lifted (os : Os) (started : os.Started) (H : Type) (enc : TypeId × Value → H) :
    ReturnsInHanded {} Try.checked os 3 .any (Rows.clientFullSpec.pre6 enc Try.prog Try.f3 Rows.clientFullRow.domain false) (Rows.clientFullSpec.post enc Try.prog Try.f3 false true false false) := by
  refine returnsInHanded_of_change_sized (C := Try.checked) clientFull_own started (by kernel_rfl) Try.func3
    (ChangeSpec.witness6 (enc := enc) (C := Try.checked) false ⟨#[], #[.int .u8 0], []⟩ 8 (by kernel_rfl) (by kernel_rfl) (by kernel_rfl) (by kernel_rfl)) ?_
  intro W base args ds gs before hval hW hcnd hsz _
  exact law_post (tys := [[.int .u8]]) (by kernel_rfl) (by kernel_rfl) (by kernel_rfl) (b := 4) rfl (by kernel_rfl) rfl (fun ds hd => by
    match ds, hd with | [d], _ => exact ⟨rfl, rfl, rfl⟩) clientFull_walk W base args ds gs before hval hW hsz rfl
theorem clientFull_over : Rows.clientFullRow.holds Try.pinned (OpenSpec.ofChange Rows.clientFullSpec) :=
  OpenClaim.holds_of_wide 3 Try.f3 rfl rfl rfl rfl rfl rfl rfl ⟨rfl, rfl, rfl, rfl, rfl⟩ rfl rfl rfl rfl rfl (by kernel_rfl) Try.func3 (by kernel_rfl)
    (of_decide_eq_true (by kernel_rfl)) (by unfold Func.isWrapper; first | (rw [if_pos (by decide +kernel)]; kernel_rfl) | (rw [if_neg (by decide +kernel)]; exact ⟨rfl, rfl⟩))
    (fun os started H enc _ => clientFull_lifted os started H enc)
/-- The row. -/
theorem clientFull_holds : Rows.ClientFullSaid := clientFull_over
end Go.Proofs.Ytepjnmocepkfjaa
