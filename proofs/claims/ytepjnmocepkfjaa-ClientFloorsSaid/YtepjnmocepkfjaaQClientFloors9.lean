import Derived.Test.YtepjnmocepkfjaaRows
import Derived.Test.YtepjnmocepkfjaaQClientFloors8
import Derived.WalkKit
import Derived.ProofKit
import Derived.OpenShut
import Derived.SizedLaws
section
/- Each frame that a client sends is formed, its floor is the least open token then, and floors never fall. It holds of every input; no condition. -/
set_option linter.unusedVariables false
namespace Go.Proofs.Ytepjnmocepkfjaa
open V
theorem clientFloors_own : ownKnob Try.prog.godebug = none := by kernel_rfl
set_option maxRecDepth 100000 in
theorem clientFloors_lifted (os : Os) (started : os.Started) (H : Type) (enc : TypeId × Value → H) :
    ReturnsInHanded {} Try.checked os 5 .any (Rows.clientFloorsSpec.pre6 enc Try.prog Try.f5 Rows.clientFloorsRow.domain false) (Rows.clientFloorsSpec.post enc Try.prog Try.f5 false true false false) := by
  refine returnsInHanded_of_change_sized (C := Try.checked) clientFloors_own started (by kernel_rfl) Try.func5
    (ChangeSpec.witness6 (enc := enc) (C := Try.checked) false ⟨#[], #[.slice none 0 0], []⟩ 8 (by kernel_rfl) (by kernel_rfl) (by kernel_rfl) (by kernel_rfl)) ?_
  intro W base args ds gs before hval hW hcnd hsz _
  exact law_post (tys := [[.sl [.int .i64, .int .i64, .int .u64, .int .i64, .int .i64, .sl [.int .u8], .int .i64, .int .i64, .int .u64, .int .i64, .int .u64, .int .i64, .int .i64, .int .i64, .sl [.int .u8]]]]) (by kernel_rfl) (by kernel_rfl) (by kernel_rfl) (b := 4) rfl (by kernel_rfl) rfl (fun ds hd => by
    match ds, hd with | [d], _ => exact ⟨rfl, rfl, rfl⟩) clientFloors_walk W base args ds gs before hval hW hsz rfl
theorem clientFloors_over : Rows.clientFloorsRow.holds Try.pinned (OpenSpec.ofChange Rows.clientFloorsSpec) :=
  OpenClaim.holds_of_wide 5 Try.f5 rfl rfl rfl rfl rfl rfl rfl ⟨rfl, rfl, rfl, rfl, rfl⟩ rfl rfl rfl rfl rfl (by kernel_rfl) Try.func5 (by kernel_rfl)
    (of_decide_eq_true (by kernel_rfl)) (by unfold Func.isWrapper; first | (rw [if_pos (by decide +kernel)]; kernel_rfl) | (rw [if_neg (by decide +kernel)]; exact ⟨rfl, rfl⟩))
    (fun os started H enc _ => clientFloors_lifted os started H enc)
/-- The row. -/
theorem clientFloors_holds : Rows.ClientFloorsSaid := clientFloors_over
end Go.Proofs.Ytepjnmocepkfjaa
end
