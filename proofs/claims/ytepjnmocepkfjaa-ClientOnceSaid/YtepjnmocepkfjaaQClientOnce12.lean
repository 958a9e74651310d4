import Derived.Test.YtepjnmocepkfjaaRows
import Derived.Test.YtepjnmocepkfjaaQClientOnce11
import Derived.WalkKit
import Derived.ProofKit
import Derived.OpenShut
import Derived.SizedLaws
section
/- Whatever is called, cancelled and taken, tokens are issued one behind the other, and each call completes at most once. It holds of every input; no condition. -/
set_option linter.unusedVariables false
namespace Go.Proofs.Ytepjnmocepkfjaa
open V
theorem clientOnce_own : ownKnob Try.prog.godebug = none := by kernel_rfl
set_option maxRecDepth 100000 in
theorem clientOnce_lifted (os : Os) (started : os.Started) (H : Type) (enc : TypeId × Value → H) :
    ReturnsInHanded {} Try.checked os 6 .any (Rows.clientOnceSpec.pre6 enc Try.prog Try.f6 Rows.clientOnceRow.domain false) (Rows.clientOnceSpec.post enc Try.prog Try.f6 false true false false) := by
  refine returnsInHanded_of_change_sized (C := Try.checked) clientOnce_own started (by kernel_rfl) Try.func6
    (ChangeSpec.witness6 (enc := enc) (C := Try.checked) false ⟨#[], #[.slice none 0 0], []⟩ 8 (by kernel_rfl) (by kernel_rfl) (by kernel_rfl) (by kernel_rfl)) ?_
  intro W base args ds gs before hval hW hcnd hsz _
  exact law_post (tys := [[.sl [.int .i64, .int .i64, .int .u64, .int .i64, .int .i64, .sl [.int .u8], .int .i64, .int .i64, .int .u64, .int .i64, .int .u64, .int .i64, .int .i64, .int .i64, .sl [.int .u8]]]]) (by kernel_rfl) (by kernel_rfl) (by kernel_rfl) (b := 4) rfl (by kernel_rfl) rfl (fun ds hd => by
    match ds, hd with | [d], _ => exact ⟨rfl, rfl, rfl⟩) clientOnce_walk W base args ds gs before hval hW hsz rfl
theorem clientOnce_over : Rows.clientOnceRow.holds Try.pinned (OpenSpec.ofChange Rows.clientOnceSpec) :=
  OpenClaim.holds_of_wide 6 Try.f6 rfl rfl rfl rfl rfl rfl rfl ⟨rfl, rfl, rfl, rfl, rfl⟩ rfl rfl rfl rfl rfl (by kernel_rfl) Try.func6 (by kernel_rfl)
    (of_decide_eq_true (by kernel_rfl)) (by unfold Func.isWrapper; first | (rw [if_pos (by decide +kernel)]; kernel_rfl) | (rw [if_neg (by decide +kernel)]; exact ⟨rfl, rfl⟩))
    (fun os started H enc _ => clientOnce_lifted os started H enc)
/-- The row. -/
theorem clientOnce_holds : Rows.ClientOnceSaid := clientOnce_over
end Go.Proofs.Ytepjnmocepkfjaa
end
