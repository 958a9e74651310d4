/- A nil client makes no call, and knows of none. It holds of every input; no condition. -/
import Derived.Test.YtepjnmocepkfjaaRows
import Derived.Test.YtepjnmocepkfjaaWClientNil
import Derived.WalkKit
import Derived.ProofKit
import Derived.OpenShut
import Derived.SizedLaws
set_option linter.unusedVariables false
namespace Go.Proofs.Ytepjnmocepkfjaa
open V
theorem clientNil_own : ownKnob Try.prog.godebug = none := by kernel_rfl
set_option maxRecDepth 100000 in
theorem clientNil_lifted (os : Os) (started : os.Started) (H : Type) (enc : TypeId × Value → H) :
    ReturnsInHanded {} Try.checked os 8 .any (Rows.clientNilSpec.pre6 enc Try.prog Try.f8 Rows.clientNilRow.domain false) (Rows.clientNilSpec.post enc Try.prog Try.f8 false true false false) := by
  refine returnsInHanded_of_change_sized (C := Try.checked) clientNil_own started (by kernel_rfl) Try.func8
    (ChangeSpec.witness6 (enc := enc) (C := Try.checked) false ⟨#[], #[.agg #[.int .i64 0, .int .i64 0, .int .u64 0, .int .i64 0, .int .i64 0, .slice none 0 0, .int .i64 0, .int .i64 0, .int .u64 0, .int .i64 0, .int .u64 0, .int .i64 0, .int .i64 0, .int .i64 0, .slice none 0 0]], []⟩ 8 (by kernel_rfl) (by kernel_rfl) (by kernel_rfl) (by kernel_rfl)) ?_
  intro W base args ds gs before hval hW hcnd hsz _
  exact law_post (tys := [[.int .i64, .int .i64, .int .u64, .int .i64, .int .i64, .sl [.int .u8], .int .i64, .int .i64, .int .u64, .int .i64, .int .u64, .int .i64, .int .i64, .int .i64, .sl [.int .u8]]]) (by kernel_rfl) (by kernel_rfl) (by kernel_rfl) (b := 4) rfl (by kernel_rfl) rfl (fun ds hd => by
    match ds, hd with | [d], _ => exact ⟨rfl, rfl, rfl⟩) clientNil_walk W base args ds gs before hval hW hsz rfl
theorem clientNil_over : Rows.clientNilRow.holds Try.pinned (OpenSpec.ofChange Rows.clientNilSpec) :=
  OpenClaim.holds_of_wide 8 Try.f8 rfl rfl rfl rfl rfl rfl rfl ⟨rfl, rfl, rfl, rfl, rfl⟩ rfl rfl rfl rfl rfl (by kernel_rfl) Try.func8 (by kernel_rfl)
    (of_decide_eq_true (by kernel_rfl)) (by unfold Func.isWrapper; first | (rw [if_pos (by decide +kernel)]; kernel_rfl) | (rw [if_neg (by decide +kernel)]; exact ⟨rfl, rfl⟩))
    (fun os started H enc _ => clientNil_lifted os started H enc)
/-- The row. -/
theorem clientNil_holds : Rows.ClientNilSaid := clientNil_over
end Go.Proofs.Ytepjnmocepkfjaa
