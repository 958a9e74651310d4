import Derived.Test.YtepjnmocepkfjaaRows
import Derived.Test.YtepjnmocepkfjaaQClientPlays11
import Derived.WalkKit
import Derived.ProofKit
import Derived.OpenShut
import Derived.SizedLaws
section
/- Whatever is called, cancelled and taken, at whatever times, each event and frame is the document's. It holds of every input; no condition. -/
set_option linter.unusedVariables false
namespace Go.Proofs.Ytepjnmocepkfjaa
open V
theorem clientPlays_own : ownKnob Try.prog.godebug = none := by kernel_rfl
set_option maxRecDepth 100000 in
theorem clientPlays_lifted (os : Os) (started : os.Started) (H : Type) (enc : TypeId × Value → H) :
    ReturnsInHanded {} Try.checked os 7 .any (Rows.clientPlaysSpec.pre6 enc Try.prog Try.f7 Rows.clientPlaysRow.domain false) (Rows.clientPlaysSpec.post enc Try.prog Try.f7 false true false false) := by
  refine returnsInHanded_of_change_sized (C := Try.checked) clientPlays_own started (by kernel_rfl) Try.func7
    (ChangeSpec.witness6 (enc := enc) (C := Try.checked) false ⟨#[], #[.int .i64 0, .slice none 0 0], []⟩ 8 (by kernel_rfl) (by kernel_rfl) (by kernel_rfl) (by kernel_rfl)) ?_
  intro W base args ds gs before hval hW hcnd hsz _
  exact law_post (tys := [[.int .i64], [.sl [.int .i64, .int .i64, .int .u64, .int .i64, .int .i64, .sl [.int .u8], .int .i64, .int .i64, .int .u64, .int .i64, .int .u64, .int .i64, .int .i64, .int .i64, .sl [.int .u8]]]]) (by kernel_rfl) (by kernel_rfl) (by kernel_rfl) (b := 4) rfl (by kernel_rfl) rfl (fun ds hd => by
    match ds, hd with | [d1, d2], _ => exact ⟨rfl, rfl, rfl⟩) clientPlays_walk W base args ds gs before hval hW hsz rfl
theorem clientPlays_over : Rows.clientPlaysRow.holds Try.pinned (OpenSpec.ofChange Rows.clientPlaysSpec) :=
  OpenClaim.holds_of_wide 7 Try.f7 rfl rfl rfl rfl rfl rfl rfl ⟨rfl, rfl, rfl, rfl, rfl⟩ rfl rfl rfl rfl rfl (by kernel_rfl) Try.func7 (by kernel_rfl)
    (of_decide_eq_true (by kernel_rfl)) (by unfold Func.isWrapper; first | (rw [if_pos (by decide +kernel)]; kernel_rfl) | (rw [if_neg (by decide +kernel)]; exact ⟨rfl, rfl⟩))
    (fun os started H enc _ => clientPlays_lifted os started H enc)
/-- The row. -/
theorem clientPlays_holds : Rows.ClientPlaysSaid := clientPlays_over
end Go.Proofs.Ytepjnmocepkfjaa
end
