/- A token that is the floor and the window, or more, isn't taken; with the floor raised it is. It holds of every input; no condition. -/
import Derived.Test.YtdconcindpfmcaaRows
import Derived.Test.YtdconcindpfmcaaWDedupRoom
import Derived.WalkKit
import Derived.ProofKit
import Derived.OpenShut
import Derived.SizedLaws
set_option linter.unusedVariables false
namespace Go.Proofs.Ytdconcindpfmcaa
open V
theorem dedupRoom_own : ownKnob Try.prog.godebug = none := by kernel_rfl
set_option maxRecDepth 100000 in
theorem dedupRoom_lifted (os : Os) (started : os.Started) (H : Type) (enc : TypeId × Value → H) :
    ReturnsInHanded {} Try.checked os 8 .any (Rows.dedupRoomSpec.pre6 enc Try.prog Try.f8 Rows.dedupRoomRow.domain false) (Rows.dedupRoomSpec.post enc Try.prog Try.f8 false true false false) := by
  refine returnsInHanded_of_change_sized (C := Try.checked) dedupRoom_own started (by kernel_rfl) Try.func8
    (ChangeSpec.witness6 (enc := enc) (C := Try.checked) false ⟨#[], #[.int .i64 0, .int .u64 0, .int .u8 0], []⟩ 8 (by kernel_rfl) (by kernel_rfl) (by kernel_rfl) (by kernel_rfl)) ?_
  intro W base args ds gs before hval hW hcnd hsz _
  exact law_post (tys := [[.int .i64], [.int .u64], [.int .u8]]) (by kernel_rfl) (by kernel_rfl) (by kernel_rfl) (b := 4) rfl (by kernel_rfl) rfl (fun ds hd => by
    match ds, hd with | [d1, d2, d3], _ => exact ⟨rfl, rfl, rfl⟩) dedupRoom_walk W base args ds gs before hval hW hsz rfl
theorem dedupRoom_over : Rows.dedupRoomRow.holds Try.pinned (OpenSpec.ofChange Rows.dedupRoomSpec) :=
  OpenClaim.holds_of_wide 8 Try.f8 rfl rfl rfl rfl rfl rfl rfl ⟨rfl, rfl, rfl, rfl, rfl⟩ rfl rfl rfl rfl rfl (by kernel_rfl) Try.func8 (by kernel_rfl)
    (of_decide_eq_true (by kernel_rfl)) (by unfold Func.isWrapper; first | (rw [if_pos (by decide +kernel)]; kernel_rfl) | (rw [if_neg (by decide +kernel)]; exact ⟨rfl, rfl⟩))
    (fun os started H enc _ => dedupRoom_lifted os started H enc)
/-- The row. -/
theorem dedupRoom_holds : Rows.DedupRoomSaid := dedupRoom_over
end Go.Proofs.Ytdconcindpfmcaa
