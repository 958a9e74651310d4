import Derived.Test.YtdconcindpfmcaaRows
import Derived.Test.YtdconcindpfmcaaQDedupReplays10
import Derived.WalkKit
import Derived.ProofKit
import Derived.OpenShut
import Derived.SizedLaws
section
/- A finished token's outcome is answered with its own bytes, a higher floor raises, a lower one is stale.. It holds of every input; no condition. -/
set_option linter.unusedVariables false
namespace Go.Proofs.Ytdconcindpfmcaa
open V
theorem dedupReplays_own : ownKnob Try.prog.godebug = none := by kernel_rfl
set_option maxRecDepth 100000 in
theorem dedupReplays_lifted (os : Os) (started : os.Started) (H : Type) (enc : TypeId × Value → H) :
    ReturnsInHanded {} Try.checked os 16 .any (Rows.dedupReplaysSpec.pre6 enc Try.prog Try.f16 Rows.dedupReplaysRow.domain false) (Rows.dedupReplaysSpec.post enc Try.prog Try.f16 false true false false) := by
  refine returnsInHanded_of_change_sized (C := Try.checked) dedupReplays_own started (by kernel_rfl) Try.func16
    (ChangeSpec.witness6 (enc := enc) (C := Try.checked) false ⟨#[], #[.int .i64 0, .int .u64 0, .int .i64 0, .slice none 0 0, .int .u8 0, .int .u64 0], []⟩ 8 (by kernel_rfl) (by kernel_rfl) (by kernel_rfl) (by kernel_rfl)) ?_
  intro W base args ds gs before hval hW hcnd hsz _
  exact law_post (tys := [[.int .i64], [.int .u64], [.int .i64], [.sl [.int .u8]], [.int .u8], [.int .u64]]) (by kernel_rfl) (by kernel_rfl) (by kernel_rfl) (b := 4) rfl (by kernel_rfl) rfl (fun ds hd => by
    match ds, hd with | [d1, d2, d3, d4, d5, d6], _ => exact ⟨rfl, rfl, rfl⟩) dedupReplays_walk W base args ds gs before hval hW hsz rfl
theorem dedupReplays_over : Rows.dedupReplaysRow.holds Try.pinned (OpenSpec.ofChange Rows.dedupReplaysSpec) :=
  OpenClaim.holds_of_wide 16 Try.f16 rfl rfl rfl rfl rfl rfl rfl ⟨rfl, rfl, rfl, rfl, rfl⟩ rfl rfl rfl rfl rfl (by kernel_rfl) Try.func16 (by kernel_rfl)
    (of_decide_eq_true (by kernel_rfl)) (by unfold Func.isWrapper; first | (rw [if_pos (by decide +kernel)]; kernel_rfl) | (rw [if_neg (by decide +kernel)]; exact ⟨rfl, rfl⟩))
    (fun os started H enc _ => dedupReplays_lifted os started H enc)
/-- The row. -/
theorem dedupReplays_holds : Rows.DedupReplaysSaid := dedupReplays_over
end Go.Proofs.Ytdconcindpfmcaa
end
