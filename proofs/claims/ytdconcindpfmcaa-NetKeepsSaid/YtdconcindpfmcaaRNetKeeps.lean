/- What is sent, told and delivered is memory of its own. It holds of every input; no condition. -/
import Derived.Test.YtdconcindpfmcaaRows
import Derived.Test.YtdconcindpfmcaaWNetKeeps
import Derived.WalkKit
import Derived.ProofKit
import Derived.OpenShut
import Derived.SizedLaws
set_option linter.unusedVariables false
namespace Go.Proofs.Ytdconcindpfmcaa
open V
theorem netKeeps_own : ownKnob Try.prog.godebug = none := by kernel_rfl
set_option maxRecDepth 100000 in
theorem netKeeps_lifted (os : Os) (started : os.Started) (H : Type) (enc : TypeId × Value → H) :
    ReturnsInHanded {} Try.checked os 9 .any (Rows.netKeepsSpec.pre6 enc Try.prog Try.f9 Rows.netKeepsRow.domain false) (Rows.netKeepsSpec.post enc Try.prog Try.f9 false true false false) := by
  refine returnsInHanded_of_change_sized (C := Try.checked) netKeeps_own started (by kernel_rfl) Try.func9
    (ChangeSpec.witness6 (enc := enc) (C := Try.checked) false ⟨#[], #[.slice none 0 0, .int .u64 0, .int .u8 0], []⟩ 8 (by kernel_rfl) (by kernel_rfl) (by kernel_rfl) (by kernel_rfl)) ?_
  intro W base args ds gs before hval hW hcnd hsz _
  exact law_post (tys := [[.sl [.int .u8]], [.int .u64], [.int .u8]]) (by kernel_rfl) (by kernel_rfl) (by kernel_rfl) (b := 4) rfl (by kernel_rfl) rfl (fun ds hd => by
    match ds, hd with | [d1, d2, d3], _ => exact ⟨rfl, rfl, rfl⟩) netKeeps_walk W base args ds gs before hval hW hsz rfl
theorem netKeeps_over : Rows.netKeepsRow.holds Try.pinned (OpenSpec.ofChange Rows.netKeepsSpec) :=
  OpenClaim.holds_of_wide 9 Try.f9 rfl rfl rfl rfl rfl rfl rfl ⟨rfl, rfl, rfl, rfl, rfl⟩ rfl rfl rfl rfl rfl (by kernel_rfl) Try.func9 (by kernel_rfl)
    (of_decide_eq_true (by kernel_rfl)) (by unfold Func.isWrapper; first | (rw [if_pos (by decide +kernel)]; kernel_rfl) | (rw [if_neg (by decide +kernel)]; exact ⟨rfl, rfl⟩))
    (fun os started H enc _ => netKeeps_lifted os started H enc)
/-- The row. -/
theorem netKeeps_holds : Rows.NetKeepsSaid := netKeeps_over
end Go.Proofs.Ytdconcindpfmcaa
