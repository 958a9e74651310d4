/- Whatever is set, stopped and taken, each answer is the document's. It holds of every input; no condition. -/
import Derived.Test.YtdconcindpfmcaaRows
import Derived.Test.YtdconcindpfmcaaWTimerPlays
import Derived.WalkKit
import Derived.ProofKit
import Derived.OpenShut
import Derived.SizedLaws
set_option linter.unusedVariables false
namespace Go.Proofs.Ytdconcindpfmcaa
open V
theorem timerPlays_own : ownKnob Try.prog.godebug = none := by kernel_rfl
set_option maxRecDepth 100000 in
theorem timerPlays_lifted (os : Os) (started : os.Started) (H : Type) (enc : TypeId × Value → H) :
    ReturnsInHanded {} Try.checked os 12 .any (Rows.timerPlaysSpec.pre6 enc Try.prog Try.f12 Rows.timerPlaysRow.domain false) (Rows.timerPlaysSpec.post enc Try.prog Try.f12 false true false false) := by
  refine returnsInHanded_of_change_sized (C := Try.checked) timerPlays_own started (by kernel_rfl) Try.func12
    (ChangeSpec.witness6 (enc := enc) (C := Try.checked) false ⟨#[], #[.slice none 0 0, .bool false], []⟩ 8 (by kernel_rfl) (by kernel_rfl) (by kernel_rfl) (by kernel_rfl)) ?_
  intro W base args ds gs before hval hW hcnd hsz _
  exact law_post (tys := [[.sl [.int .i64, .int .u64, .int .i64]], [.bool]]) (by kernel_rfl) (by kernel_rfl) (by kernel_rfl) (b := 4) rfl (by kernel_rfl) rfl (fun ds hd => by
    match ds, hd with | [d1, d2], _ => exact ⟨rfl, rfl, rfl⟩) timerPlays_walk W base args ds gs before hval hW hsz rfl
theorem timerPlays_over : Rows.timerPlaysRow.holds Try.pinned (OpenSpec.ofChange Rows.timerPlaysSpec) :=
  OpenClaim.holds_of_wide 12 Try.f12 rfl rfl rfl rfl rfl rfl rfl ⟨rfl, rfl, rfl, rfl, rfl⟩ rfl rfl rfl rfl rfl (by kernel_rfl) Try.func12 (by kernel_rfl)
    (of_decide_eq_true (by kernel_rfl)) (by unfold Func.isWrapper; first | (rw [if_pos (by decide +kernel)]; kernel_rfl) | (rw [if_neg (by decide +kernel)]; exact ⟨rfl, rfl⟩))
    (fun os started H enc _ => timerPlays_lifted os started H enc)
/-- The row. -/
theorem timerPlays_holds : Rows.TimerPlaysSaid := timerPlays_over
end Go.Proofs.Ytdconcindpfmcaa
