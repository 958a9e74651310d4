/- Just so many packets are under way, and behind one that is gone there is room again. It holds of every input; no condition. -/
import Derived.Test.YtdconcindpfmcaaRows
import Derived.Test.YtdconcindpfmcaaWNetFull
import Derived.WalkKit
import Derived.ProofKit
import Derived.OpenShut
import Derived.SizedLaws
set_option linter.unusedVariables false
namespace Go.Proofs.Ytdconcindpfmcaa
open V
theorem netFull_own : ownKnob Try.prog.godebug = none := by kernel_rfl
set_option maxRecDepth 100000 in
theorem netFull_lifted (os : Os) (started : os.Started) (H : Type) (enc : TypeId × Value → H) :
    ReturnsInHanded {} Try.checked os 7 .any (Rows.netFullSpec.pre6 enc Try.prog Try.f7 Rows.netFullRow.domain false) (Rows.netFullSpec.post enc Try.prog Try.f7 false true false false) := by
  refine returnsInHanded_of_change_sized (C := Try.checked) netFull_own started (by kernel_rfl) Try.func7
    (ChangeSpec.witness6 (enc := enc) (C := Try.checked) false ⟨#[], #[.int .u8 0, .slice none 0 0], []⟩ 8 (by kernel_rfl) (by kernel_rfl) (by kernel_rfl) (by kernel_rfl)) ?_
  intro W base args ds gs before hval hW hcnd hsz _
  exact law_post (tys := [[.int .u8], [.sl [.int .u8]]]) (by kernel_rfl) (by kernel_rfl) (by kernel_rfl) (b := 4) rfl (by kernel_rfl) rfl (fun ds hd => by
    match ds, hd with | [d1, d2], _ => exact ⟨rfl, rfl, rfl⟩) netFull_walk W base args ds gs before hval hW hsz rfl
theorem netFull_over : Rows.netFullRow.holds Try.pinned (OpenSpec.ofChange Rows.netFullSpec) :=
  OpenClaim.holds_of_wide 7 Try.f7 rfl rfl rfl rfl rfl rfl rfl ⟨rfl, rfl, rfl, rfl, rfl⟩ rfl rfl rfl rfl rfl (by kernel_rfl) Try.func7 (by kernel_rfl)
    (of_decide_eq_true (by kernel_rfl)) (by unfold Func.isWrapper; first | (rw [if_pos (by decide +kernel)]; kernel_rfl) | (rw [if_neg (by decide +kernel)]; exact ⟨rfl, rfl⟩))
    (fun os started H enc _ => netFull_lifted os started H enc)
/-- The row. -/
theorem netFull_holds : Rows.NetFullSaid := netFull_over
end Go.Proofs.Ytdconcindpfmcaa
