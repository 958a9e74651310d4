/- What is sent and only delivered from the front comes in the order in which it was sent, as it was. It holds of every input; no condition. -/
import Derived.Test.YtdconcindpfmcaaRows
import Derived.Test.YtdconcindpfmcaaWNetOrders
import Derived.WalkKit
import Derived.ProofKit
import Derived.OpenShut
import Derived.SizedLaws
set_option linter.unusedVariables false
namespace Go.Proofs.Ytdconcindpfmcaa
open V
theorem netOrders_own : ownKnob Try.prog.godebug = none := by kernel_rfl
set_option maxRecDepth 100000 in
theorem netOrders_lifted (os : Os) (started : os.Started) (H : Type) (enc : TypeId × Value → H) :
    ReturnsInHanded {} Try.checked os 6 .any (Rows.netOrdersSpec.pre6 enc Try.prog Try.f6 Rows.netOrdersRow.domain false) (Rows.netOrdersSpec.post enc Try.prog Try.f6 false true false false) := by
  refine returnsInHanded_of_change_sized (C := Try.checked) netOrders_own started (by kernel_rfl) Try.func6
    (ChangeSpec.witness6 (enc := enc) (C := Try.checked) false ⟨#[], #[.slice none 0 0, .int .u8 0], []⟩ 8 (by kernel_rfl) (by kernel_rfl) (by kernel_rfl) (by kernel_rfl)) ?_
  intro W base args ds gs before hval hW hcnd hsz _
  exact law_post (tys := [[.sl [.sl [.int .u8]]], [.int .u8]]) (by kernel_rfl) (by kernel_rfl) (by kernel_rfl) (b := 4) rfl (by kernel_rfl) rfl (fun ds hd => by
    match ds, hd with | [d1, d2], _ => exact ⟨rfl, rfl, rfl⟩) netOrders_walk W base args ds gs before hval hW hsz rfl
theorem netOrders_over : Rows.netOrdersRow.holds Try.pinned (OpenSpec.ofChange Rows.netOrdersSpec) :=
  OpenClaim.holds_of_wide 6 Try.f6 rfl rfl rfl rfl rfl rfl rfl ⟨rfl, rfl, rfl, rfl, rfl⟩ rfl rfl rfl rfl rfl (by kernel_rfl) Try.func6 (by kernel_rfl)
    (of_decide_eq_true (by kernel_rfl)) (by unfold Func.isWrapper; first | (rw [if_pos (by decide +kernel)]; kernel_rfl) | (rw [if_neg (by decide +kernel)]; exact ⟨rfl, rfl⟩))
    (fun os started H enc _ => netOrders_lifted os started H enc)
/-- The row. -/
theorem netOrders_holds : Rows.NetOrdersSaid := netOrders_over
end Go.Proofs.Ytdconcindpfmcaa
