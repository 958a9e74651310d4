/- slices.Clone of bytes. -/
import Derived.Test.YtepjnmocepkfjaaU
import Derived.Test.YtepjnmocepkfjaaTa
set_option linter.unusedVariables false
set_option linter.unusedSimpArgs false
namespace Go.Proofs.Ytepjnmocepkfjaa
open V A
theorem el8 : elemOk Try.prog 5 1 = true := by kernel_rfl
/-- A copy of bytes is memory of its own. -/
theorem cloneB {l : List UInt8} (hl : l.length ≤ lim) : FSpec Try.prog 28 [.d (A.bytesD l)] [] fun a cs => ∃ x, a = .row x 1 ∧ cs = [.row x 5 1 (l.map eB)] := by
  refine a_enter hT [.d (A.bytesD l)] [] Try.func28 rfl rfl rfl ⟨rfl, trivial⟩ fun c => ?_
  refine a_isnil hT rfl rfl rfl rfl rfl rfl fun b hb => ?_
  refine a_if hT rfl rfl (fun h => ?_) (fun h => ?_)
  · refine a_run hT 4 rfl rfl ?_
    refine a_nilrow 2 1 5 1 rfl rfl ?_
    refine a_ret hT [1] rfl rfl rfl rfl rfl rfl ⟨_, rfl, ?_⟩
    rw [hb h]
  · refine a_lit hT 1 rfl rfl rfl rfl el8 rfl rfl rfl rfl fun x => ?_
    refine a_app hT 1 (l.map eB) rfl rfl rfl rfl el8 rfl rfl rfl rfl rfl rfl (by simpa using hl) fun x => ?_
    refine a_ret hT [1] rfl rfl rfl rfl rfl rfl ⟨x, rfl, rfl⟩
/-- .. frozen. -/
theorem cloneF {l : List UInt8} (hl : l.length ≤ lim) : FSpec Try.prog 28 [.d (A.bytesD l)] [] fun a cs => a = .d (A.bytesD l) ∧ cs = [] := (cloneB hl).freeze
end Go.Proofs.Ytepjnmocepkfjaa
