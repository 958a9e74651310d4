/- Layer 17's laws: what they use. -/
import Derived.Test.YtdconcindpfmcaaEj
import Derived.Test.YtdconcindpfmcaaK
set_option linter.unusedVariables false
set_option linter.unusedSimpArgs false
namespace Go.Proofs.Ytdconcindpfmcaa
open V A
theorem tawake_spec : FSpec Try.prog 40 [] [] fun a cs => a = .v (.bool true) 0 ∧ cs = [] := by
  refine a_enter hT [] [] Try.func40 rfl rfl rfl trivial fun c => ?_
  refine a_call hT rfl rfl rfl (by kernel_rfl) tnew_spec [] [10] rfl rfl ?_
  rintro _ _ ⟨g, rfl, rfl⟩
  refine a_callF hT rfl rfl rfl (by kernel_rfl) (tset_spec (g := g) (h := 10) (h1 := 0) (h2 := 0) (S := []) (k := 5) (d := 10) (by simp) (by decide)) [10] [10] ⟨rfl, rfl, rfl, trivial⟩ rfl ⟨rfl, trivial⟩ ?_
  rintro _ _ ⟨_, rfl, rfl⟩
  refine a_call hT rfl rfl rfl (by kernel_rfl) tlen_spec [10] [10] rfl rfl ?_
  rintro _ _ ⟨_, ⟨rfl, rfl⟩, rfl⟩
  exact a_ret hT [] rfl rfl rfl rfl rfl rfl ⟨rfl, rfl⟩
def tnilP : AV := .v (.pointer none) 0
theorem tset_nil {a b : AV} : FSpec Try.prog 42 [tnilP, a, b] [] fun r cs => cs = [] := by
  refine a_enter hT [tnilP, a, b] [] Try.func42 rfl rfl rfl (Fits.refl _) fun c => ?_
  refine a_t hT rfl rfl rfl ?_
  exact a_ret hT [] rfl rfl rfl rfl rfl rfl rfl
theorem tlen_nil : FSpec Try.prog 43 [tnilP] [] fun r cs => r = .v (kI 0) 0 ∧ cs = [] := by
  refine a_enter hT [tnilP] [] Try.func43 rfl rfl rfl (Fits.refl _) fun c => ?_
  refine a_t hT rfl rfl rfl ?_
  exact a_ret hT [] rfl rfl rfl rfl rfl rfl ⟨rfl, rfl⟩
theorem tfirst_nil : FSpec Try.prog 44 [tnilP] [] fun r cs => r = .tup [.v (kI 0) 0, .v (.bool false) 0] ∧ cs = [] := by
  refine a_enter hT [tnilP] [] Try.func44 rfl rfl rfl (Fits.refl _) fun c => ?_
  refine a_call hT rfl rfl rfl (by kernel_rfl) tlen_nil [] [] rfl rfl ?_
  rintro _ _ ⟨rfl, rfl⟩
  refine a_t hT rfl rfl rfl ?_
  exact a_ret hT [] rfl rfl rfl rfl rfl rfl ⟨rfl, rfl⟩
theorem tnext_nil {a : AV} : FSpec Try.prog 45 [tnilP, a] [] fun r cs => r = .tup [.v (kU 0) 0, .v (.bool false) 0] ∧ cs = [] := by
  refine a_enter hT [tnilP, a] [] Try.func45 rfl rfl rfl (Fits.refl _) fun c => ?_
  refine a_call hT rfl rfl rfl (by kernel_rfl) tfirst_nil [] [] rfl rfl ?_
  rintro _ _ ⟨rfl, rfl⟩
  refine a_gt hT rfl rfl rfl rfl ?_
  refine a_t hT rfl rfl rfl ?_
  exact a_ret hT [] rfl rfl rfl rfl rfl rfl ⟨rfl, rfl⟩
theorem tdue_nil {a : AV} : FSpec Try.prog 50 [tnilP, a] [] fun r cs => r = .tup [.v (kI 0) 0, .v (.bool false) 0] ∧ cs = [] := by
  refine a_enter hT [tnilP, a] [] Try.func50 rfl rfl rfl (Fits.refl _) fun c => ?_
  refine a_t hT rfl rfl rfl ?_
  exact a_ret hT [] rfl rfl rfl rfl rfl rfl ⟨rfl, rfl⟩
theorem tstop_nil {a : AV} : FSpec Try.prog 47 [tnilP, a] [] fun r cs => r = .v (.bool false) 0 ∧ cs = [] := by
  refine a_enter hT [tnilP, a] [] Try.func47 rfl rfl rfl (Fits.refl _) fun c => ?_
  refine a_t hT rfl rfl rfl ?_
  exact a_ret hT [] rfl rfl rfl rfl rfl rfl ⟨rfl, rfl⟩
end Go.Proofs.Ytdconcindpfmcaa
