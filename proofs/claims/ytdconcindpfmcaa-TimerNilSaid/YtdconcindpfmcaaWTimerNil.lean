/- TimerNil: the walk. -/
import Derived.Test.YtdconcindpfmcaaEk
set_option linter.unusedVariables false
set_option linter.unusedSimpArgs false
namespace Go.Proofs.Ytdconcindpfmcaa
open V A
set_option maxRecDepth 100000 in
theorem timerNil_spec {k d : Int} : FSpec Try.prog 13 [.v (kU k) 0, .v (kI d) 0] [] fun a _ => a = .v (.bool true) 0 := by
  refine a_enter hT [.v (kU k) 0, .v (kI d) 0] [] Try.func13 rfl rfl rfl (Fits.refl _) fun c => ?_
  refine a_call hT rfl rfl rfl (by kernel_rfl) tawake_spec [] [] rfl rfl ?_
  rintro _ _ ⟨rfl, rfl⟩
  refine a_f hT rfl rfl rfl ?_
  refine a_call hT rfl rfl rfl (by kernel_rfl) tset_nil [] [] rfl rfl ?_
  rintro _ _ rfl
  refine a_call hT rfl rfl rfl (by kernel_rfl) tdue_nil [] [] rfl rfl ?_
  rintro _ _ ⟨rfl, rfl⟩
  refine a_call hT rfl rfl rfl (by kernel_rfl) tnext_nil [] [] rfl rfl ?_
  rintro _ _ ⟨rfl, rfl⟩
  refine a_call hT rfl rfl rfl (by kernel_rfl) tfirst_nil [] [] rfl rfl ?_
  rintro _ _ ⟨rfl, rfl⟩
  refine a_gt hT rfl rfl rfl rfl ?_
  refine a_gt hT rfl rfl rfl rfl ?_
  refine a_gt hT rfl rfl rfl rfl ?_
  refine a_gt hT rfl rfl rfl rfl ?_
  refine a_gt hT rfl rfl rfl rfl ?_
  refine a_gt hT rfl rfl rfl rfl ?_
  refine a_call hT rfl rfl rfl (by kernel_rfl) tlen_nil [] [] rfl rfl ?_
  rintro _ _ ⟨rfl, rfl⟩
  refine a_gt hT rfl rfl rfl rfl ?_
  refine a_call hT rfl rfl rfl (by kernel_rfl) tstop_nil [] [] rfl rfl ?_
  rintro _ _ ⟨rfl, rfl⟩
  exact a_ret hT [] rfl rfl rfl rfl rfl rfl rfl
theorem timerNil_walk (W : World) (args : Array Value) (ha : ArgsOk Try.prog W [43, 2] [[.int .u64], [.int .i64]] args.toList) : Calls Try.prog 13 args W (LawR W) := by
  obtain ⟨v, v2, rfl, h1, h2⟩ := argv_two ha
  obtain ⟨m, rfl, hm⟩ := arg_u64 h1 (by kernel_rfl)
  obtain ⟨n, rfl, _, _⟩ := arg_i64 h2 (by kernel_rfl)
  exact law_of (timerNil_spec (k := (m : Int)) (d := n)) (Reps.cons mk_v (Reps.cons mk_v Reps.nil))
end Go.Proofs.Ytdconcindpfmcaa
