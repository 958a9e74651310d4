/- ClientNil: the walk and what it computes. -/
import Derived.Test.YtepjnmocepkfjaaCl
set_option linter.unusedVariables false
set_option linter.unusedSimpArgs false
set_option maxRecDepth 100000
namespace Go.Proofs.Ytepjnmocepkfjaa
open V A
theorem clientNil_spec {o : COp} (ho : o.ok) : FSpec Try.prog 8 [.agg (opCells o)] [] fun a _ => a = .v (.bool true) 0 := by
  refine a_enter hT [.agg (opCells o)] [] Try.func8 rfl rfl rfl ⟨Fit.refl _, trivial⟩ fun c => ?_
  refine a_box hT 20 rfl rfl rfl rfl fun g => ?_
  refine a_call hT rfl rfl rfl (by kernel_rfl) cawake_spec [] [] rfl rfl ?_
  rintro _ _ ⟨rfl, rfl⟩
  refine a_gf hT rfl rfl rfl rfl ?_
  refine a_lit hT 21 rfl rfl rfl rfl (by kernel_rfl) rfl rfl rfl rfl fun x21 => ?_
  refine a_freeze 20 21 rfl rfl rfl rfl ?_
  refine a_call hT rfl rfl rfl (by kernel_rfl) (few_spec (l := [o]) (by show 1 ≤ reachBytes; decide) (fun q hq => by simp at hq; subst hq; exact ho)) [] [] rfl rfl ?_
  rintro _ _ ⟨b, hb, rfl, rfl⟩
  cases b with
  | false =>
    refine a_t hT rfl rfl rfl ?_
    refine a_call hT rfl rfl rfl (by kernel_rfl) cawake_spec [] [] rfl rfl ?_
    rintro _ _ ⟨rfl, rfl⟩
    exact a_ret hT [] rfl rfl rfl rfl rfl rfl rfl
  | true =>
    refine a_f hT rfl rfl rfl ?_
    refine a_callF hT rfl rfl rfl (by kernel_rfl) (ncall_spec (meth := o.method) (arg := o.bytes) (dl := o.deadline) (now := o.now) (h := 0) (h1 := 0) (h2 := 0) (h3 := 0)) [] [] ⟨rfl, rfl, rfl, rfl, rfl, trivial⟩ rfl trivial ?_
    rintro _ _ ⟨rfl, rfl⟩
    refine a_new hT hZ 21 rfl rfl rfl rfl fun g1 => ?_
    refine a_new hT hZ 22 rfl rfl rfl rfl fun g2 => ?_
    refine a_callF hT rfl rfl rfl (by kernel_rfl) (ncancel_spec (t := o.token) (now := o.now) (h := 0) (h1 := 0) (h2 := 0)) [] [] ⟨rfl, rfl, rfl, trivial⟩ rfl trivial ?_
    rintro _ _ ⟨rfl, rfl⟩
    refine a_new hT hZ 23 rfl rfl rfl rfl fun g3 => ?_
    refine a_new hT hZ 24 rfl rfl rfl rfl fun g4 => ?_
    refine a_callF hT rfl rfl rfl (by kernel_rfl) (ntake_spec (f := o.f) (h := 0)) [] [] ⟨rfl, ⟨rfl, rfl, rfl, rfl, rfl, rfl, rfl, rfl, rfl, trivial⟩, trivial⟩ rfl trivial ?_
    rintro _ _ ⟨rfl, rfl⟩
    refine a_new hT hZ 25 rfl rfl rfl rfl fun g5 => ?_
    refine a_callF hT rfl rfl rfl (by kernel_rfl) (ntick_spec (now := o.now) (h := 0) (h1 := 0)) [] [] ⟨rfl, rfl, trivial⟩ rfl trivial ?_
    rintro _ _ ⟨rfl, rfl⟩
    refine a_call hT rfl rfl rfl (by kernel_rfl) (nwake_spec (h := 0)) [] [] rfl rfl ?_
    rintro _ _ ⟨rfl, rfl⟩
    refine a_gt hT rfl rfl rfl rfl ?_
    refine a_gt hT rfl rfl rfl rfl ?_
    refine a_gt hT rfl rfl rfl rfl ?_
    refine a_gt hT rfl rfl rfl rfl ?_
    refine a_gt hT rfl rfl rfl rfl ?_
    refine a_call hT rfl rfl rfl (by kernel_rfl) (nopen_spec (h := 0)) [] [] rfl rfl ?_
    rintro _ _ ⟨rfl, rfl⟩
    refine a_gt hT rfl rfl rfl rfl ?_
    refine a_call hT rfl rfl rfl (by kernel_rfl) (nfloor_spec (h := 0)) [] [] rfl rfl ?_
    rintro _ _ ⟨rfl, rfl⟩
    refine a_ret hT [] rfl rfl rfl rfl rfl rfl ?_
    first | exact ⟨rfl, rfl⟩ | rfl
theorem clientNil_walk (W : World) (args : Array Value) (ha : ArgsOk Try.prog W [50] [[.int .i64, .int .i64, .int .u64, .int .i64, .int .i64, .sl [.int .u8], .int .i64, .int .i64, .int .u64, .int .i64, .int .u64, .int .i64, .int .i64, .int .i64, .sl [.int .u8]]] args.toList) : Calls Try.prog 8 args W (LawR W) := by
  obtain ⟨v, rfl, ds, h1, h2, h3⟩ := argv_one ha
  obtain ⟨o, ho, hp, hok⟩ := cop_reads ds h1
  have hv := cvs_vrep hp h2
  rw [ho] at hv
  have hr : Rep no W (.agg (o.d.map .d)) v := by
    rw [h3.1 (by kernel_rfl)]
    unfold Rep
    exact ⟨_, by simp, Reps.ofV hv, hv.one⟩
  exact law_of (clientNil_spec hok) (Reps.cons hr Reps.nil)
end Go.Proofs.Ytepjnmocepkfjaa
