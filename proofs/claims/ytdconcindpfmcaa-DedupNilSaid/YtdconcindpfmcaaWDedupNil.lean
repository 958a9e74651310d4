/- DedupNil: the walk. -/
import Derived.Test.YtdconcindpfmcaaWDedupOnce
set_option linter.unusedVariables false
set_option linter.unusedSimpArgs false
namespace Go.Proofs.Ytdconcindpfmcaa
open V A
def nilP : AV := .v (.pointer none) 0
theorem offer_nil {a b c : AV} : FSpec Try.prog 33 [nilP, a, b, c] [] fun r cs => r = .agg [.v (kI 0) 0, .v (kI 0) 0, nilA] ∧ cs = [] := by
  refine a_enter hT [nilP, a, b, c] [] Try.func33 rfl rfl rfl (Fits.refl _) fun c => ?_
  refine a_new hT hZ 20 rfl rfl rfl rfl fun gv => ?_
  refine a_t hT rfl rfl rfl ?_
  refine a_build hT hZ [.v (kI 0) 0, .v (kI 0) 0, nilA] rfl rfl rfl rfl rfl rfl ?_
  exact a_ret hT [] rfl rfl rfl rfl rfl rfl ⟨rfl, rfl⟩
theorem len_nil : FSpec Try.prog 58 [nilP] [] fun r cs => r = .v (kI 0) 0 ∧ cs = [] := by
  refine a_enter hT [nilP] [] Try.func58 rfl rfl rfl (Fits.refl _) fun c => ?_
  refine a_t hT rfl rfl rfl ?_
  exact a_ret hT [] rfl rfl rfl rfl rfl rfl ⟨rfl, rfl⟩
theorem floor_nil {a : AV} : FSpec Try.prog 34 [nilP, a] [] fun r cs => r = .v (kU 0) 0 ∧ cs = [] := by
  refine a_enter hT [nilP, a] [] Try.func34 rfl rfl rfl (Fits.refl _) fun c => ?_
  refine a_gt hT rfl rfl rfl rfl ?_
  refine a_t hT rfl rfl rfl ?_
  exact a_ret hT [] rfl rfl rfl rfl rfl rfl ⟨rfl, rfl⟩
theorem finish_nil {a b c d : AV} : FSpec Try.prog 38 [nilP, a, b, c, d] [] fun r cs => r = .v (.bool false) 0 ∧ cs = [] := by
  refine a_enter hT [nilP, a, b, c, d] [] Try.func38 rfl rfl rfl (Fits.refl _) fun c => ?_
  refine a_gt hT rfl rfl rfl rfl ?_
  refine a_t hT rfl rfl rfl ?_
  exact a_ret hT [] rfl rfl rfl rfl rfl rfl ⟨rfl, rfl⟩
theorem revoke_nil {a b c : AV} : FSpec Try.prog 39 [nilP, a, b, c] [] fun r cs => r = .v (.bool false) 0 ∧ cs = [] := by
  refine a_enter hT [nilP, a, b, c] [] Try.func39 rfl rfl rfl (Fits.refl _) fun c => ?_
  refine a_t hT rfl rfl rfl ?_
  exact a_ret hT [] rfl rfl rfl rfl rfl rfl ⟨rfl, rfl⟩
theorem entries_nil {a : AV} : FSpec Try.prog 57 [nilP, a] [] fun r cs => r = nilA ∧ cs = [] := by
  refine a_enter hT [nilP, a] [] Try.func57 rfl rfl rfl (Fits.refl _) fun c => ?_
  refine a_gt hT rfl rfl rfl rfl ?_
  refine a_t hT rfl rfl rfl ?_
  exact a_ret hT [] rfl rfl rfl rfl rfl rfl ⟨rfl, rfl⟩
theorem elO : elemOk Try.prog 61 6 = true := by kernel_rfl
set_option maxRecDepth 100000 in
theorem dedupNil_spec {o : SOp} (ho : o.ok) : FSpec Try.prog 17 [.agg (opCells o)] [] fun a _ => a = .v (.bool true) 0 := by
  refine a_enter hT [.agg (opCells o)] [] Try.func17 rfl rfl rfl (Fits.refl _) fun c => ?_
  refine a_box hT 20 rfl rfl rfl rfl fun g => ?_
  refine a_call hT rfl rfl rfl (by kernel_rfl) awake_spec [] [] rfl rfl ?_
  rintro _ _ ⟨rfl, rfl⟩
  refine a_gf hT rfl rfl rfl rfl ?_
  refine a_lit hT 21 rfl rfl rfl rfl elO rfl rfl rfl rfl fun x => ?_
  refine a_freeze 9 21 rfl rfl rfl rfl ?_
  refine a_call hT rfl rfl rfl (by kernel_rfl) (few_spec (l := [o]) (by show 1 ≤ reachBytes; decide) (fun q hq => by simp at hq; subst hq; exact ho.by_)) [] [] rfl rfl ?_
  rintro _ _ ⟨b, hb, rfl, rfl⟩
  cases b with
  | false =>
    refine a_t hT rfl rfl rfl ?_
    refine a_call hT rfl rfl rfl (by kernel_rfl) awake_spec [] [] rfl rfl ?_
    rintro _ _ ⟨rfl, rfl⟩
    exact a_ret hT [] rfl rfl rfl rfl rfl rfl rfl
  | true =>
    refine a_f hT rfl rfl rfl ?_
    refine a_call hT rfl rfl rfl (by kernel_rfl) offer_nil [] [] rfl rfl ?_
    rintro _ _ ⟨rfl, rfl⟩
    refine a_new hT hZ 22 rfl rfl rfl rfl fun gv => ?_
    refine a_gt hT rfl rfl rfl rfl ?_
    refine a_gt hT rfl rfl rfl rfl ?_
    refine a_call hT rfl rfl rfl (by kernel_rfl) finish_nil [] [] rfl rfl ?_
    rintro _ _ ⟨rfl, rfl⟩
    refine a_gt hT rfl rfl rfl rfl ?_
    refine a_call hT rfl rfl rfl (by kernel_rfl) revoke_nil [] [] rfl rfl ?_
    rintro _ _ ⟨rfl, rfl⟩
    refine a_gt hT rfl rfl rfl rfl ?_
    refine a_call hT rfl rfl rfl (by kernel_rfl) floor_nil [] [] rfl rfl ?_
    rintro _ _ ⟨rfl, rfl⟩
    refine a_gt hT rfl rfl rfl rfl ?_
    refine a_call hT rfl rfl rfl (by kernel_rfl) entries_nil [] [] rfl rfl ?_
    rintro _ _ ⟨rfl, rfl⟩
    refine a_gt hT rfl rfl rfl rfl ?_
    refine a_call hT rfl rfl rfl (by kernel_rfl) len_nil [] [] rfl rfl ?_
    rintro _ _ ⟨rfl, rfl⟩
    exact a_ret hT [] rfl rfl rfl rfl rfl rfl rfl
theorem dedupNil_walk (W : World) (args : Array Value) (ha : ArgsOk Try.prog W [61] [[.int .i64, .int .i64, .int .i64, .int .u64, .int .u64, .sl [.int .u8]]] args.toList) : Calls Try.prog 17 args W (LawR W) := by
  obtain ⟨v, rfl, ds, h1, h2, h3⟩ := argv_one ha
  obtain ⟨o, ho, hp, hok⟩ := sop_reads ds h1
  have hv := cvs_vrep hp h2
  rw [ho] at hv
  have hr : Rep no W (.agg (o.d.map .d)) v := by
    rw [h3.1 (by kernel_rfl)]
    unfold Rep
    exact ⟨_, by simp, Reps.ofV hv, hv.one⟩
  exact law_of (dedupNil_spec hok) (Reps.cons hr Reps.nil)
end Go.Proofs.Ytdconcindpfmcaa
