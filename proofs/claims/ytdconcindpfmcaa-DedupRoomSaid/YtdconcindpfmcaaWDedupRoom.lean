/- DedupRoom: the walk and what it computes. -/
import Derived.Test.YtdconcindpfmcaaDe
import Derived.Test.YtdconcindpfmcaaK
set_option linter.unusedVariables false
set_option linter.unusedSimpArgs false
namespace Go.Proofs.Ytdconcindpfmcaa
open V A
theorem room_same (num f : Int) (hf : 1 ≤ f) : offerP [(num, ⟨f, [(f, fr0)]⟩)] num f f fr0 = ([(num, ⟨f, [(f, fr0)]⟩)], ⟨2, 0, []⟩) := by
  have e : PC.up ⟨f, [(f, fr0)]⟩ f f = ⟨f, [(f, fr0)]⟩ := by
    unfold PC.up PC.sweep mx mn
    simp [keepE, fr0]
  unfold offerP offerC
  simp only [aget, if_true, e]
  simp [aput, fr0]
theorem room_far (num f k : Int) (hf : 1 ≤ f) (hk : 1 ≤ k) : offerP [(num, ⟨f, [(f, fr0)]⟩)] num (f + k) f fr0 = if 16 ≤ k then ([(num, ⟨f, [(f, fr0)]⟩)], ⟨5, 0, []⟩) else ([(num, ⟨f, [(f, fr0), (f + k, fr0)]⟩)], ⟨1, 0, []⟩) := by
  have e : PC.up ⟨f, [(f, fr0)]⟩ (f + k) f = ⟨f, [(f, fr0)]⟩ := by
    unfold PC.up PC.sweep mx mn
    have : ¬ f + k < f := by omega
    simp [keepE, fr0, this]
  have h1 : ¬ f + k < f := by omega
  have h2 : ¬ f = f + k := by omega
  have h3 : f + k - f = k := by omega
  unfold offerP offerC
  simp only [aget, if_true, e, h1, if_false, h2, h3]
  simp only [aput, if_true, h2, if_false]
  have : ¬ 64 ≤ lenT [(num, ⟨f, [(f, fr0)]⟩)] := by simp [lenT]
  simp only [this, or_false]
theorem room_up (num f k : Int) (hf : 1 ≤ f) (hk : 1 ≤ k) : offerP [(num, ⟨f, [(f, fr0)]⟩)] num (f + k) (f + k) fr0 = ([(num, ⟨f + k, [(f, fr0), (f + k, fr0)]⟩)], ⟨1, 0, []⟩) := by
  have e : PC.up ⟨f, [(f, fr0)]⟩ (f + k) (f + k) = ⟨f + k, [(f, fr0)]⟩ := by
    unfold PC.up PC.sweep mx mn
    have : f + k > f := by omega
    simp [keepE, fr0, this]
  have h1 : ¬ f + k < f + k := by omega
  have h2 : ¬ f = f + k := by omega
  have h3 : f + k - (f + k) = 0 := by omega
  unfold offerP offerC
  simp only [aget, if_true, e, h1, if_false, h2, h3]
  simp only [aput, if_true, h2, if_false]
  have : ¬ 64 ≤ lenT [(num, ⟨f + k, [(f, fr0)]⟩)] := by simp [lenT]
  simp [this]
set_option maxRecDepth 100000 in
theorem dedupRoom_spec {num f : Int} {b : UInt8} (hf0 : 0 ≤ f) (hf1 : f < 18446744073709551616) : FSpec Try.prog 8 [.v (kI num) 0, .v (kU f) 0, .v (byV b) 0] [] fun a _ => a = .v (.bool true) 0 := by
  refine a_enter hT [.v (kI num) 0, .v (kU f) 0, .v (byV b) 0] [] Try.func8 rfl rfl rfl ⟨rfl, rfl, rfl, trivial⟩ fun c => ?_
  refine a_call hT rfl rfl rfl (by kernel_rfl) awake_spec [] [] rfl rfl ?_
  rintro _ _ ⟨rfl, rfl⟩
  refine a_gf hT rfl rfl rfl rfl ?_
  refine a_g hT rfl rfl rfl (fun h0 => ?_) (fun h0 => ?_)
  · refine a_t hT rfl rfl rfl ?_
    refine a_call hT rfl rfl rfl (by kernel_rfl) awake_spec [] [] rfl rfl ?_
    rintro _ _ ⟨rfl, rfl⟩
    exact a_ret hT [] rfl rfl rfl rfl rfl rfl rfl
  have h0' : ¬ f = 0 := of_decide_eq_false h0
  refine a_if hT rfl rfl (fun h6 => ?_) (fun h6 => ?_)
  · refine a_call hT rfl rfl rfl (by kernel_rfl) awake_spec [] [] rfl rfl ?_
    rintro _ _ ⟨rfl, rfl⟩
    exact a_ret hT [] rfl rfl rfl rfl rfl rfl rfl
  have h6' : f ≤ 1152921504606846976 := by
    have : ¬ f > 1152921504606846976 := of_decide_eq_false h6
    omega
  refine a_call hT rfl rfl rfl (by kernel_rfl) new_spec [] [10] rfl rfl ?_
  rintro _ _ ⟨g, rfl, rfl⟩
  have hw1 : wfT [(num, ⟨f, [(f, fr0)]⟩)] := by
    have := offer_wf wfT.nil num f f (fresh := fr0) (by simp [fr0])
    rw [offer_first num f (by omega)] at this
    exact this
  refine a_call hT rfl rfl rfl (by kernel_rfl) (Offer_at wfT.nil hf0 hf1 hf0 (offer_first num f (by omega)) (by decide)) [10] [10] rfl rfl ?_
  rintro _ _ ⟨rfl, rfl⟩
  refine a_f hT rfl rfl rfl ?_
  have hk0 : b.toNat % 64 < 64 := Nat.mod_lt _ (by decide)
  have hrem : ((b.toNat : Int)).tmod 64 = ((b.toNat % 64 : Nat) : Int) := rfl
  generalize hk : b.toNat % 64 = k at hk0 hrem
  refine a_bin hT (.int .u8 k) rfl rfl rfl (by decide) rfl rfl (fun w => by rw [← hrem]; exact bin_rem (by decide) w) ?_
  refine a_bin hT (.int .u8 k) rfl rfl rfl (by decide) rfl rfl (fun w => by rw [← hrem]; exact bin_rem (by decide) w) ?_
  have hk8 : IntKind.u64.wrap (k : Int) = k := wrapU64 (by omega) (by omega)
  have hadd : IntKind.u64.wrap (f + IntKind.u64.wrap (k : Int)) = f + k := by rw [hk8]; exact wrapU64 (by omega) (by omega)
  refine a_as 8 (b := .v (kU (f + k)) 0) rfl (by show Value.int .u64 (IntKind.u64.wrap (f + IntKind.u64.wrap (k : Int))) = .int .u64 (f + k); rw [hadd]) ?_
  refine a_if hT rfl rfl (fun hz => ?_) (fun hz => ?_)
  · have hz' : (k : Int) = 0 := of_decide_eq_true hz
    refine a_call hT rfl rfl rfl (by kernel_rfl) (Offer_at hw1 (tok := f + k) (by omega) (by omega) hf0 (by rw [hz', Int.add_zero]; exact room_same num f (by omega)) (by decide)) [10] [10] rfl rfl ?_
    rintro _ _ ⟨rfl, rfl⟩
    exact a_ret hT [] rfl rfl rfl rfl rfl rfl rfl
  · have hz' : ¬ (k : Int) = 0 := of_decide_eq_false hz
    have hfar := room_far num f k (by omega) (by omega)
    by_cases h16 : 16 ≤ (k : Int)
    · rw [if_pos h16] at hfar
      refine a_call hT rfl rfl rfl (by kernel_rfl) (Offer_at hw1 (tok := f + k) (by omega) (by omega) hf0 hfar (by decide)) [10] [10] rfl rfl ?_
      rintro _ _ ⟨rfl, rfl⟩
      refine a_new hT hZ 20 rfl rfl rfl rfl fun gv => ?_
      refine a_bin hT (.int .u8 k) rfl rfl rfl (by decide) rfl rfl (fun w => by rw [← hrem]; exact bin_rem (by decide) w) ?_
      refine a_f hT rfl rfl (by rw [decide_eq_false_iff_not]; omega) ?_
      refine a_gt hT rfl rfl rfl rfl ?_
      refine a_call hT rfl rfl rfl (by kernel_rfl) (Offer_at hw1 (tok := f + k) (by omega) (by omega) (by omega) (room_up num f k (by omega) (by omega)) (by decide)) [10] [10] rfl rfl ?_
      rintro _ _ ⟨rfl, rfl⟩
      refine a_gt hT rfl rfl rfl rfl ?_
      refine a_call hT rfl rfl rfl (by kernel_rfl) Floor_spec [10] [10] rfl rfl ?_
      rintro _ _ ⟨_, ⟨rfl, rfl⟩, rfl⟩
      refine a_ret hT [] rfl rfl rfl rfl rfl rfl ?_
      show AV.v (.bool (decide (floorP [(num, ⟨f + k, [(f, fr0), (f + k, fr0)]⟩)] num = f + k))) 0 = _
      simp [floorP, aget]
    · rw [if_neg h16] at hfar
      refine a_call hT rfl rfl rfl (by kernel_rfl) (Offer_at hw1 (tok := f + k) (by omega) (by omega) hf0 hfar (by decide)) [10] [10] rfl rfl ?_
      rintro _ _ ⟨rfl, rfl⟩
      refine a_new hT hZ 20 rfl rfl rfl rfl fun gv => ?_
      refine a_bin hT (.int .u8 k) rfl rfl rfl (by decide) rfl rfl (fun w => by rw [← hrem]; exact bin_rem (by decide) w) ?_
      refine a_t hT rfl rfl (by rw [decide_eq_true_iff]; omega) ?_
      exact a_ret hT [] rfl rfl rfl rfl rfl rfl rfl
theorem dedupRoom_walk (W : World) (args : Array Value) (ha : ArgsOk Try.prog W [3, 43, 5] [[.int .i64], [.int .u64], [.int .u8]] args.toList) : Calls Try.prog 8 args W (LawR W) := by
  obtain ⟨v, v2, v3, rfl, h1, h2, h3⟩ := argv_three ha
  obtain ⟨n, rfl, _, _⟩ := arg_i64 h1 (by kernel_rfl)
  obtain ⟨m, rfl, hm⟩ := arg_u64 h2 (by kernel_rfl)
  obtain ⟨b, rfl⟩ := arg_u8 h3 (by kernel_rfl)
  exact law_of (dedupRoom_spec (num := n) (f := (m : Int)) (b := b) (by omega) (by omega)) (Reps.cons mk_v (Reps.cons mk_v (Reps.cons mk_v Reps.nil)))
end Go.Proofs.Ytdconcindpfmcaa
