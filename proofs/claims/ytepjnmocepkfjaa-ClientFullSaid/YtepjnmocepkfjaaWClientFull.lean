/- ClientFull: the walk and what it computes. -/
import Derived.Test.YtepjnmocepkfjaaCh
import Derived.Test.YtepjnmocepkfjaaK
set_option linter.unusedVariables false
set_option linter.unusedSimpArgs false
set_option maxRecDepth 100000
namespace Go.Proofs.Ytepjnmocepkfjaa
open V A
def fC (C : CS) : CS × Evt × Fr × Int := callP C 1 [] 100 0
def fS : Nat → CS
  | 0 => ⟨1, 0, []⟩
  | i + 1 => (fC (fS i)).1
theorem fS_ok : ∀ i : Nat, i ≤ 16 → (fS i).ok ∧ (fS i).last ≤ i
  | 0, _ => ⟨CS.ok.zero (by decide), by decide⟩
  | i + 1, h => by
    obtain ⟨h1, h2⟩ := fS_ok i (by omega)
    have h3 := callP_ok h1 (by omega) 1 [] 100 0
    refine ⟨h3.1, ?_⟩
    show (callP (fS i) 1 [] 100 0).1.last ≤ _
    have := h3.2.1
    omega
theorem full_calls : ∀ i : Nat, i < 16 → (fC (fS i)).2.2.2 = 0 ∧ (fC (fS i)).2.2.1.token = i + 1 ∧ (fC (fS i)).2.2.1.floor = 1 := by decide +kernel
theorem full_17 : fC (fS 16) = (fS 16, noev, nofr, 14) := by
  unfold fC callP
  rw [if_neg (by decide +kernel), if_neg (by decide +kernel), if_pos (by decide +kernel)]
def fD (k : Nat) : CS := (cancelP (fS 16) k).1
def fE (k : Nat) : CS := (cancelP (fD k) 1).1
theorem full_18 : ∀ k : Nat, k < 17 → 2 ≤ k → (fC (fD k)).2.2.2 = 14 ∧ (fD k).fl = 1 ∧ (fD k).last = 16 := by decide +kernel
theorem full_19 : ∀ k : Nat, k < 17 → 2 ≤ k → (fC (fE k)).2.2.2 = 0 ∧ (fC (fE k)).2.2.1.token = 17 ∧ (fC (fE k)).2.2.1.floor = (if k = 2 then 3 else 2) ∧ (fC (fE k)).1.fl = (if k = 2 then 3 else 2) := by decide +kernel
theorem full_d {k : Nat} (h1 : k < 17) (h2 : 2 ≤ k) : (fC (fD k)).1 = fD k := by
  obtain ⟨h3, h4, h5⟩ := full_18 k h1 h2
  unfold fC callP
  rw [if_neg (by decide +kernel), if_neg (by decide +kernel), if_pos (by rw [h4, h5]; decide)]
theorem clientFull_spec {n : UInt8} : FSpec Try.prog 3 [.v (byV n) 0] [] fun a _ => a = .v (.bool true) 0 := by
  refine a_enter hT [.v (byV n) 0] [] Try.func3 rfl rfl rfl ⟨rfl, trivial⟩ fun c => ?_
  refine a_call hT rfl rfl rfl (by kernel_rfl) cawake_spec [] [] rfl rfl ?_
  rintro _ _ ⟨rfl, rfl⟩
  refine a_f hT rfl rfl rfl ?_
  refine a_call hT rfl rfl rfl (by kernel_rfl) (cnew_spec (by decide) (by decide)) [] [20] rfl rfl ?_
  rintro _ _ ⟨g, rfl, rfl⟩
  refine a_loop hT [0, 3, 22] (fun i : Nat => [.v (byV n) 0, ptrA g 10, .v (kI i) 0]) (fun i => [(20, .ext (cliA g (fS i)))]) (fun i => i ≤ 16) (fun i => 16 - i) 0 [20] rfl rfl (by omega) ⟨rfl, rfl, rfl, trivial⟩ rfl ⟨rfl, trivial⟩ ?_
  rintro i hi
  obtain ⟨hok, hlast⟩ := fS_ok i hi
  refine a_if hT rfl rfl (fun h1 => ?_) (fun h1 => ?_)
  · have h1 := of_decide_eq_true h1
    obtain ⟨f1, f2, f3⟩ := full_calls i (by omega)
    have f1 : (callP (fS i) 1 [] 100 0).2.2.2 = 0 := f1
    have f2 : (callP (fS i) 1 [] 100 0).2.2.1.token = i + 1 := f2
    have f3 : (callP (fS i) 1 [] 100 0).2.2.1.floor = 1 := f3
    have hw : IntKind.u64.wrap (IntKind.i64.wrap ((i : Int) + 1)) = (i : Int) + 1 := by rw [w64 (by omega) (by omega), wrapU (by omega) (by omega)]
    have hw' : IntKind.i64.wrap ((i : Int) + 1) = (i : Int) + 1 := w64 (by omega) (by omega)
    refine a_callF hT rfl rfl rfl (by kernel_rfl) (ccall_spec (C := fS i) (meth := 1) (arg := []) (dl := 100) (now := 0) hok (by decide) (by omega) (h := 10) (h1 := 0) (h2 := 0) (h3 := 0)) [20] [20] ⟨rfl, rfl, ⟨rfl, rfl⟩, rfl, rfl, trivial⟩ rfl ⟨rfl, trivial⟩ ?_
    rintro _ _ ⟨C', ⟨rfl, rfl⟩, rfl⟩
    refine a_new hT hZ 21 rfl rfl rfl rfl fun g1 => ?_
    refine a_new hT hZ 22 rfl rfl rfl rfl fun g2 => ?_
    refine a_g hT rfl rfl rfl (fun h => ?_) (fun h => ?_)
    · have h := bne_iff_ne.1 h
      (exfalso; first | omega | contradiction)
    · simp at h
      refine a_g hT rfl rfl rfl (fun h2 => ?_) (fun h2 => ?_)
      · have h2 := bne_iff_ne.1 h2
        (exfalso; first | omega | contradiction)
      · simp at h2
        refine a_if hT rfl rfl (fun h3 => ?_) (fun h3 => ?_)
        · have h3 := bne_iff_ne.1 h3
          (exfalso; first | omega | contradiction)
        · simp at h3
          refine a_next hT (i + 1) [20] rfl rfl ⟨by omega, by omega⟩ ⟨rfl, rfl, by show Value.int .i64 _ = Value.int .i64 _; rw [hw']; rfl, trivial⟩ rfl ⟨rfl, trivial⟩
  · have h1 := of_decide_eq_false h1
    have hi16 : i = 16 := by omega
    subst hi16
    have hk : ∃ k : Nat, 2 ≤ k ∧ k < 17 ∧ IntKind.u64.wrap (IntKind.u8.wrap (2 + Int.tmod (n.toNat : Int) 15)) = k := by
      refine ⟨2 + n.toNat % 15, by omega, by omega, ?_⟩
      have : n.toNat < 256 := n.toNat_lt
      have e : Int.tmod (n.toNat : Int) 15 = ((n.toNat % 15 : Nat) : Int) := rfl
      rw [e]
      have e2 : IntKind.u8.wrap (2 + ((n.toNat % 15 : Nat) : Int)) = 2 + ((n.toNat % 15 : Nat) : Int) := by
        unfold IntKind.wrap
        simp [IntKind.bits, IntKind.signed]
        omega
      rw [e2, wrapU (by omega) (by omega)]
      omega
    obtain ⟨k, hk2, hk17, hk⟩ := hk
    refine a_callF hT rfl rfl rfl (by kernel_rfl) (ccall_spec (C := fS 16) (meth := 1) (arg := []) (dl := 100) (now := 0) hok (by decide) (by omega) (h := 10) (h1 := 0) (h2 := 0) (h3 := 0)) [20] [20] ⟨rfl, rfl, ⟨rfl, rfl⟩, rfl, rfl, trivial⟩ rfl ⟨rfl, trivial⟩ ?_
    rintro _ _ ⟨C', ⟨rfl, rfl⟩, rfl⟩
    refine a_new hT hZ 21 rfl rfl rfl rfl fun g1 => ?_
    refine a_new hT hZ 22 rfl rfl rfl rfl fun g2 => ?_
    refine a_bin hT _ rfl rfl rfl (by decide) rfl rfl (fun w => (bin_rem (by decide) w)) ?_
    have e17 : callP (fS 16) 1 [] 100 0 = (fS 16, noev, nofr, 14) := full_17
    obtain ⟨g1', g2', g3'⟩ := full_18 k hk17 hk2
    have g1' : (callP (fD k) 1 [] 100 0).2.2.2 = 14 := g1'
    have g4' : (callP (fD k) 1 [] 100 0).1 = fD k := full_d hk17 hk2
    obtain ⟨k1, k2, k3, k4⟩ := full_19 k hk17 hk2
    have k1 : (callP (fE k) 1 [] 100 0).2.2.2 = 0 := k1
    have k2 : (callP (fE k) 1 [] 100 0).2.2.1.token = 17 := k2
    have k3 : (callP (fE k) 1 [] 100 0).2.2.1.floor = (if k = 2 then 3 else 2) := k3
    have k4 : (callP (fE k) 1 [] 100 0).1.fl = (if k = 2 then 3 else 2) := k4
    have hD := cancelP_ok hok k
    have hE := cancelP_ok hD.1 1
    have hEl : (fE k).last < 900000 := by have h1 : (fE k).last = (fD k).last := hE.2.1; omega
    have hEC := callP_ok hE.1 hEl 1 [] 100 0
    rw [e17]
    refine a_call hT rfl rfl rfl (by kernel_rfl) (ccancel_spec (C := fS 16) (t := IntKind.u64.wrap (IntKind.u8.wrap (2 + Int.tmod (n.toNat : Int) 15))) hok (by omega)) [20] [20] rfl rfl ?_
    rintro _ _ ⟨C', ⟨rfl, rfl⟩, rfl⟩
    rw [hk]
    refine a_callF hT rfl rfl rfl (by kernel_rfl) (ccall_spec (C := fD k) (meth := 1) (arg := []) (dl := 100) (now := 0) hD.1 (by decide) (by omega) (h := 10) (h1 := 0) (h2 := 0) (h3 := 0)) [20] [20] ⟨rfl, rfl, ⟨rfl, rfl⟩, rfl, rfl, trivial⟩ rfl ⟨rfl, trivial⟩ ?_
    rintro _ _ ⟨C', ⟨rfl, rfl⟩, rfl⟩
    refine a_new hT hZ 23 rfl rfl rfl rfl fun g3 => ?_
    refine a_new hT hZ 24 rfl rfl rfl rfl fun g4 => ?_
    refine a_call hT rfl rfl rfl (by kernel_rfl) (ccancel_spec (C := (callP (fD k) 1 [] 100 0).1) (t := 1) (by rw [g4']; exact hD.1) (by rw [g4']; omega)) [20] [20] rfl rfl ?_
    rintro _ _ ⟨C', ⟨rfl, rfl⟩, rfl⟩
    rw [g4']
    refine a_callF hT rfl rfl rfl (by kernel_rfl) (ccall_spec (C := fE k) (meth := 1) (arg := []) (dl := 100) (now := 0) hE.1 (by decide) hEl (h := 10) (h1 := 0) (h2 := 0) (h3 := 0)) [20] [20] ⟨rfl, rfl, ⟨rfl, rfl⟩, rfl, rfl, trivial⟩ rfl ⟨rfl, trivial⟩ ?_
    rintro _ _ ⟨C', ⟨rfl, rfl⟩, rfl⟩
    refine a_new hT hZ 25 rfl rfl rfl rfl fun g5 => ?_
    refine a_new hT hZ 26 rfl rfl rfl rfl fun g6 => ?_
    refine a_if hT rfl rfl (fun h => ?_) (fun h => ?_)
    · have h := eq_of_beq h
      refine a_gt hT rfl rfl rfl rfl ?_
      refine a_g hT rfl rfl rfl (fun h2 => ?_) (fun h2 => ?_)
      · have h2 := eq_of_beq h2
        refine a_g hT rfl rfl rfl (fun h3 => ?_) (fun h3 => ?_)
        · have h3 := eq_of_beq h3
          refine a_g hT rfl rfl rfl (fun h4 => ?_) (fun h4 => ?_)
          · have h4 := eq_of_beq h4
            refine a_g hT rfl rfl rfl (fun h5 => ?_) (fun h5 => ?_)
            · have h5 := eq_of_beq h5
              refine a_call hT rfl rfl rfl (by kernel_rfl) (cfloorT_spec hEC.1) [20] [20] rfl rfl ?_
              rintro _ _ ⟨C', ⟨rfl, rfl⟩, rfl⟩
              refine a_ret hT [20, 26, 25, 24, 23, 22, 21] rfl rfl rfl rfl rfl rfl ?_
              show AV.v (.bool ((callP (fE k) 1 [] 100 0).1.fl == 3)) 0 = _
              rw [k4, if_pos (by omega)]; rfl
            · have h5 := ne_of_beq_false h5
              (exfalso; first | omega | contradiction)
          · have h4 := ne_of_beq_false h4
            (exfalso; first | omega | contradiction)
        · have h3 := ne_of_beq_false h3
          (exfalso; first | omega | contradiction)
      · have h2 := ne_of_beq_false h2
        (exfalso; first | omega | contradiction)
    · have h := ne_of_beq_false h
      refine a_gt hT rfl rfl rfl rfl ?_
      refine a_g hT rfl rfl rfl (fun h2 => ?_) (fun h2 => ?_)
      · have h2 := eq_of_beq h2
        refine a_g hT rfl rfl rfl (fun h3 => ?_) (fun h3 => ?_)
        · have h3 := eq_of_beq h3
          refine a_g hT rfl rfl rfl (fun h4 => ?_) (fun h4 => ?_)
          · have h4 := eq_of_beq h4
            refine a_g hT rfl rfl rfl (fun h5 => ?_) (fun h5 => ?_)
            · have h5 := eq_of_beq h5
              refine a_call hT rfl rfl rfl (by kernel_rfl) (cfloorT_spec hEC.1) [20] [20] rfl rfl ?_
              rintro _ _ ⟨C', ⟨rfl, rfl⟩, rfl⟩
              refine a_ret hT [20, 26, 25, 24, 23, 22, 21] rfl rfl rfl rfl rfl rfl ?_
              show AV.v (.bool ((callP (fE k) 1 [] 100 0).1.fl == 2)) 0 = _
              rw [k4, if_neg (by omega)]; rfl
            · have h5 := ne_of_beq_false h5
              (exfalso; first | omega | contradiction)
          · have h4 := ne_of_beq_false h4
            (exfalso; first | omega | contradiction)
        · have h3 := ne_of_beq_false h3
          (exfalso; first | omega | contradiction)
      · have h2 := ne_of_beq_false h2
        (exfalso; first | omega | contradiction)
theorem clientFull_walk (W : World) (args : Array Value) (ha : ArgsOk Try.prog W [5] [[.int .u8]] args.toList) : Calls Try.prog 3 args W (LawR W) := by
  obtain ⟨v, rfl, h1⟩ := argv_one ha
  obtain ⟨b, rfl⟩ := arg_u8 h1 (by kernel_rfl)
  exact law_of (clientFull_spec (n := b)) (Reps.cons mk_v Reps.nil)
end Go.Proofs.Ytepjnmocepkfjaa
