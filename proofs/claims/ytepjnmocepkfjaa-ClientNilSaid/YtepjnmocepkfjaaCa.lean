/- Layer 16's delay, layer 15's frames that are formed. -/
import Derived.Test.YtepjnmocepkfjaaEj
set_option linter.unusedVariables false
set_option linter.unusedSimpArgs false
namespace Go.Proofs.Ytepjnmocepkfjaa
open V A
def bA (b : Bool) : AV := .v (.bool b) 0
theorem bA_t {p : Prop} [Decidable p] {cs : List Chunk} (h : p) : AV.v (.bool true) 0 = bA (decide p) ∧ cs = cs := ⟨by rw [decide_eq_true h]; rfl, rfl⟩
theorem bA_f {p : Prop} [Decidable p] {cs : List Chunk} (h : ¬ p) : AV.v (.bool false) 0 = bA (decide p) ∧ cs = cs := ⟨by rw [decide_eq_false h]; rfl, rfl⟩
theorem numb_spec {n : Int} {h : Nat} : FSpec Try.prog 59 [.v (kI n) h] [] fun a cs => a = bA (decide (0 ≤ n) && decide (n ≤ 2147483647)) ∧ cs = [] := by
  refine a_enter hT [.v (kI n) 0] [] Try.func59 rfl rfl rfl ⟨rfl, trivial⟩ fun c => ?_
  refine a_g hT rfl rfl rfl (fun h1 => ?_) (fun h1 => ?_)
  · have h1 := of_decide_eq_true h1
    refine a_ret hT [] rfl rfl rfl rfl rfl rfl ?_
    exact ⟨by simp [*]; rfl, rfl⟩
  · have h1 := of_decide_eq_false h1
    refine a_ret hT [] rfl rfl rfl rfl rfl rfl ?_
    exact ⟨by simp [*]; rfl, rfl⟩
def delayP (k : Int) : Int := if k < 0 ∨ k ≥ 6 then 0 else if k = 0 then 4 else if k = 1 then 8 else if k = 2 then 16 else 32
theorem delay_spec {k : Int} {h : Nat} : FSpec Try.prog 52 [.v (kI k) h] [] fun a cs => a = .v (kI (delayP k)) 0 ∧ cs = [] := by
  refine a_enter hT [.v (kI k) 0] [] Try.func52 rfl rfl rfl ⟨rfl, trivial⟩ fun c => ?_
  by_cases hk : k = 0 ∨ k = 1 ∨ k = 2 ∨ k = 3 ∨ k = 4 ∨ k = 5
  · rcases hk with rfl | rfl | rfl | rfl | rfl | rfl
    · refine a_gf hT rfl rfl rfl rfl ?_
      refine a_f hT rfl rfl rfl ?_
      refine a_bin hT _ rfl rfl rfl (by decide) rfl rfl (fun w => (bin_shl (by omega) w)) ?_
      refine a_ret hT [] rfl rfl rfl rfl rfl rfl ?_
      first | exact ⟨rfl, rfl⟩ | rfl
    · refine a_gf hT rfl rfl rfl rfl ?_
      refine a_f hT rfl rfl rfl ?_
      refine a_bin hT _ rfl rfl rfl (by decide) rfl rfl (fun w => (bin_shl (by omega) w)) ?_
      refine a_ret hT [] rfl rfl rfl rfl rfl rfl ?_
      first | exact ⟨rfl, rfl⟩ | rfl
    · refine a_gf hT rfl rfl rfl rfl ?_
      refine a_f hT rfl rfl rfl ?_
      refine a_bin hT _ rfl rfl rfl (by decide) rfl rfl (fun w => (bin_shl (by omega) w)) ?_
      refine a_ret hT [] rfl rfl rfl rfl rfl rfl ?_
      first | exact ⟨rfl, rfl⟩ | rfl
    · refine a_gf hT rfl rfl rfl rfl ?_
      refine a_f hT rfl rfl rfl ?_
      refine a_bin hT _ rfl rfl rfl (by decide) rfl rfl (fun w => (bin_shl (by omega) w)) ?_
      refine a_ret hT [] rfl rfl rfl rfl rfl rfl ?_
      first | exact ⟨rfl, rfl⟩ | rfl
    · refine a_gf hT rfl rfl rfl rfl ?_
      refine a_f hT rfl rfl rfl ?_
      refine a_bin hT _ rfl rfl rfl (by decide) rfl rfl (fun w => (bin_shl (by omega) w)) ?_
      refine a_ret hT [] rfl rfl rfl rfl rfl rfl ?_
      first | exact ⟨rfl, rfl⟩ | rfl
    · refine a_gf hT rfl rfl rfl rfl ?_
      refine a_f hT rfl rfl rfl ?_
      refine a_bin hT _ rfl rfl rfl (by decide) rfl rfl (fun w => (bin_shl (by omega) w)) ?_
      refine a_ret hT [] rfl rfl rfl rfl rfl rfl ?_
      first | exact ⟨rfl, rfl⟩ | rfl
  · refine a_g hT rfl rfl rfl (fun h1 => ?_) (fun h1 => ?_)
    · have h1 := of_decide_eq_true h1
      refine a_t hT rfl rfl rfl ?_
      refine a_ret hT [] rfl rfl rfl rfl rfl rfl ?_
      first | exact ⟨by unfold delayP; rw [if_pos (by omega)]; rfl, rfl⟩ | exact absurd (by omega) hk
    · have h1 := of_decide_eq_false h1
      refine a_if hT rfl rfl (fun h2 => ?_) (fun h2 => ?_)
      · have h2 := of_decide_eq_true h2
        refine a_ret hT [] rfl rfl rfl rfl rfl rfl ?_
        first | exact ⟨by unfold delayP; rw [if_pos (by omega)]; rfl, rfl⟩ | exact absurd (by omega) hk
      · have h2 := of_decide_eq_false h2
        refine a_bin hT _ rfl rfl rfl (by decide) rfl rfl (fun w => (bin_shl (by omega) w)) ?_
        refine a_ret hT [] rfl rfl rfl rfl rfl rfl ?_
        first | exact ⟨by unfold delayP; rw [if_pos (by omega)]; rfl, rfl⟩ | exact absurd (by omega) hk
/-- A frame. -/
structure Fr where
  kind : Int
  client : Int
  token : Int
  attempt : Int
  floor : Int
  method : Int
  deadline : Int
  status : Int
  pay : List UInt8
def frA (f : Fr) : AV := .agg [.v (kI f.kind) 0, .v (kI f.client) 0, .v (kU f.token) 0, .v (kI f.attempt) 0, .v (kU f.floor) 0, .v (kI f.method) 0, .v (kI f.deadline) 0, .v (kI f.status) 0, .d (A.bytesD f.pay)]
def formed (f : Fr) : Prop := (1 ≤ f.kind ∧ f.kind ≤ 3) ∧ (1 ≤ f.client ∧ f.client ≤ 2147483647 ∧ 0 ≤ f.method ∧ f.method ≤ 2147483647) ∧ (f.floor ≠ 0 ∧ f.floor ≤ f.token) ∧ (0 ≤ f.attempt ∧ f.attempt < 6) ∧ (0 ≤ f.deadline ∧ f.deadline ≤ 1099511627776) ∧ (0 ≤ f.status ∧ f.status ≤ 255 ∧ (f.status > 0 → f.kind = 2)) ∧ f.pay.length ≤ 4096 ∧ (f.kind = 3 → f.pay.length = 0)
instance (f : Fr) : Decidable (formed f) := by unfold formed; infer_instance
theorem formed_spec {f : Fr} : FSpec Try.prog 39 [frA f] [] fun a cs => a = bA (decide (formed f)) ∧ cs = [] := by
  have hl : ((f.pay.map eB).length : Int) = f.pay.length := by rw [List.length_map]
  refine a_enter hT [frA f] [] Try.func39 rfl rfl rfl ⟨⟨rfl, rfl, rfl, rfl, rfl, rfl, rfl, rfl, rfl, trivial⟩, trivial⟩ fun c => ?_
  refine a_box hT 20 rfl rfl rfl rfl fun g => ?_
  refine a_g hT rfl rfl rfl (fun h => ?_) (fun h => ?_)
  · have h := of_decide_eq_true h
    refine a_t hT rfl rfl rfl ?_
    refine a_t hT rfl rfl rfl ?_
    refine a_ret hT [] rfl rfl rfl rfl rfl rfl ?_
    first | exact bA_f (by unfold formed; omega) | exact bA_t (by unfold formed; omega)
  · have h := of_decide_eq_false h
    refine a_if hT rfl rfl (fun h1 => ?_) (fun h1 => ?_)
    · have h1 := of_decide_eq_true h1
      refine a_if hT rfl rfl (fun h2 => ?_) (fun h2 => ?_)
      · have h2 := of_decide_eq_true h2
        refine a_ret hT [] rfl rfl rfl rfl rfl rfl ?_
        first | exact bA_f (by unfold formed; omega) | exact bA_t (by unfold formed; omega)
      · have h2 := of_decide_eq_false h2
        refine a_ret hT [] rfl rfl rfl rfl rfl rfl ?_
        first | exact bA_f (by unfold formed; omega) | exact bA_t (by unfold formed; omega)
    · have h1 := of_decide_eq_false h1
      refine a_call hT rfl rfl rfl (by kernel_rfl) numb_spec [] [] rfl rfl ?_
      rintro _ _ ⟨rfl, rfl⟩
      refine a_g hT rfl rfl rfl (fun h2 => ?_) (fun h2 => ?_)
      · simp at h2
        refine a_gt hT rfl rfl rfl rfl ?_
        refine a_t hT rfl rfl rfl ?_
        refine a_t hT rfl rfl rfl ?_
        refine a_ret hT [] rfl rfl rfl rfl rfl rfl ?_
        first | exact bA_f (by unfold formed; omega) | exact bA_t (by unfold formed; omega)
      · simp at h2
        refine a_g hT rfl rfl rfl (fun h3 => ?_) (fun h3 => ?_)
        · have h3 := eq_of_beq h3
          refine a_t hT rfl rfl rfl ?_
          refine a_t hT rfl rfl rfl ?_
          refine a_ret hT [] rfl rfl rfl rfl rfl rfl ?_
          first | exact bA_f (by unfold formed; omega) | exact bA_t (by unfold formed; omega)
        · have h3 := ne_of_beq_false h3
          refine a_call hT rfl rfl rfl (by kernel_rfl) numb_spec [] [] rfl rfl ?_
          rintro _ _ ⟨rfl, rfl⟩
          refine a_if hT rfl rfl (fun h4 => ?_) (fun h4 => ?_)
          · simp at h4
            refine a_if hT rfl rfl (fun h5 => ?_) (fun h5 => ?_)
            · simp at h5
              refine a_ret hT [] rfl rfl rfl rfl rfl rfl ?_
              first | exact bA_f (by unfold formed; omega) | exact bA_t (by unfold formed; omega)
            · simp at h5
              refine a_ret hT [] rfl rfl rfl rfl rfl rfl ?_
              first | exact bA_f (by unfold formed; omega) | exact bA_t (by unfold formed; omega)
          · simp at h4
            refine a_g hT rfl rfl rfl (fun h5 => ?_) (fun h5 => ?_)
            · have h5 := eq_of_beq h5
              refine a_t hT rfl rfl rfl ?_
              refine a_t hT rfl rfl rfl ?_
              refine a_ret hT [] rfl rfl rfl rfl rfl rfl ?_
              first | exact bA_f (by unfold formed; omega) | exact bA_t (by unfold formed; omega)
            · have h5 := ne_of_beq_false h5
              refine a_if hT rfl rfl (fun h6 => ?_) (fun h6 => ?_)
              · have h6 := of_decide_eq_true h6
                refine a_if hT rfl rfl (fun h7 => ?_) (fun h7 => ?_)
                · have h7 := of_decide_eq_true h7
                  refine a_ret hT [] rfl rfl rfl rfl rfl rfl ?_
                  first | exact bA_f (by unfold formed; omega) | exact bA_t (by unfold formed; omega)
                · have h7 := of_decide_eq_false h7
                  refine a_ret hT [] rfl rfl rfl rfl rfl rfl ?_
                  first | exact bA_f (by unfold formed; omega) | exact bA_t (by unfold formed; omega)
              · have h6 := of_decide_eq_false h6
                refine a_g hT rfl rfl rfl (fun h7 => ?_) (fun h7 => ?_)
                · have h7 := of_decide_eq_true h7
                  refine a_t hT rfl rfl rfl ?_
                  refine a_t hT rfl rfl rfl ?_
                  refine a_ret hT [] rfl rfl rfl rfl rfl rfl ?_
                  first | exact bA_f (by unfold formed; omega) | exact bA_t (by unfold formed; omega)
                · have h7 := of_decide_eq_false h7
                  refine a_if hT rfl rfl (fun h8 => ?_) (fun h8 => ?_)
                  · have h8 := of_decide_eq_true h8
                    refine a_if hT rfl rfl (fun h9 => ?_) (fun h9 => ?_)
                    · have h9 := of_decide_eq_true h9
                      refine a_ret hT [] rfl rfl rfl rfl rfl rfl ?_
                      first | exact bA_f (by unfold formed; omega) | exact bA_t (by unfold formed; omega)
                    · have h9 := of_decide_eq_false h9
                      refine a_ret hT [] rfl rfl rfl rfl rfl rfl ?_
                      first | exact bA_f (by unfold formed; omega) | exact bA_t (by unfold formed; omega)
                  · have h8 := of_decide_eq_false h8
                    refine a_g hT rfl rfl rfl (fun h9 => ?_) (fun h9 => ?_)
                    · have h9 := of_decide_eq_true h9
                      refine a_t hT rfl rfl rfl ?_
                      refine a_t hT rfl rfl rfl ?_
                      refine a_ret hT [] rfl rfl rfl rfl rfl rfl ?_
                      first | exact bA_f (by unfold formed; omega) | exact bA_t (by unfold formed; omega)
                    · have h9 := of_decide_eq_false h9
                      refine a_if hT rfl rfl (fun h10 => ?_) (fun h10 => ?_)
                      · have h10 := of_decide_eq_true h10
                        refine a_if hT rfl rfl (fun h11 => ?_) (fun h11 => ?_)
                        · have h11 := of_decide_eq_true h11
                          refine a_ret hT [] rfl rfl rfl rfl rfl rfl ?_
                          first | exact bA_f (by unfold formed; omega) | exact bA_t (by unfold formed; omega)
                        · have h11 := of_decide_eq_false h11
                          refine a_ret hT [] rfl rfl rfl rfl rfl rfl ?_
                          first | exact bA_f (by unfold formed; omega) | exact bA_t (by unfold formed; omega)
                      · have h10 := of_decide_eq_false h10
                        refine a_g hT rfl rfl rfl (fun h11 => ?_) (fun h11 => ?_)
                        · have h11 := of_decide_eq_true h11
                          refine a_gt hT rfl rfl rfl rfl ?_
                          refine a_t hT rfl rfl rfl ?_
                          refine a_t hT rfl rfl rfl ?_
                          refine a_ret hT [] rfl rfl rfl rfl rfl rfl ?_
                          first | exact bA_f (by unfold formed; omega) | exact bA_t (by unfold formed; omega)
                        · have h11 := of_decide_eq_false h11
                          refine a_g hT rfl rfl rfl (fun h12 => ?_) (fun h12 => ?_)
                          · have h12 := of_decide_eq_true h12
                            refine a_t hT rfl rfl rfl ?_
                            refine a_t hT rfl rfl rfl ?_
                            refine a_ret hT [] rfl rfl rfl rfl rfl rfl ?_
                            first | exact bA_f (by unfold formed; omega) | exact bA_t (by unfold formed; omega)
                          · have h12 := of_decide_eq_false h12
                            refine a_g hT rfl rfl rfl (fun h13 => ?_) (fun h13 => ?_)
                            · have h13 := of_decide_eq_true h13
                              refine a_if hT rfl rfl (fun h14 => ?_) (fun h14 => ?_)
                              · have h14 := bne_iff_ne.1 h14
                                refine a_if hT rfl rfl (fun h15 => ?_) (fun h15 => ?_)
                                · have h15 := bne_iff_ne.1 h15
                                  refine a_ret hT [] rfl rfl rfl rfl rfl rfl ?_
                                  first | exact bA_f (by unfold formed; omega) | exact bA_t (by unfold formed; omega)
                                · simp at h15
                                  refine a_ret hT [] rfl rfl rfl rfl rfl rfl ?_
                                  first | exact bA_f (by unfold formed; omega) | exact bA_t (by unfold formed; omega)
                              · simp at h14
                                refine a_g hT rfl rfl rfl (fun h15 => ?_) (fun h15 => ?_)
                                · have h15 := of_decide_eq_true h15
                                  refine a_t hT rfl rfl rfl ?_
                                  refine a_ret hT [] rfl rfl rfl rfl rfl rfl ?_
                                  first | exact bA_f (by unfold formed; omega) | exact bA_t (by unfold formed; omega)
                                · have h15 := of_decide_eq_false h15
                                  refine a_g hT rfl rfl rfl (fun h16 => ?_) (fun h16 => ?_)
                                  · have h16 := of_decide_eq_true h16
                                    refine a_if hT rfl rfl (fun h17 => ?_) (fun h17 => ?_)
                                    · have h17 := eq_of_beq h17
                                      refine a_ret hT [] rfl rfl rfl rfl rfl rfl ?_
                                      first | exact bA_f (by unfold formed; omega) | exact bA_t (by unfold formed; omega)
                                    · have h17 := ne_of_beq_false h17
                                      refine a_ret hT [] rfl rfl rfl rfl rfl rfl ?_
                                      first | exact bA_f (by unfold formed; omega) | exact bA_t (by unfold formed; omega)
                                  · have h16 := of_decide_eq_false h16
                                    refine a_f hT rfl rfl rfl ?_
                                    refine a_ret hT [] rfl rfl rfl rfl rfl rfl ?_
                                    first | exact bA_f (by unfold formed; omega) | exact bA_t (by unfold formed; omega)
                            · have h13 := of_decide_eq_false h13
                              refine a_f hT rfl rfl rfl ?_
                              refine a_g hT rfl rfl rfl (fun h14 => ?_) (fun h14 => ?_)
                              · have h14 := of_decide_eq_true h14
                                refine a_t hT rfl rfl rfl ?_
                                refine a_ret hT [] rfl rfl rfl rfl rfl rfl ?_
                                first | exact bA_f (by unfold formed; omega) | exact bA_t (by unfold formed; omega)
                              · have h14 := of_decide_eq_false h14
                                refine a_g hT rfl rfl rfl (fun h15 => ?_) (fun h15 => ?_)
                                · have h15 := of_decide_eq_true h15
                                  refine a_if hT rfl rfl (fun h16 => ?_) (fun h16 => ?_)
                                  · have h16 := eq_of_beq h16
                                    refine a_ret hT [] rfl rfl rfl rfl rfl rfl ?_
                                    first | exact bA_f (by unfold formed; omega) | exact bA_t (by unfold formed; omega)
                                  · have h16 := ne_of_beq_false h16
                                    refine a_ret hT [] rfl rfl rfl rfl rfl rfl ?_
                                    first | exact bA_f (by unfold formed; omega) | exact bA_t (by unfold formed; omega)
                                · have h15 := of_decide_eq_false h15
                                  refine a_f hT rfl rfl rfl ?_
                                  refine a_ret hT [] rfl rfl rfl rfl rfl rfl ?_
                                  first | exact bA_f (by unfold formed; omega) | exact bA_t (by unfold formed; omega)
end Go.Proofs.Ytepjnmocepkfjaa
