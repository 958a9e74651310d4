/- Layer 23's laws: their scripts; Few; the document's Formed. -/
import Derived.Test.YtepjnmocepkfjaaCh
set_option linter.unusedVariables false
set_option linter.unusedSimpArgs false
set_option maxRecDepth 100000
namespace Go.Proofs.Ytepjnmocepkfjaa
open V A
def formedR (f : Fr) : Prop := (1 ≤ f.kind ∧ f.kind ≤ 3) ∧ (1 ≤ f.client ∧ f.client ≤ 2147483647) ∧ 1 ≤ f.token ∧ (0 ≤ f.attempt ∧ f.attempt ≤ 5) ∧ (1 ≤ f.floor ∧ f.floor ≤ f.token) ∧ (0 ≤ f.method ∧ f.method ≤ 2147483647) ∧ (0 ≤ f.deadline ∧ f.deadline ≤ 1099511627776) ∧ (0 ≤ f.status ∧ f.status ≤ 255) ∧ f.pay.length ≤ 4096 ∧ (f.kind = 3 → f.pay.length = 0) ∧ (f.kind = 2 ∨ f.status = 0)
instance (f : Fr) : Decidable (formedR f) := by unfold formedR; infer_instance
theorem formedR_spec {f : Fr} : FSpec Try.prog 18 [frA f] [] fun a cs => a = bA (decide (formedR f)) ∧ cs = [] := by
  have hl : ((f.pay.map eB).length : Int) = f.pay.length := by rw [List.length_map]
  refine a_enter hT [frA f] [] Try.func18 rfl rfl rfl ⟨⟨rfl, rfl, rfl, rfl, rfl, rfl, rfl, rfl, rfl, trivial⟩, trivial⟩ fun c => ?_
  refine a_box hT 20 rfl rfl rfl rfl fun g => ?_
  refine a_g hT rfl rfl rfl (fun h => ?_) (fun h => ?_)
  · have h := of_decide_eq_true h
    refine a_gt hT rfl rfl rfl rfl ?_
    refine a_gt hT rfl rfl rfl rfl ?_
    refine a_gt hT rfl rfl rfl rfl ?_
    refine a_gt hT rfl rfl rfl rfl ?_
    refine a_gt hT rfl rfl rfl rfl ?_
    refine a_gt hT rfl rfl rfl rfl ?_
    refine a_gt hT rfl rfl rfl rfl ?_
    refine a_t hT rfl rfl rfl ?_
    refine a_ret hT [] rfl rfl rfl rfl rfl rfl ?_
    first | exact bA_f (by unfold formedR; omega) | exact bA_t (by unfold formedR; omega)
  · have h := of_decide_eq_false h
    refine a_g hT rfl rfl rfl (fun h1 => ?_) (fun h1 => ?_)
    · have h1 := of_decide_eq_true h1
      refine a_gt hT rfl rfl rfl rfl ?_
      refine a_gt hT rfl rfl rfl rfl ?_
      refine a_gt hT rfl rfl rfl rfl ?_
      refine a_gt hT rfl rfl rfl rfl ?_
      refine a_gt hT rfl rfl rfl rfl ?_
      refine a_gt hT rfl rfl rfl rfl ?_
      refine a_t hT rfl rfl rfl ?_
      refine a_ret hT [] rfl rfl rfl rfl rfl rfl ?_
      first | exact bA_f (by unfold formedR; omega) | exact bA_t (by unfold formedR; omega)
    · have h1 := of_decide_eq_false h1
      refine a_g hT rfl rfl rfl (fun h2 => ?_) (fun h2 => ?_)
      · have h2 := of_decide_eq_true h2
        refine a_gt hT rfl rfl rfl rfl ?_
        refine a_gt hT rfl rfl rfl rfl ?_
        refine a_gt hT rfl rfl rfl rfl ?_
        refine a_gt hT rfl rfl rfl rfl ?_
        refine a_gt hT rfl rfl rfl rfl ?_
        refine a_t hT rfl rfl rfl ?_
        refine a_ret hT [] rfl rfl rfl rfl rfl rfl ?_
        first | exact bA_f (by unfold formedR; omega) | exact bA_t (by unfold formedR; omega)
      · have h2 := of_decide_eq_false h2
        refine a_g hT rfl rfl rfl (fun h3 => ?_) (fun h3 => ?_)
        · have h3 := of_decide_eq_true h3
          refine a_gt hT rfl rfl rfl rfl ?_
          refine a_gt hT rfl rfl rfl rfl ?_
          refine a_gt hT rfl rfl rfl rfl ?_
          refine a_gt hT rfl rfl rfl rfl ?_
          refine a_t hT rfl rfl rfl ?_
          refine a_ret hT [] rfl rfl rfl rfl rfl rfl ?_
          first | exact bA_f (by unfold formedR; omega) | exact bA_t (by unfold formedR; omega)
        · have h3 := of_decide_eq_false h3
          refine a_g hT rfl rfl rfl (fun h4 => ?_) (fun h4 => ?_)
          · have h4 := of_decide_eq_true h4
            refine a_gt hT rfl rfl rfl rfl ?_
            refine a_gt hT rfl rfl rfl rfl ?_
            refine a_gt hT rfl rfl rfl rfl ?_
            refine a_t hT rfl rfl rfl ?_
            refine a_ret hT [] rfl rfl rfl rfl rfl rfl ?_
            first | exact bA_f (by unfold formedR; omega) | exact bA_t (by unfold formedR; omega)
          · have h4 := of_decide_eq_false h4
            refine a_g hT rfl rfl rfl (fun h5 => ?_) (fun h5 => ?_)
            · have h5 := of_decide_eq_true h5
              refine a_gt hT rfl rfl rfl rfl ?_
              refine a_gt hT rfl rfl rfl rfl ?_
              refine a_t hT rfl rfl rfl ?_
              refine a_ret hT [] rfl rfl rfl rfl rfl rfl ?_
              first | exact bA_f (by unfold formedR; omega) | exact bA_t (by unfold formedR; omega)
            · have h5 := of_decide_eq_false h5
              refine a_g hT rfl rfl rfl (fun h6 => ?_) (fun h6 => ?_)
              · have h6 := of_decide_eq_true h6
                refine a_gt hT rfl rfl rfl rfl ?_
                refine a_t hT rfl rfl rfl ?_
                refine a_ret hT [] rfl rfl rfl rfl rfl rfl ?_
                first | exact bA_f (by unfold formedR; omega) | exact bA_t (by unfold formedR; omega)
              · have h6 := of_decide_eq_false h6
                refine a_g hT rfl rfl rfl (fun h7 => ?_) (fun h7 => ?_)
                · have h7 := of_decide_eq_true h7
                  refine a_t hT rfl rfl rfl ?_
                  refine a_ret hT [] rfl rfl rfl rfl rfl rfl ?_
                  first | exact bA_f (by unfold formedR; omega) | exact bA_t (by unfold formedR; omega)
                · have h7 := of_decide_eq_false h7
                  refine a_if hT rfl rfl (fun h8 => ?_) (fun h8 => ?_)
                  · have h8 := of_decide_eq_true h8
                    refine a_ret hT [] rfl rfl rfl rfl rfl rfl ?_
                    first | exact bA_f (by unfold formedR; omega) | exact bA_t (by unfold formedR; omega)
                  · have h8 := of_decide_eq_false h8
                    refine a_g hT rfl rfl rfl (fun h9 => ?_) (fun h9 => ?_)
                    · have h9 := of_decide_eq_true h9
                      refine a_gt hT rfl rfl rfl rfl ?_
                      refine a_gt hT rfl rfl rfl rfl ?_
                      refine a_gt hT rfl rfl rfl rfl ?_
                      refine a_gt hT rfl rfl rfl rfl ?_
                      refine a_gt hT rfl rfl rfl rfl ?_
                      refine a_t hT rfl rfl rfl ?_
                      refine a_ret hT [] rfl rfl rfl rfl rfl rfl ?_
                      first | exact bA_f (by unfold formedR; omega) | exact bA_t (by unfold formedR; omega)
                    · have h9 := of_decide_eq_false h9
                      refine a_g hT rfl rfl rfl (fun h10 => ?_) (fun h10 => ?_)
                      · have h10 := of_decide_eq_true h10
                        refine a_gt hT rfl rfl rfl rfl ?_
                        refine a_gt hT rfl rfl rfl rfl ?_
                        refine a_gt hT rfl rfl rfl rfl ?_
                        refine a_gt hT rfl rfl rfl rfl ?_
                        refine a_t hT rfl rfl rfl ?_
                        refine a_ret hT [] rfl rfl rfl rfl rfl rfl ?_
                        first | exact bA_f (by unfold formedR; omega) | exact bA_t (by unfold formedR; omega)
                      · have h10 := of_decide_eq_false h10
                        refine a_g hT rfl rfl rfl (fun h11 => ?_) (fun h11 => ?_)
                        · have h11 := of_decide_eq_true h11
                          refine a_gt hT rfl rfl rfl rfl ?_
                          refine a_gt hT rfl rfl rfl rfl ?_
                          refine a_gt hT rfl rfl rfl rfl ?_
                          refine a_t hT rfl rfl rfl ?_
                          refine a_ret hT [] rfl rfl rfl rfl rfl rfl ?_
                          first | exact bA_f (by unfold formedR; omega) | exact bA_t (by unfold formedR; omega)
                        · have h11 := of_decide_eq_false h11
                          refine a_g hT rfl rfl rfl (fun h12 => ?_) (fun h12 => ?_)
                          · have h12 := of_decide_eq_true h12
                            refine a_gt hT rfl rfl rfl rfl ?_
                            refine a_gt hT rfl rfl rfl rfl ?_
                            refine a_t hT rfl rfl rfl ?_
                            refine a_ret hT [] rfl rfl rfl rfl rfl rfl ?_
                            first | exact bA_f (by unfold formedR; omega) | exact bA_t (by unfold formedR; omega)
                          · have h12 := of_decide_eq_false h12
                            refine a_g hT rfl rfl rfl (fun h13 => ?_) (fun h13 => ?_)
                            · have h13 := of_decide_eq_true h13
                              refine a_gt hT rfl rfl rfl rfl ?_
                              refine a_t hT rfl rfl rfl ?_
                              refine a_ret hT [] rfl rfl rfl rfl rfl rfl ?_
                              first | exact bA_f (by unfold formedR; omega) | exact bA_t (by unfold formedR; omega)
                            · have h13 := of_decide_eq_false h13
                              refine a_g hT rfl rfl rfl (fun h14 => ?_) (fun h14 => ?_)
                              · have h14 := of_decide_eq_true h14
                                refine a_t hT rfl rfl rfl ?_
                                refine a_ret hT [] rfl rfl rfl rfl rfl rfl ?_
                                first | exact bA_f (by unfold formedR; omega) | exact bA_t (by unfold formedR; omega)
                              · have h14 := of_decide_eq_false h14
                                refine a_if hT rfl rfl (fun h15 => ?_) (fun h15 => ?_)
                                · have h15 := of_decide_eq_true h15
                                  refine a_ret hT [] rfl rfl rfl rfl rfl rfl ?_
                                  first | exact bA_f (by unfold formedR; omega) | exact bA_t (by unfold formedR; omega)
                                · have h15 := of_decide_eq_false h15
                                  refine a_g hT rfl rfl rfl (fun h16 => ?_) (fun h16 => ?_)
                                  · have h16 := bne_iff_ne.1 h16
                                    refine a_gt hT rfl rfl rfl rfl ?_
                                    refine a_g hT rfl rfl rfl (fun h17 => ?_) (fun h17 => ?_)
                                    · have h17 := eq_of_beq h17
                                      refine a_ret hT [] rfl rfl rfl rfl rfl rfl ?_
                                      first | exact bA_f (by unfold formedR; omega) | exact bA_t (by unfold formedR; omega)
                                    · have h17 := ne_of_beq_false h17
                                      refine a_ret hT [] rfl rfl rfl rfl rfl rfl ?_
                                      exact ⟨by show AV.v (Value.bool (f.status == 0)) 0 = _; rw [show (f.status == 0) = decide (formedR f) from by rw [Bool.eq_iff_iff]; simp only [beq_iff_eq, decide_eq_true_eq]; unfold formedR; omega]; rfl, rfl⟩
                                  · simp at h16
                                    refine a_g hT rfl rfl rfl (fun h17 => ?_) (fun h17 => ?_)
                                    · have h17 := eq_of_beq h17
                                      refine a_g hT rfl rfl rfl (fun h18 => ?_) (fun h18 => ?_)
                                      · have h18 := eq_of_beq h18
                                        (exfalso; first | omega | contradiction)
                                      · have h18 := ne_of_beq_false h18
                                        refine a_ret hT [] rfl rfl rfl rfl rfl rfl ?_
                                        exact ⟨by show AV.v (Value.bool (f.status == 0)) 0 = _; rw [show (f.status == 0) = decide (formedR f) from by rw [Bool.eq_iff_iff]; simp only [beq_iff_eq, decide_eq_true_eq]; unfold formedR; omega]; rfl, rfl⟩
                                    · have h17 := ne_of_beq_false h17
                                      refine a_ret hT [] rfl rfl rfl rfl rfl rfl ?_
                                      first | exact bA_f (by unfold formedR; omega) | exact bA_t (by unfold formedR; omega)
structure COp where
  kind : Int
  method : Int
  token : Int
  deadline : Int
  now : Int
  bytes : List UInt8
  f : Fr
def COp.d (o : COp) : List A.Dat := [.v (kI o.kind), .v (kI o.method), .v (kU o.token), .v (kI o.deadline), .v (kI o.now), A.bytesD o.bytes, .v (kI o.f.kind), .v (kI o.f.client), .v (kU o.f.token), .v (kI o.f.attempt), .v (kU o.f.floor), .v (kI o.f.method), .v (kI o.f.deadline), .v (kI o.f.status), A.bytesD o.f.pay]
def scrD (l : List COp) : AV := .d (.sl 15 (l.map COp.d))
def nI (n : Nat) : AV := .v (.int .i64 n) 0
structure COp.ok (o : COp) : Prop where
  by_ : o.bytes.length ≤ reachBytes
  py : o.f.pay.length ≤ reachBytes
theorem few15_spec {f : Fr} : FSpec Try.prog 38 [frA f] [] fun a cs => a = bA (decide (f.pay.length ≤ 6000)) ∧ cs = [] := by
  have hl : ((f.pay.map eB).length : Int) = f.pay.length := by rw [List.length_map]
  refine a_enter hT [frA f] [] Try.func38 rfl rfl rfl ⟨⟨rfl, rfl, rfl, rfl, rfl, rfl, rfl, rfl, rfl, trivial⟩, trivial⟩ fun c => ?_
  refine a_box hT 20 rfl rfl rfl rfl fun g => ?_
  refine a_ret hT [] rfl rfl rfl rfl rfl rfl ?_
  exact ⟨by show AV.v (Value.bool (decide (((f.pay.map eB).length : Int) ≤ 6000))) 0 = _; rw [show decide (((f.pay.map eB).length : Int) ≤ 6000) = decide (f.pay.length ≤ 6000) from decide_eq_decide.2 (by omega)]; rfl, rfl⟩
theorem few_spec {l : List COp} (hl : l.length ≤ reachBytes) (hb : ∀ o ∈ l, o.ok) : FSpec Try.prog 17 [scrD l] [] fun a cs => ∃ b, (b = true → l.length ≤ 150 ∧ ∀ o ∈ l, o.bytes.length ≤ 30000 ∧ o.f.pay.length ≤ 6000) ∧ a = .v (.bool b) 0 ∧ cs = [] := by
  refine a_enter hT [scrD l] [] Try.func17 rfl rfl rfl ⟨rfl, trivial⟩ fun c => ?_
  refine a_loop hT [0, 3, 6, 7] (fun x : Nat × Nat => [scrD l, nI x.2, nI l.length, nI x.1]) (fun _ => []) (fun x => x.1 ≤ l.length ∧ x.1 ≤ 150 ∧ x.2 ≤ 30000 ∧ ∀ o ∈ l.take x.1, o.bytes.length ≤ 30000 ∧ o.f.pay.length ≤ 6000) (fun x => l.length - x.1) (0, 0) [] rfl rfl ⟨by omega, by omega, by omega, by simp⟩
    ⟨rfl, rfl, by show Value.int .i64 ((l.map COp.d).length : Int) = .int .i64 (l.length : Int); rw [List.length_map], rfl, trivial⟩ rfl trivial ?_
  rintro ⟨i, n⟩ ⟨h1, h2, h3, h4⟩
  dsimp only at h1 h2 h3 h4 ⊢
  refine a_if hT rfl rfl (fun hi => ?_) (fun hi => ?_)
  · have hi' : i < l.length := by
      have : (i : Int) < l.length := of_decide_eq_true hi
      omega
    have hd : (l.map COp.d)[((i : Nat) : Int).toNat]? = some (COp.d l[i]) := by simp [hi']
    have hbi := hb l[i] (List.getElem_mem hi')
    obtain ⟨o, ho⟩ : ∃ o, l[i] = o := ⟨_, rfl⟩
    rw [ho] at hd hbi
    have hsum : IntKind.i64.wrap ((n : Int) + ((o.bytes.map eB).length : Int)) = ((n + o.bytes.length : Nat) : Int) := by
      have := hbi.by_
      rw [List.length_map, w64 (by omega) (by unfold reachBytes at this; omega)]
      rfl
    refine a_ix hT (COp.d o) rfl rfl rfl rfl rfl rfl (by omega) hd ?_
    refine a_g hT rfl rfl rfl (fun h => ?_) (fun h => ?_)
    · have h := of_decide_eq_true h
      refine a_gt hT rfl rfl rfl rfl ?_
      refine a_t hT rfl rfl rfl ?_
      refine a_ret hT [] rfl rfl rfl rfl rfl rfl ?_
      exact ⟨false, fun h => (nomatch h), rfl, rfl⟩
    · have h := of_decide_eq_false h
      refine a_g hT rfl rfl rfl (fun h5 => ?_) (fun h5 => ?_)
      · have h5 := of_decide_eq_true h5
        refine a_t hT rfl rfl rfl ?_
        refine a_ret hT [] rfl rfl rfl rfl rfl rfl ?_
        exact ⟨false, fun h => (nomatch h), rfl, rfl⟩
      · have h5 := of_decide_eq_false h5
        refine a_ix hT _ rfl rfl rfl rfl rfl rfl (by first | omega | assumption) (by first | assumption | rfl) ?_
        refine a_call hT rfl rfl rfl (by kernel_rfl) (few15_spec (f := o.f)) [] [] rfl rfl ?_
        rintro _ _ ⟨rfl, rfl⟩
        refine a_if hT rfl rfl (fun h6 => ?_) (fun h6 => ?_)
        · simp at h6
          refine a_ret hT [] rfl rfl rfl rfl rfl rfl ?_
          exact ⟨false, fun h => (nomatch h), rfl, rfl⟩
        · simp at h6
          have h5 : ¬ IntKind.i64.wrap ((n : Int) + ((o.bytes.map eB).length : Int)) > 30000 := h5
          rw [hsum] at h5
          have h : ¬ (i : Int) ≥ 150 := h
          refine a_next hT (i + 1, n + o.bytes.length) [] rfl rfl ⟨⟨by show i + 1 ≤ l.length; omega, by show i + 1 ≤ 150; omega, by show n + o.bytes.length ≤ 30000; omega, ?_⟩, by show l.length - (i + 1) < l.length - i; omega⟩ ⟨rfl, ?_, rfl, ?_, trivial⟩ rfl trivial
          · intro q hq
            rw [show (i + 1, n + o.bytes.length).1 = i + 1 from rfl, List.take_add_one] at hq
            rcases List.mem_append.1 hq with hq | hq
            · exact h4 q hq
            · rw [List.getElem?_eq_getElem hi', ho] at hq
              simp at hq
              subst hq
              omega
          · show Value.int .i64 (IntKind.i64.wrap ((n : Int) + ((o.bytes.map eB).length : Int))) = .int .i64 ((n + o.bytes.length : Nat) : Int)
            rw [hsum]
          · show Value.int .i64 (IntKind.i64.wrap ((i : Int) + 1)) = .int .i64 ((i + 1 : Nat) : Int)
            rw [w64 (by omega) (by omega)]
            rfl
  · have hi' : ¬ (i : Int) < l.length := of_decide_eq_false hi
    refine a_ret hT [] rfl rfl rfl rfl rfl rfl ⟨true, fun _ => ⟨by omega, fun o ho => h4 o ?_⟩, rfl, rfl⟩
    rw [List.take_of_length_le (by show l.length ≤ i; omega)]
    exact ho
end Go.Proofs.Ytepjnmocepkfjaa
