/- Layer 19: what the laws use: Len, Offer where the answer is known, awake. -/
import Derived.Test.YtdconcindpfmcaaDd
set_option linter.unusedVariables false
set_option linter.unusedSimpArgs false
namespace Go.Proofs.Ytdconcindpfmcaa
open V A
theorem wfT.nil : wfT [] := ⟨by simp, by simp, by simp, by decide, by simp⟩
theorem Len_spec {g h : Nat} {T : PT} : FSpec Try.prog 58 [ptrA g h] [.ext (tabA g T)] fun a cs => ∃ T', (a = i64w (lenT T) ∧ T' = T) ∧ cs = [.ext (tabA g T')] := by
  refine tab_spec fun mo cl hmo hp => ?_
  subst hp
  refine (len_spec (g := g) (h := h) hmo).mono fun a cs ⟨h1, h2⟩ => ⟨_, ⟨h1, rfl⟩, by rw [h2]; exact tab_pack hmo rfl⟩
def fr0 : DE := ⟨false, 0, []⟩
theorem Offer_at {g h h1 h2 h3 : Nat} {T T' : PT} {num tok fl k : Int} (hw : wfT T) (ht1 : 0 ≤ tok) (ht2 : tok < 18446744073709551616) (hf1 : 0 ≤ fl) (hof : offerP T num tok fl fr0 = (T', ⟨k, 0, []⟩)) (hk : k ≠ 3) :
    FSpec Try.prog 33 [ptrA g h, .v (kI num) h1, .v (kU tok) h2, .v (kU fl) h3] [.ext (tabA g T)] fun a cs => a = .agg [.v (kI k) 0, .v (kI 0) 0, nilA] ∧ cs = [.ext (tabA g T')] := by
  refine (Offer_spec hw ht1 ht2 hf1).mono fun a cs hR => ?_
  rw [show (⟨false, 0, []⟩ : DE) = fr0 from rfl, hof] at hR
  rcases hR with ⟨_, rfl, rfl⟩ | ⟨hk', _⟩
  · exact ⟨rfl, rfl⟩
  · exact absurd hk' hk
/-- The first call of a client. -/
theorem offer_first (num f : Int) (hf : 1 ≤ f) : offerP [] num f f fr0 = ([(num, ⟨f, [(f, fr0)]⟩)], ⟨1, 0, []⟩) := by
  have e : PC.up ⟨1, []⟩ f f = ⟨f, []⟩ := by
    unfold PC.up PC.sweep mx mn
    simp only [List.filter_nil, PC.mk.injEq, and_true]
    split <;> split <;> omega
  unfold offerP offerC
  rw [e]
  simp [aget, lenT, aput]
theorem awake_spec : FSpec Try.prog 31 [] [] fun a cs => a = .v (.bool true) 0 ∧ cs = [] := by
  refine a_enter hT [] [] Try.func31 rfl rfl rfl trivial fun c => ?_
  refine a_call hT rfl rfl rfl (by kernel_rfl) new_spec [] [10] rfl rfl ?_
  rintro _ _ ⟨g, rfl, rfl⟩
  refine a_call hT rfl rfl rfl (by kernel_rfl) (Offer_at (T' := [(1, ⟨1, [(5, fr0)]⟩)]) (num := 1) (tok := 5) (fl := 1) (k := 1) wfT.nil (by decide) (by decide) (by decide) (by rfl) (by decide)) [10] [10] rfl rfl ?_
  rintro _ _ ⟨rfl, rfl⟩
  refine a_gt hT rfl rfl rfl rfl ?_
  refine a_call hT rfl rfl rfl (by kernel_rfl) Len_spec [10] [10] rfl rfl ?_
  rintro _ _ ⟨_, ⟨rfl, rfl⟩, rfl⟩
  exact a_ret hT [] rfl rfl rfl rfl rfl rfl ⟨rfl, rfl⟩
end Go.Proofs.Ytdconcindpfmcaa
