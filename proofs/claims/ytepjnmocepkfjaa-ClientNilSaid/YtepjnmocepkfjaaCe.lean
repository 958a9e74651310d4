/- Layer 23's client: slices.Contains of numbers; New, Cancel, Take, Wake. -/
import Derived.Test.YtepjnmocepkfjaaCd
set_option linter.unusedVariables false
set_option linter.unusedSimpArgs false
set_option maxRecDepth 100000
namespace Go.Proofs.Ytepjnmocepkfjaa
open V A
def intsD (l : List Int) : A.Dat := .sl 1 (l.map fun n => [.v (kI n)])
theorem index_spec {l : List Int} {v : Int} {h : Nat} (hl : l.length < 1000000) : FSpec Try.prog 60 [.d (intsD l), .v (kI v) h] [] fun a cs => (∃ i : Int, a = .v (kI i) 0 ∧ (0 ≤ i ↔ v ∈ l)) ∧ cs = [] := by
  have hL : ((l.map fun n => [A.Dat.v (kI n)]).length : Int) = l.length := by rw [List.length_map]
  refine a_enter hT [.d (intsD l), .v (kI v) 0] [] Try.func60 rfl rfl rfl ⟨rfl, rfl, trivial⟩ fun c => ?_
  refine a_loop hT [0, 1, 7, 8] (fun i : Nat => [.d (intsD l), .v (kI v) 0, .v (kI l.length) 0, .v (kI i) 0]) (fun _ => []) (fun i => i ≤ l.length ∧ v ∉ l.take i) (fun i => l.length - i) 0 [] rfl rfl ⟨by omega, by simp⟩ ⟨rfl, rfl, by rw [hL]; rfl, rfl, trivial⟩ rfl trivial ?_
  rintro i ⟨hi, hv⟩
  have hw : IntKind.i64.wrap ((i : Int) + 1) = (i : Int) + 1 := w64 (by omega) (by omega)
  refine a_if hT rfl rfl (fun h1 => ?_) (fun h1 => ?_)
  · have h1 := of_decide_eq_true h1
    have hi' : i < l.length := by omega
    have hd : (l.map fun n => [A.Dat.v (kI n)])[(i : Int).toNat]? = some [A.Dat.v (kI l[i])] := by rw [Int.toNat_natCast, List.getElem?_map, List.getElem?_eq_getElem hi']; rfl
    refine a_ix hT _ rfl rfl rfl rfl rfl rfl (by omega) hd ?_
    refine a_if hT rfl rfl (fun h2 => ?_) (fun h2 => ?_)
    · have h2 := eq_of_beq h2
      refine a_ret hT [] rfl rfl rfl rfl rfl rfl ?_
      exact ⟨⟨i, rfl, ⟨fun _ => by rw [h2]; exact List.getElem_mem hi', fun _ => by omega⟩⟩, rfl⟩
    · have h2 := ne_of_beq_false h2
      refine a_next hT (i + 1) [] rfl rfl ⟨⟨by omega, ?_⟩, by omega⟩ ⟨rfl, rfl, rfl, by rw [hw]; rfl, trivial⟩ rfl trivial
      rw [List.take_add_one, List.getElem?_eq_getElem hi']
      simp only [List.mem_append, not_or]
      exact ⟨hv, by simpa using h2⟩
  · have h1 := of_decide_eq_false h1
    refine a_ret hT [] rfl rfl rfl rfl rfl rfl ?_
    refine ⟨⟨-1, rfl, ⟨fun h => by omega, fun h => ?_⟩⟩, rfl⟩
    rw [List.take_of_length_le (by omega)] at hv
    exact absurd h hv
theorem contains_spec {l : List Int} {v : Int} {h : Nat} (hl : l.length < 1000000) : FSpec Try.prog 40 [.d (intsD l), .v (kI v) h] [] fun a cs => a = bA (decide (v ∈ l)) ∧ cs = [] := by
  refine a_enter hT [.d (intsD l), .v (kI v) 0] [] Try.func40 rfl rfl rfl ⟨rfl, rfl, trivial⟩ fun c => ?_
  refine a_call hT rfl rfl rfl (by kernel_rfl) (index_spec hl) [] [] rfl rfl ?_
  rintro _ _ ⟨⟨i, rfl, hr⟩, rfl⟩
  refine a_ret hT [] rfl rfl rfl rfl rfl rfl ?_
  refine ⟨?_, rfl⟩
  show AV.v (.bool (decide (i ≥ 0))) 0 = bA (decide (v ∈ l))
  rw [show decide (i ≥ 0) = decide (v ∈ l) from decide_eq_decide.2 hr]; rfl
theorem cnew_spec {num : Int} {h : Nat} (h1 : 1 ≤ num) (h2 : num ≤ 2147483647) : FSpec Try.prog 10 [.v (kI num) h] [] fun a cs => ∃ g, a = ptrA g 10 ∧ cs = [.ext (cliA g ⟨num, 0, []⟩)] := by
  refine FSpec.weak (R := fun a cs => ∃ g y h, a = ptrA g h ∧ Ent cs (CX.cs g ⟨num, 0, []⟩ y) ∧ y.L.map (·.2) = []) ?_ fun a cs ⟨g, y, h, h1, h2, h3⟩ => ⟨ptrA g 10, [.ext (cliA g ⟨num, 0, []⟩)], [], by rw [h1]; exact rfl, h2.trans (cl_pack (C := ⟨num, 0, []⟩) h3), g, rfl, rfl⟩
  refine a_enter hT [.v (kI num) 0] [] Try.func10 rfl rfl rfl ⟨rfl, trivial⟩ fun c => ?_
  refine a_g hT rfl rfl rfl (fun h3 => ?_) (fun h3 => ?_)
  · have h3 := of_decide_eq_true h3
    (exfalso; first | omega | contradiction)
  · have h3 := of_decide_eq_false h3
    refine a_if hT rfl rfl (fun h4 => ?_) (fun h4 => ?_)
    · have h4 := of_decide_eq_true h4
      (exfalso; first | omega | contradiction)
    · have h4 := of_decide_eq_false h4
      refine a_mkmap hT 20 rfl rfl rfl fun r => ?_
      refine a_call hT rfl rfl rfl (by kernel_rfl) tnew_spec [] [21] rfl rfl ?_
      rintro _ _ ⟨g, rfl, rfl⟩
      refine a_build hT hZ [.v (kI num) 0, .v (Value.int IntKind.u64 0) 0, .v (Value.map (some r)) 20, .v (Value.pointer (some { block := g, off := 0 })) 10] rfl rfl rfl rfl rfl rfl ?_
      refine a_box hT 22 rfl rfl rfl rfl fun g1 => ?_
      refine a_ret hT [22, 20, 21] rfl rfl rfl rfl rfl rfl ?_
      refine ⟨g1, ⟨r, g, []⟩, _, rfl, (Ent.fits (a := [.blk g1 _ [.v (kI num) 0, .v (kU 0) 0, .v (.map (some r)) 20, ptrA g 10], .map r [], .ext (tmA g [])]) (b := [cliBlk g1 num 0 r g, cmapC r [], .ext (tmA g [])]) ⟨⟨rfl, rfl, ⟨rfl, rfl, rfl, rfl, trivial⟩⟩, ⟨rfl, rfl⟩, rfl, trivial⟩).trans ?_, rfl⟩
      exact Ent.cons _ (Ent.cons _ (Ent.app (ent_shut []) (Ent.refl _)))
theorem cnew_nil {num : Int} {h : Nat} (h1 : num < 1 ∨ num > 2147483647) : FSpec Try.prog 10 [.v (kI num) h] [] fun a cs => a = .v (.pointer none) 0 ∧ cs = [] := by
  refine a_enter hT [.v (kI num) 0] [] Try.func10 rfl rfl rfl ⟨rfl, trivial⟩ fun c => ?_
  refine a_g hT rfl rfl rfl (fun h2 => ?_) (fun h2 => ?_)
  · have h2 := of_decide_eq_true h2
    refine a_t hT rfl rfl rfl ?_
    refine a_ret hT [] rfl rfl rfl rfl rfl rfl ?_
    first | exact ⟨rfl, rfl⟩ | rfl
  · have h2 := of_decide_eq_false h2
    refine a_if hT rfl rfl (fun h3 => ?_) (fun h3 => ?_)
    · have h3 := of_decide_eq_true h3
      refine a_ret hT [] rfl rfl rfl rfl rfl rfl ?_
      first | exact ⟨rfl, rfl⟩ | rfl
    · have h3 := of_decide_eq_false h3
      (exfalso; first | omega | contradiction)
theorem cwakeT_spec {g h : Nat} {C : CS} (hC : C.ok) : FSpec Try.prog 24 [ptrA g h] [.ext (cliA g C)] fun a cs => ∃ C', (((C.calls = [] ∧ a = .tup [.v (kI 0) 0, .v (.bool false) 0]) ∨ ∃ p, IsMin (due C.calls) p ∧ a = .tup [.v (kI p.2) 0, .v (.bool true) 0]) ∧ C' = C) ∧ cs = [.ext (cliA g C')] := by
  have hn0 := hC.n0
  refine cl_spec (R := fun a C' => ((C.calls = [] ∧ a = .tup [.v (kI 0) 0, .v (.bool false) 0]) ∨ ∃ p, IsMin (due C.calls) p ∧ a = .tup [.v (kI p.2) 0, .v (.bool true) 0]) ∧ C' = C) fun y hy => ?_
  refine a_enter hT [ptrA g 10] [10, 11, 14, 13] Try.func24 rfl rfl rfl ⟨rfl, trivial⟩ fun c => ?_
  refine a_callZ hT rfl rfl rfl (by kernel_rfl) none_spec [10] [] [] rfl rfl rfl ⟨rfl, trivial⟩ trivial (by rintro _ _ ⟨rfl, rfl⟩; exact ⟨inferInstance, inferInstance⟩) ?_
  rintro _ _ ⟨rfl, rfl⟩
  refine a_if hT rfl rfl (fun h1 => ?_) (fun h1 => ?_)
  · have h1 := eq_of_beq h1
    (exfalso; first | omega | contradiction)
  · have h1 := ne_of_beq_false h1
    refine a_call hT rfl rfl rfl (by kernel_rfl) tfirst_spec [13] [13] rfl rfl ?_
    rintro _ _ ⟨S', ⟨⟨(⟨hr, rfl⟩ | ⟨p, hr1, rfl⟩), rfl⟩, rfl⟩⟩
    · refine a_ret hT [10, 11, 14, 13] rfl rfl rfl rfl rfl rfl ?_
      exact ⟨_, CX.cs g C y, C, Fit.refl _, Ent.refl _, cl_pack hy, .inl ⟨by unfold due at hr; simpa using hr, rfl⟩, rfl⟩
    · refine a_ret hT [10, 11, 14, 13] rfl rfl rfl rfl rfl rfl ?_
      exact ⟨_, CX.cs g C y, C, Fit.refl _, Ent.refl _, cl_pack hy, .inr ⟨p, hr1, rfl⟩, rfl⟩
end Go.Proofs.Ytepjnmocepkfjaa
