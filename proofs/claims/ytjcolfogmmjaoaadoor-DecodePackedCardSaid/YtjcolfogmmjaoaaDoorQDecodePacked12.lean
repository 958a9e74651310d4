import Derived.Test.YtjcolfogmmjaoaaDoorCards
import Derived.Test.YtjcolfogmmjaoaaDoorTie
import Derived.Test.YtjcolfogmmjaoaaDoorQDecodePacked11
import Derived.WalkKit
import Derived.ProofKit
import Derived.OpenShut
import Derived.SizedLaws
import Derived.Deep.DeepHandedRow
import Derived.Lib.LaidTab
section
/- Values of a repeated field of numbers are the same, be they packed into one field, into several, or each alone. It holds of every input; the row lists two tables of Go's own (package unicode/utf8), which the card ties to the text. -/
set_option linter.unusedVariables false
namespace Go.Proofs.YtjcolfogmmjaoaaDoor
open V
theorem decodePacked_own : ownKnob Tryd.prog.godebug = none := by kernel_rfl
def decodePacked_lay (l : List Int) : Obj → Obj
  | .cells _ t frozen => .cells (l.map (Value.int .u8)).toArray t frozen
  | o => o
/-- A world for the witness: both tables hold what their initialisers lay. -/
noncomputable def decodePacked_world (os : Os) : World :=
  { World.holding Tryd.prog os ⟨#[], #[], []⟩ with heap := ((World.holding Tryd.prog os ⟨#[], #[], []⟩).heap.modify 0 (decodePacked_lay [240, 240, 240, 240, 240, 240, 240, 240, 240, 240, 240, 240, 240, 240, 240, 240, 240, 240, 240, 240, 240, 240, 240, 240, 240, 240, 240, 240, 240, 240, 240, 240, 240, 240, 240, 240, 240, 240, 240, 240, 240, 240, 240, 240, 240, 240, 240, 240, 240, 240, 240, 240, 240, 240, 240, 240, 240, 240, 240, 240, 240, 240, 240, 240, 240, 240, 240, 240, 240, 240, 240, 240, 240, 240, 240, 240, 240, 240, 240, 240, 240, 240, 240, 240, 240, 240, 240, 240, 240, 240, 240, 240, 240, 240, 240, 240, 240, 240, 240, 240, 240, 240, 240, 240, 240, 240, 240, 240, 240, 240, 240, 240, 240, 240, 240, 240, 240, 240, 240, 240, 240, 240, 240, 240, 240, 240, 240, 240, 241, 241, 241, 241, 241, 241, 241, 241, 241, 241, 241, 241, 241, 241, 241, 241, 241, 241, 241, 241, 241, 241, 241, 241, 241, 241, 241, 241, 241, 241, 241, 241, 241, 241, 241, 241, 241, 241, 241, 241, 241, 241, 241, 241, 241, 241, 241, 241, 241, 241, 241, 241, 241, 241, 241, 241, 241, 241, 241, 241, 241, 241, 241, 241, 241, 241, 2, 2, 2, 2, 2, 2, 2, 2, 2, 2, 2, 2, 2, 2, 2, 2, 2, 2, 2, 2, 2, 2, 2, 2, 2, 2, 2, 2, 2, 2, 19, 3, 3, 3, 3, 3, 3, 3, 3, 3, 3, 3, 3, 35, 3, 3, 52, 4, 4, 4, 68, 241, 241, 241, 241, 241, 241, 241, 241, 241, 241, 241])).modify 1 (decodePacked_lay [128, 191, 160, 191, 128, 159, 144, 191, 128, 143, 0, 0, 0, 0, 0, 0, 0, 0, 0, 0, 0, 0, 0, 0, 0, 0, 0, 0, 0, 0, 0, 0]) }
set_option maxRecDepth 100000 in
theorem decodePacked_met (os : Os) : laidMet Tryd.prog Rows.decodePackedRow.laid ((decodePacked_world os).forCall (fun _ _ => 0) ⟨#[], #[.int .u8 0, .slice none 0 0, .int .u8 0], []⟩).memory :=
  laidMet_of_run' 8 (by kernel_rfl) (by kernel_rfl)
theorem decodePacked_reads (os : Os) {H : Type} (enc : TypeId × Value → H) : ∃ places, DataW.whole enc Tryd.prog ((decodePacked_world os).forCall (fun _ _ => 0) ⟨#[], #[.int .u8 0, .slice none 0 0, .int .u8 0], []⟩).memory Tryd.f5.params.toList Rows.decodePackedSpec.vars false #[.int .u8 0, .slice none 0 0, .int .u8 0].toList 8 = some ([.lit (.int .u8 0), .nil, .lit (.int .u8 0)], [], places) :=
  ⟨[], by kernel_rfl⟩
set_option maxRecDepth 100000 in
theorem decodePacked_lifted (os : Os) (started : os.Started) (H : Type) (enc : TypeId × Value → H) (F : Stop.Interp) :
    ReturnsInHanded {} Tryd.checked os 5 .any ((OpenSpec.ofChange Rows.decodePackedSpec).preRow enc Tryd.prog Tryd.f5 Rows.decodePackedRow.domain false Rows.decodePackedRow.laid) (((OpenSpec.ofChange Rows.decodePackedSpec).at F).post enc Tryd.prog Tryd.f5 false true false false) := by
  obtain ⟨places, hx⟩ := decodePacked_reads os enc
  refine returnsInHanded_of_row (C := Tryd.checked) (s := OpenSpec.ofChange Rows.decodePackedSpec) decodePacked_own started (by kernel_rfl) Tryd.func5
    (witness_row_at (enc := enc) (C := Tryd.checked) false (decodePacked_world os) #[.int .u8 0, .slice none 0 0, .int .u8 0] rfl (by kernel_rfl) (by kernel_rfl) (by kernel_rfl)
      (OpenSpec.preRow_of_cond 8 hx (by kernel_rfl) (fun k hk => by cases hk) (by kernel_rfl) (decodePacked_met os))) ?_
  intro W base args ds gs before hval hW _ _ hsz _ _ _
  exact A.law_postR [5, 47, 22] (by kernel_rfl) (by kernel_rfl) (by kernel_rfl) (by kernel_rfl) (b := 4) rfl (by kernel_rfl) rfl (fun ds hd => by
    match ds, hd with | [d1, d2, d3], _ => exact ⟨rfl, rfl, rfl⟩) decodePacked_row W base args ds gs before hval hW hsz rfl
theorem decodePacked_said : Rows.DecodePackedSaid :=
  OpenClaim.holds_of_cond 5 Tryd.f5 rfl rfl rfl rfl rfl rfl rfl ⟨rfl, rfl, rfl, rfl, rfl⟩ rfl rfl rfl rfl rfl (by kernel_rfl) Tryd.func5 (by kernel_rfl)
    (of_decide_eq_true (by kernel_rfl)) (by unfold Func.isWrapper; first | (rw [if_pos (by decide +kernel)]; kernel_rfl) | (rw [if_neg (by decide +kernel)]; exact ⟨rfl, rfl⟩))
    (fun os started H enc _ F => by rw [OpenClaim.pre_eq_preRow]; exact decodePacked_lifted os started H enc F)
theorem decodePacked_plain (f : FuncId) (fn : Func) (hf : Tryd.pinned.checked.prog.funcNamed "courier/courierlaw11.DecodePacked" = some f) (hfn : Tryd.pinned.checked.prog.funcs[f]? = some fn) :
    true = Tryd.pinned.checked.prog.looks [] ∧ ∀ (j : Nat) t, fn.params[j]? = some t → Tryd.pinned.checked.prog.wantsStandIn t = false := by
  obtain rfl : f = 5 := Option.some.inj ((show Tryd.prog.funcNamed "courier/courierlaw11.DecodePacked" = some 5 by kernel_rfl).symm.trans hf) |>.symm
  obtain rfl : fn = Tryd.f5 := (Option.some.inj (Tryd.func5.symm.trans hfn)).symm
  refine ⟨by kernel_rfl, fun j t ht => ?_⟩
  have h := (show Tryd.f5.params.toList.all (fun t => !Tryd.prog.wantsStandIn t) = true by kernel_rfl)
  have := List.all_eq_true.1 h t (Array.mem_toList_iff.2 (Array.mem_of_getElem? ht))
  show Tryd.prog.wantsStandIn t = false
  simpa using this
/-- The card. -/
theorem decodePacked_holds : Rows.DecodePackedCardSaid :=
  Claim7.holds_tied_plain_at .later [] _ _ _ _ decodePacked_said (fun _ h => by cases h) (by kernel_rfl) (fun _ h => by cases h) decodePacked_row_tie rfl ⟨rfl, rfl⟩ (by kernel_rfl) rfl decodePacked_plain (by kernel_rfl)
end Go.Proofs.YtjcolfogmmjaoaaDoor
end
