import Derived.Test.YtjcolfogmmjaoaaGreatDoorCards
import Derived.Test.YtjcolfogmmjaoaaGreatDoorTie
import Derived.Test.YtjcolfogmmjaoaaGreatDoorQEncodeFields12
import Derived.WalkKit
import Derived.ProofKit
import Derived.OpenShut
import Derived.SizedLaws
import Derived.Deep.DeepHandedRow
import Derived.Lib.LaidTab
section
set_option linter.unusedVariables false
namespace Go.Proofs.YtjcolfogmmjaoaaGreatDoor
open V
theorem encodeFields_own : ownKnob Tryz.prog.godebug = none := by kernel_rfl
def encodeFields_lay (l : List Int) : Obj → Obj
  | .cells _ t frozen => .cells (l.map (Value.int .u8)).toArray t frozen
  | o => o
noncomputable def encodeFields_world (os : Os) : World :=
  { World.holding Tryz.prog os ⟨#[], #[], []⟩ with heap := ((World.holding Tryz.prog os ⟨#[], #[], []⟩).heap.modify 0 (encodeFields_lay [240, 240, 240, 240, 240, 240, 240, 240, 240, 240, 240, 240, 240, 240, 240, 240, 240, 240, 240, 240, 240, 240, 240, 240, 240, 240, 240, 240, 240, 240, 240, 240, 240, 240, 240, 240, 240, 240, 240, 240, 240, 240, 240, 240, 240, 240, 240, 240, 240, 240, 240, 240, 240, 240, 240, 240, 240, 240, 240, 240, 240, 240, 240, 240, 240, 240, 240, 240, 240, 240, 240, 240, 240, 240, 240, 240, 240, 240, 240, 240, 240, 240, 240, 240, 240, 240, 240, 240, 240, 240, 240, 240, 240, 240, 240, 240, 240, 240, 240, 240, 240, 240, 240, 240, 240, 240, 240, 240, 240, 240, 240, 240, 240, 240, 240, 240, 240, 240, 240, 240, 240, 240, 240, 240, 240, 240, 240, 240, 241, 241, 241, 241, 241, 241, 241, 241, 241, 241, 241, 241, 241, 241, 241, 241, 241, 241, 241, 241, 241, 241, 241, 241, 241, 241, 241, 241, 241, 241, 241, 241, 241, 241, 241, 241, 241, 241, 241, 241, 241, 241, 241, 241, 241, 241, 241, 241, 241, 241, 241, 241, 241, 241, 241, 241, 241, 241, 241, 241, 241, 241, 241, 241, 241, 241, 2, 2, 2, 2, 2, 2, 2, 2, 2, 2, 2, 2, 2, 2, 2, 2, 2, 2, 2, 2, 2, 2, 2, 2, 2, 2, 2, 2, 2, 2, 19, 3, 3, 3, 3, 3, 3, 3, 3, 3, 3, 3, 3, 35, 3, 3, 52, 4, 4, 4, 68, 241, 241, 241, 241, 241, 241, 241, 241, 241, 241, 241])).modify 1 (encodeFields_lay [128, 191, 160, 191, 128, 159, 144, 191, 128, 143, 0, 0, 0, 0, 0, 0, 0, 0, 0, 0, 0, 0, 0, 0, 0, 0, 0, 0, 0, 0, 0, 0]) }
set_option maxRecDepth 100000 in
theorem encodeFields_met (os : Os) : laidMet Tryz.prog Rows.encodeFieldsRow.laid ((encodeFields_world os).forCall (fun _ _ => 0) ⟨#[], #[.agg #[.slice none 0 0, .slice none 0 0, .slice none 0 0], .int .i64 0, .agg #[.int .i64 0, .int .i64 0, .int .u64 0, .bool false, .string ByteArray.empty, .int .i64 0, .slice none 0 0]], []⟩).memory :=
  laidMet_of_run' 8 (by kernel_rfl) (by kernel_rfl)
theorem encodeFields_reads (os : Os) {H : Type} (enc : TypeId × Value → H) : ∃ places, DataW.whole enc Tryz.prog ((encodeFields_world os).forCall (fun _ _ => 0) ⟨#[], #[.agg #[.slice none 0 0, .slice none 0 0, .slice none 0 0], .int .i64 0, .agg #[.int .i64 0, .int .i64 0, .int .u64 0, .bool false, .string ByteArray.empty, .int .i64 0, .slice none 0 0]], []⟩).memory Tryz.f5.params.toList Rows.encodeFieldsSpec.vars false #[.agg #[.slice none 0 0, .slice none 0 0, .slice none 0 0], .int .i64 0, .agg #[.int .i64 0, .int .i64 0, .int .u64 0, .bool false, .string ByteArray.empty, .int .i64 0, .slice none 0 0]].toList 8 = some ([.agg [.nil, .nil, .nil], .lit (.int .i64 0), .agg [.lit (.int .i64 0), .lit (.int .i64 0), .lit (.int .u64 0), .lit (.bool false), .lit (.string []), .lit (.int .i64 0), .nil]], [], places) :=
  ⟨[], by kernel_rfl⟩
set_option maxRecDepth 100000 in
theorem encodeFields_lifted (os : Os) (started : os.Started) (H : Type) (enc : TypeId × Value → H) (F : Stop.Interp) :
    ReturnsInHanded {} Tryz.checked os 5 .any ((OpenSpec.ofChange Rows.encodeFieldsSpec).preRow enc Tryz.prog Tryz.f5 Rows.encodeFieldsRow.domain false Rows.encodeFieldsRow.laid) (((OpenSpec.ofChange Rows.encodeFieldsSpec).at F).post enc Tryz.prog Tryz.f5 false true false false) := by
  obtain ⟨places, hx⟩ := encodeFields_reads os enc
  refine returnsInHanded_of_row (C := Tryz.checked) (s := OpenSpec.ofChange Rows.encodeFieldsSpec) encodeFields_own started (by kernel_rfl) Tryz.func5
    (witness_row_at (enc := enc) (C := Tryz.checked) false (encodeFields_world os) #[.agg #[.slice none 0 0, .slice none 0 0, .slice none 0 0], .int .i64 0, .agg #[.int .i64 0, .int .i64 0, .int .u64 0, .bool false, .string ByteArray.empty, .int .i64 0, .slice none 0 0]] rfl (by kernel_rfl) (by kernel_rfl) (by kernel_rfl)
      (OpenSpec.preRow_of_cond 8 hx (by kernel_rfl) (fun k hk => by cases hk) (by kernel_rfl) (encodeFields_met os))) ?_
  intro W base args ds gs before hval hW _ _ hsz hL _ _
  have htab := u8_tabs hL (.tail _ (.head _)) (.head _)
  exact A.law_postW [26, 22, 57, 9, 55, 68, 3, 4, 23, 82, 80, 84, 24, 86, 38, 2, 35, 36, 79, 77] (by kernel_rfl) (by kernel_rfl) (by kernel_rfl) (by kernel_rfl) (b := 4) rfl (by kernel_rfl) rfl (fun ds hd => by
    match ds, hd with | [d1, d2, d3], _ => exact ⟨rfl, rfl, rfl⟩) W base args ds gs before hval hW hsz rfl (encodeFields_row W args htab)
theorem encodeFields_said : Rows.EncodeFieldsSaid :=
  OpenClaim.holds_of_cond 5 Tryz.f5 rfl rfl rfl rfl rfl rfl rfl ⟨rfl, rfl, rfl, rfl, rfl⟩ rfl rfl rfl rfl rfl (by kernel_rfl) Tryz.func5 (by kernel_rfl)
    (of_decide_eq_true (by kernel_rfl)) (by unfold Func.isWrapper; first | (rw [if_pos (by decide +kernel)]; kernel_rfl) | (rw [if_neg (by decide +kernel)]; exact ⟨rfl, rfl⟩))
    (fun os started H enc _ F => by rw [OpenClaim.pre_eq_preRow]; exact encodeFields_lifted os started H enc F)
theorem encodeFields_plain (f : FuncId) (fn : Func) (hf : Tryz.pinned.checked.prog.funcNamed "courier/courierlaw10.EncodeFields" = some f) (hfn : Tryz.pinned.checked.prog.funcs[f]? = some fn) :
    true = Tryz.pinned.checked.prog.looks [] ∧ ∀ (j : Nat) t, fn.params[j]? = some t → Tryz.pinned.checked.prog.wantsStandIn t = false := by
  obtain rfl : f = 5 := Option.some.inj ((show Tryz.prog.funcNamed "courier/courierlaw10.EncodeFields" = some 5 by kernel_rfl).symm.trans hf) |>.symm
  obtain rfl : fn = Tryz.f5 := (Option.some.inj (Tryz.func5.symm.trans hfn)).symm
  refine ⟨by kernel_rfl, fun j t ht => ?_⟩
  have h := (show Tryz.f5.params.toList.all (fun t => !Tryz.prog.wantsStandIn t) = true by kernel_rfl)
  have := List.all_eq_true.1 h t (Array.mem_toList_iff.2 (Array.mem_of_getElem? ht))
  show Tryz.prog.wantsStandIn t = false
  simpa using this
theorem encodeFields_holds : Rows.EncodeFieldsCardSaid :=
  Claim7.holds_tied_plain_at .later [] _ _ _ _ encodeFields_said (fun _ h => by cases h) (by kernel_rfl) (fun _ h => by cases h) encodeFields_row_tie rfl ⟨rfl, rfl⟩ (by kernel_rfl) rfl encodeFields_plain (by kernel_rfl)
end Go.Proofs.YtjcolfogmmjaoaaGreatDoor
end
