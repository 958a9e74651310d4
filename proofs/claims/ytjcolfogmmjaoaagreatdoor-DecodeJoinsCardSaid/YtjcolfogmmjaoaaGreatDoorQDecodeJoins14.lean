import Derived.Test.YtjcolfogmmjaoaaGreatDoorCards
import Derived.Test.YtjcolfogmmjaoaaGreatDoorTie
import Derived.Test.YtjcolfogmmjaoaaGreatDoorQDecodeJoins13
import Derived.WalkKit
import Derived.ProofKit
import Derived.OpenShut
import Derived.SizedLaws
import Derived.Deep.DeepHandedRow
import Derived.Lib.LaidTab
section
set_option linter.unusedVariables false
namespace Go.Proofs.YtjcolfogmmjaoaaGreatDoor
open V
theorem decodeJoins_own : ownKnob Tryz.prog.godebug = none := by kernel_rfl
def decodeJoins_lay (l : List Int) : Obj → Obj
  | .cells _ t frozen => .cells (l.map (Value.int .u8)).toArray t frozen
  | o => o
noncomputable def decodeJoins_world (os : Os) : World :=
  { World.holding Tryz.prog os ⟨#[], #[], []⟩ with heap := ((World.holding Tryz.prog os ⟨#[], #[], []⟩).heap.modify 0 (decodeJoins_lay [240, 240, 240, 240, 240, 240, 240, 240, 240, 240, 240, 240, 240, 240, 240, 240, 240, 240, 240, 240, 240, 240, 240, 240, 240, 240, 240, 240, 240, 240, 240, 240, 240, 240, 240, 240, 240, 240, 240, 240, 240, 240, 240, 240, 240, 240, 240, 240, 240, 240, 240, 240, 240, 240, 240, 240, 240, 240, 240, 240, 240, 240, 240, 240, 240, 240, 240, 240, 240, 240, 240, 240, 240, 240, 240, 240, 240, 240, 240, 240, 240, 240, 240, 240, 240, 240, 240, 240, 240, 240, 240, 240, 240, 240, 240, 240, 240, 240, 240, 240, 240, 240, 240, 240, 240, 240, 240, 240, 240, 240, 240, 240, 240, 240, 240, 240, 240, 240, 240, 240, 240, 240, 240, 240, 240, 240, 240, 240, 241, 241, 241, 241, 241, 241, 241, 241, 241, 241, 241, 241, 241, 241, 241, 241, 241, 241, 241, 241, 241, 241, 241, 241, 241, 241, 241, 241, 241, 241, 241, 241, 241, 241, 241, 241, 241, 241, 241, 241, 241, 241, 241, 241, 241, 241, 241, 241, 241, 241, 241, 241, 241, 241, 241, 241, 241, 241, 241, 241, 241, 241, 241, 241, 241, 241, 2, 2, 2, 2, 2, 2, 2, 2, 2, 2, 2, 2, 2, 2, 2, 2, 2, 2, 2, 2, 2, 2, 2, 2, 2, 2, 2, 2, 2, 2, 19, 3, 3, 3, 3, 3, 3, 3, 3, 3, 3, 3, 3, 35, 3, 3, 52, 4, 4, 4, 68, 241, 241, 241, 241, 241, 241, 241, 241, 241, 241, 241])).modify 1 (decodeJoins_lay [128, 191, 160, 191, 128, 159, 144, 191, 128, 143, 0, 0, 0, 0, 0, 0, 0, 0, 0, 0, 0, 0, 0, 0, 0, 0, 0, 0, 0, 0, 0, 0]) }
set_option maxRecDepth 100000 in
theorem decodeJoins_met (os : Os) : laidMet Tryz.prog Rows.decodeJoinsRow.laid ((decodeJoins_world os).forCall (fun _ _ => 0) ⟨#[], #[.agg #[.slice none 0 0, .slice none 0 0, .slice none 0 0], .int .i64 0, .agg #[.int .i64 0, .int .i64 0, .int .u64 0, .bool false, .string ByteArray.empty, .int .i64 0, .slice none 0 0], .agg #[.int .i64 0, .int .i64 0, .int .u64 0, .bool false, .string ByteArray.empty, .int .i64 0, .slice none 0 0]], []⟩).memory :=
  laidMet_of_run' 8 (by kernel_rfl) (by kernel_rfl)
theorem decodeJoins_reads (os : Os) {H : Type} (enc : TypeId × Value → H) : ∃ places, DataW.whole enc Tryz.prog ((decodeJoins_world os).forCall (fun _ _ => 0) ⟨#[], #[.agg #[.slice none 0 0, .slice none 0 0, .slice none 0 0], .int .i64 0, .agg #[.int .i64 0, .int .i64 0, .int .u64 0, .bool false, .string ByteArray.empty, .int .i64 0, .slice none 0 0], .agg #[.int .i64 0, .int .i64 0, .int .u64 0, .bool false, .string ByteArray.empty, .int .i64 0, .slice none 0 0]], []⟩).memory Tryz.f10.params.toList Rows.decodeJoinsSpec.vars false #[.agg #[.slice none 0 0, .slice none 0 0, .slice none 0 0], .int .i64 0, .agg #[.int .i64 0, .int .i64 0, .int .u64 0, .bool false, .string ByteArray.empty, .int .i64 0, .slice none 0 0], .agg #[.int .i64 0, .int .i64 0, .int .u64 0, .bool false, .string ByteArray.empty, .int .i64 0, .slice none 0 0]].toList 8 = some ([.agg [.nil, .nil, .nil], .lit (.int .i64 0), .agg [.lit (.int .i64 0), .lit (.int .i64 0), .lit (.int .u64 0), .lit (.bool false), .lit (.string []), .lit (.int .i64 0), .nil], .agg [.lit (.int .i64 0), .lit (.int .i64 0), .lit (.int .u64 0), .lit (.bool false), .lit (.string []), .lit (.int .i64 0), .nil]], [], places) :=
  ⟨[], by kernel_rfl⟩
set_option maxRecDepth 100000 in
theorem decodeJoins_lifted (os : Os) (started : os.Started) (H : Type) (enc : TypeId × Value → H) (F : Stop.Interp) :
    ReturnsInHanded {} Tryz.checked os 10 .any ((OpenSpec.ofChange Rows.decodeJoinsSpec).preRow enc Tryz.prog Tryz.f10 Rows.decodeJoinsRow.domain false Rows.decodeJoinsRow.laid) (((OpenSpec.ofChange Rows.decodeJoinsSpec).at F).post enc Tryz.prog Tryz.f10 false true false false) := by
  obtain ⟨places, hx⟩ := decodeJoins_reads os enc
  refine returnsInHanded_of_row (C := Tryz.checked) (s := OpenSpec.ofChange Rows.decodeJoinsSpec) decodeJoins_own started (by kernel_rfl) Tryz.func10
    (witness_row_at (enc := enc) (C := Tryz.checked) false (decodeJoins_world os) #[.agg #[.slice none 0 0, .slice none 0 0, .slice none 0 0], .int .i64 0, .agg #[.int .i64 0, .int .i64 0, .int .u64 0, .bool false, .string ByteArray.empty, .int .i64 0, .slice none 0 0], .agg #[.int .i64 0, .int .i64 0, .int .u64 0, .bool false, .string ByteArray.empty, .int .i64 0, .slice none 0 0]] rfl (by kernel_rfl) (by kernel_rfl) (by kernel_rfl)
      (OpenSpec.preRow_of_cond 8 hx (by kernel_rfl) (fun k hk => by cases hk) (by kernel_rfl) (decodeJoins_met os))) ?_
  intro W base args ds gs before hval hW _ _ hsz hL _ _
  have htab := u8_tabs hL (.tail _ (.head _)) (.head _)
  exact A.law_postW [26, 22, 57, 9, 55, 68, 3, 4, 23, 82, 80, 84, 24, 86, 38, 2, 35, 36, 79, 77] (by kernel_rfl) (by kernel_rfl) (by kernel_rfl) (by kernel_rfl) (b := 4) rfl (by kernel_rfl) rfl (fun ds hd => by
    match ds, hd with | [d1, d2, d3, d4], _ => exact ⟨rfl, rfl, rfl⟩) W base args ds gs before hval hW hsz rfl (decodeJoins_row W args htab)
theorem decodeJoins_said : Rows.DecodeJoinsSaid :=
  OpenClaim.holds_of_cond 10 Tryz.f10 rfl rfl rfl rfl rfl rfl rfl ⟨rfl, rfl, rfl, rfl, rfl⟩ rfl rfl rfl rfl rfl (by kernel_rfl) Tryz.func10 (by kernel_rfl)
    (of_decide_eq_true (by kernel_rfl)) (by unfold Func.isWrapper; first | (rw [if_pos (by decide +kernel)]; kernel_rfl) | (rw [if_neg (by decide +kernel)]; exact ⟨rfl, rfl⟩))
    (fun os started H enc _ F => by rw [OpenClaim.pre_eq_preRow]; exact decodeJoins_lifted os started H enc F)
theorem decodeJoins_plain (f : FuncId) (fn : Func) (hf : Tryz.pinned.checked.prog.funcNamed "courier/courierlaw11.DecodeJoins" = some f) (hfn : Tryz.pinned.checked.prog.funcs[f]? = some fn) :
    true = Tryz.pinned.checked.prog.looks [] ∧ ∀ (j : Nat) t, fn.params[j]? = some t → Tryz.pinned.checked.prog.wantsStandIn t = false := by
  obtain rfl : f = 10 := Option.some.inj ((show Tryz.prog.funcNamed "courier/courierlaw11.DecodeJoins" = some 10 by kernel_rfl).symm.trans hf) |>.symm
  obtain rfl : fn = Tryz.f10 := (Option.some.inj (Tryz.func10.symm.trans hfn)).symm
  refine ⟨by kernel_rfl, fun j t ht => ?_⟩
  have h := (show Tryz.f10.params.toList.all (fun t => !Tryz.prog.wantsStandIn t) = true by kernel_rfl)
  have := List.all_eq_true.1 h t (Array.mem_toList_iff.2 (Array.mem_of_getElem? ht))
  show Tryz.prog.wantsStandIn t = false
  simpa using this
theorem decodeJoins_holds : Rows.DecodeJoinsCardSaid :=
  Claim7.holds_tied_plain_at .later [] _ _ _ _ decodeJoins_said (fun _ h => by cases h) (by kernel_rfl) (fun _ h => by cases h) decodeJoins_row_tie rfl ⟨rfl, rfl⟩ (by kernel_rfl) rfl decodeJoins_plain (by kernel_rfl)
end Go.Proofs.YtjcolfogmmjaoaaGreatDoor
end
