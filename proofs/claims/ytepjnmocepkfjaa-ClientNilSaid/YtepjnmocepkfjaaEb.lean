/- Layer 17's queue in memory: Push, Pop. -/
import Derived.Test.YtepjnmocepkfjaaEa
set_option linter.unusedVariables false
set_option linter.unusedSimpArgs false
namespace Go.Proofs.Ytepjnmocepkfjaa
open V A
def tmBlk (g : Nat) (v : Value) (mo : Option Nat) : Chunk := .blk g 98 [.row v 30, .v (.map mo) 11]
theorem elP : elemOk Try.prog 99 1 = true := by kernel_rfl
def entX (e : QE) (at_ : Value) : Chunk := .blk e.b 102 [.v (kU e.key) 0, .v (kI e.due) 0, .v at_ 0]
theorem qpush_spec {g h h2 : Nat} {v x : Value} {mo : Option Nat} {q : List QE} {e : QE} (hq : q.length < 1000000) : FSpec Try.prog 108 [ptrA g h, .ifc 99 (.v (ptrB e.b) h2)] [tmBlk g v mo, rowP v q, entX e x]
    fun _ cs => ∃ v', cs = [tmBlk g v' mo, rowP v' (q ++ [e]), entC q.length e] := by
  refine a_enter hT [ptrA g 10, .ifc 99 (.v (ptrB e.b) 12)] [10, 30, 12] Try.func108 rfl rfl rfl ⟨rfl, ⟨rfl, rfl⟩, trivial⟩ fun c => ?_
  refine a_lit hT 50 rfl rfl rfl rfl elP rfl rfl rfl rfl fun y => ?_
  refine a_app hT 30 ((q ++ [e]).map pB) rfl rfl rfl rfl elP rfl rfl rfl rfl rfl (by simp [pB, ptrB]) (by simp; unfold lim; omega) fun v' => ?_
  refine a_end hT [10, 30, 12] rfl rfl rfl rfl rfl rfl ⟨v', ?_⟩
  unfold entC
  rw [show (q.length : Int) = ((q.map pB).length : Int) by rw [List.length_map]]
  rfl
theorem qpop_spec {g h : Nat} {v : Value} {mo : Option Nat} {q : List QE} {e : QE} (hq : q.length < 1000000) : FSpec Try.prog 107 [ptrA g h] [tmBlk g v mo, rowP v (q ++ [e])]
    fun a cs => ∃ v', a = .ifc 99 (.d (.v (ptrB e.b))) ∧ cs = [tmBlk g v' mo, rowP v' q] := by
  refine a_enter hT [ptrA g 10] [10, 30] Try.func107 rfl rfl rfl ⟨rfl, trivial⟩ fun c => ?_
  refine a_rowfact 30 rfl rfl fun hf => ?_
  rcases hf with ⟨_, hf⟩ | ⟨gr, cap, rfl⟩
  · simp at hf
  have hw : IntKind.i64.wrap ((((q ++ [e]).map pB).length : Int) - 1) = (q.length : Int) := by
    rw [List.length_map, List.length_append, wrap64 (by simp <;> omega) (by simp <;> omega)]
    simp
  have el : ((q ++ [e]).map pB)[q.length]? = some (pB e) := by simp
  refine a_rix hT q.length rfl rfl rfl rfl rfl rfl hw (by simp) ?_
  refine a_rld hT q.length 0 (pB e) (.d (.v (ptrB e.b))) rfl rfl rfl rfl rfl rfl (by omega) el rfl ?_
  refine a_rsl hT q.length rfl rfl rfl rfl rfl rfl rfl rfl hw (by simp) ?_
  refine a_ret hT [10, 30] rfl rfl rfl rfl rfl rfl ⟨.slice (some ⟨gr, 0, none⟩) q.length cap, rfl, ?_⟩
  have : ((q ++ [e]).map pB).take q.length = q.map pB := by simp
  rw [this]
  rfl
end Go.Proofs.Ytepjnmocepkfjaa
