import Derived.Test.YtjcolfogmmjaoaaGreatDoorProg
import Derived.Test.YtjcolfogmmjaoaaGreatDoorQDecodeUnknown0
import Derived.Test.YtjcolfogmmjaoaaGreatDoorQDecodeUnknown4
section
namespace Go.Proofs.YtjcolfogmmjaoaaGreatDoor
open V
def T : List TD := [
  .non, .fn, .int .i64, .int .i64, .bool, .int .u8, .int .u8, .agg 4 [(0, 1, false), (1, 1, false), (2, 1, false), (3, 1, false)],
  .agg 4 [(0, 1, false), (1, 1, false), (2, 1, false), (3, 1, false)], .str, .str, .str, .int .u64, .agg 2 [(0, 1, false), (1, 1, false)], .agg 2 [(0, 1, false), (1, 1, false)], .ptr,
  .ptr, .ptr, .agg 1 [(0, 1, false)], .agg 1 [(0, 1, false)], .ifc, .int .i32, .sl 57 2, .sl 82 2,
  .sl 86 5, .agg 3 [(0, 1, false), (1, 1, false), (2, 1, false)], .agg 3 [(0, 1, false), (1, 1, false), (2, 1, false)], .sl 5 1, .fn, .fn, .ifc, .ifc,
  .int .i64, .non, .fn, .int .u64, .sl 79 2, .agg 7 [(0, 1, false), (1, 1, false), (2, 1, false), (3, 1, false), (4, 1, false), (5, 1, false), (6, 1, false)], .agg 7 [(0, 1, false), (1, 1, false), (2, 1, false), (3, 1, false), (4, 1, false), (5, 1, false), (6, 1, false)], .non,
  .fn, .fn, .fn, .fn, .fn, .fn, .fn, .non,
  .fn, .fn, .sl 59 4, .sl 27 1, .non, .fn, .fn, .sl 68 5,
  .agg 2 [(0, 1, false), (1, 1, false)], .agg 2 [(0, 1, false), (1, 1, false)], .agg 4 [(0, 1, false), (1, 1, false), (2, 1, false), (3, 1, false)], .agg 4 [(0, 1, false), (1, 1, false), (2, 1, false), (3, 1, false)], .fn, .fn, .fn, .fn,
  .fn, .int .u64, .fn, .agg 5 [(0, 1, false), (1, 1, false), (2, 1, false), (3, 1, false), (4, 1, false)], .agg 5 [(0, 1, false), (1, 1, false), (2, 1, false), (3, 1, false), (4, 1, false)], .fn, .fn, .fn,
  .sl 31 1, .fn, .fn, .fn, .fn, .sl 38 7, .agg 2 [(0, 1, false), (1, 1, false)], .agg 2 [(0, 1, false), (1, 1, false)],
  .sl 84 2, .agg 2 [(0, 1, false), (1, 1, false)], .agg 2 [(0, 1, false), (1, 1, false)], .agg 2 [(0, 1, false), (1, 1, false)], .agg 2 [(0, 1, false), (1, 1, false)], .agg 5 [(0, 1, false), (1, 1, false), (2, 1, false), (3, 1, false), (4, 1, false)], .agg 5 [(0, 1, false), (1, 1, false), (2, 1, false), (3, 1, false), (4, 1, false)], .fn,
  .fn, .int .i64, .int .u64, .bool, .str, .str, .int .i32, .sl 99 2,
  .agg 3 [(0, 1, false), (1, 1, false), (2, 1, false)], .agg 3 [(0, 1, false), (1, 1, false), (2, 1, false)], .agg 2 [(0, 1, false), (1, 1, false)], .agg 2 [(0, 1, false), (1, 1, false)], .fn, .fn, .fn, .fn,
  .non, .fn, .fn, .fn, .fn, .fn, .fn, .fn,
  .fn, .non, .fn, .fn, .fn, .fn, .fn, .sl 9 1,
  .fn, .non, .fn, .fn, .fn, .fn, .fn, .fn,
  .fn, .fn, .fn, .fn, .arr 2 9 1, .fn, .fn, .sl 139 4,
  .non, .fn, .map, .agg 4 [(0, 1, false), (1, 1, false), (2, 1, false), (3, 1, false)], .fn, .non, .fn, .fn,
  .non, .fn, .fn, .non, .fn, .fn, .fn, .fn,
  .fn, .non, .fn, .fn, .fn, .fn, .fn, .fn,
  .fn, .fn, .fn, .fn, .map, .fn, .fn, .fn,
  .fn, .fn, .fn, .fn, .fn, .map, .sl 4 1, .non,
  .fn, .fn, .fn, .fn, .fn, .fn, .fn, .fn,
  .sl 3 1, .non, .fn, .fn, .non, .fn, .fn, .fn,
  .int .u32, .fn, .fn, .arr 256 5 1, .agg 2 [(0, 1, false), (1, 1, false)], .agg 2 [(0, 1, false), (1, 1, false)], .arr 16 197 2, .fn,
  .non, .non, .non, .non, .non, .non, .fn, .map,
  .fn, .fn, .fn, .non, .fn, .non, .fn, .fn,
  .fn, .sl 21 1, .non, .fn, .fn, .fn, .fn, .fn,
  .non, .fn, .fn, .non, .fn, .fn, .agg 4 [(0, 1, false), (1, 1, false), (2, 1, false), (3, 1, false)], .agg 4 [(0, 1, false), (1, 1, false), (2, 1, false), (3, 1, false)],
  .arr 0 16 1, .non, .non, .fn, .int .u8, .int .u8, .fn, .ptr,
  .int .i32, .int .i32, .agg 11 [(0, 1, false), (1, 1, false), (2, 1, false), (3, 1, false), (4, 1, false), (5, 1, false), (6, 1, false), (7, 1, false), (8, 1, false), (9, 1, false), (10, 1, false)], .agg 11 [(0, 1, false), (1, 1, false), (2, 1, false), (3, 1, false), (4, 1, false), (5, 1, false), (6, 1, false), (7, 1, false), (8, 1, false), (9, 1, false), (10, 1, false)], .non]
set_option maxRecDepth 100000 in
theorem hT : TOk Tryz.prog T := TOk.of (by kernel_rfl)
end Go.Proofs.YtjcolfogmmjaoaaGreatDoor
end

section
namespace Go.Proofs.YtjcolfogmmjaoaaGreatDoor
open V A
def Z : List (List Value) := [
  [], [.nilFunc], [.int .i64 0], [.int .i64 0], [.bool false], [.int .u8 0], [.int .u8 0], [.int .i64 0, .int .i64 0, .bool false, .int .u8 0],
  [.int .i64 0, .int .i64 0, .bool false, .int .u8 0], [.string ByteArray.empty], [.string ByteArray.empty], [.string ByteArray.empty], [.int .u64 0], [.string ByteArray.empty, .int .u64 0], [.string ByteArray.empty, .int .u64 0], [.pointer none],
  [.pointer none], [.pointer none], [.pointer none], [.pointer none], [.nilIface], [.int .i32 0], [.slice none 0 0], [.slice none 0 0],
  [.slice none 0 0], [.slice none 0 0, .slice none 0 0, .slice none 0 0], [.slice none 0 0, .slice none 0 0, .slice none 0 0], [.slice none 0 0], [.nilFunc], [.nilFunc], [.nilIface], [.nilIface],
  [.int .i64 0], [], [.nilFunc], [.int .u64 0], [.slice none 0 0], [.int .i64 0, .int .i64 0, .int .u64 0, .bool false, .string ByteArray.empty, .int .i64 0, .slice none 0 0], [.int .i64 0, .int .i64 0, .int .u64 0, .bool false, .string ByteArray.empty, .int .i64 0, .slice none 0 0], [],
  [.nilFunc], [.nilFunc], [.nilFunc], [.nilFunc], [.nilFunc], [.nilFunc], [.nilFunc], [],
  [.nilFunc], [.nilFunc], [.slice none 0 0], [.slice none 0 0], [], [.nilFunc], [.nilFunc], [.slice none 0 0],
  [.string ByteArray.empty, .slice none 0 0], [.string ByteArray.empty, .slice none 0 0], [.int .i64 0, .int .i64 0, .int .u64 0, .slice none 0 0], [.int .i64 0, .int .i64 0, .int .u64 0, .slice none 0 0], [.nilFunc], [.nilFunc], [.nilFunc], [.nilFunc],
  [.nilFunc], [.int .u64 0], [.nilFunc], [.int .i64 0, .string ByteArray.empty, .int .i64 0, .bool false, .int .i64 0], [.int .i64 0, .string ByteArray.empty, .int .i64 0, .bool false, .int .i64 0], [.nilFunc], [.nilFunc], [.nilFunc],
  [.slice none 0 0], [.nilFunc], [.nilFunc], [.nilFunc], [.nilFunc], [.slice none 0 0], [.int .i64 0, .slice none 0 0], [.int .i64 0, .slice none 0 0],
  [.slice none 0 0], [.string ByteArray.empty, .slice none 0 0], [.string ByteArray.empty, .slice none 0 0], [.string ByteArray.empty, .int .i64 0], [.string ByteArray.empty, .int .i64 0], [.int .i64 0, .string ByteArray.empty, .string ByteArray.empty, .int .i64 0, .int .i64 0], [.int .i64 0, .string ByteArray.empty, .string ByteArray.empty, .int .i64 0, .int .i64 0], [.nilFunc],
  [.nilFunc], [.int .i64 0], [.int .u64 0], [.bool false], [.string ByteArray.empty], [.string ByteArray.empty], [.int .i32 0], [.slice none 0 0],
  [.int .i64 0, .slice none 0 0, .string ByteArray.empty], [.int .i64 0, .slice none 0 0, .string ByteArray.empty], [.int .i64 0, .slice none 0 0], [.int .i64 0, .slice none 0 0], [.nilFunc], [.nilFunc], [.nilFunc], [.nilFunc],
  [], [.nilFunc], [.nilFunc], [.nilFunc], [.nilFunc], [.nilFunc], [.nilFunc], [.nilFunc],
  [.nilFunc], [], [.nilFunc], [.nilFunc], [.nilFunc], [.nilFunc], [.nilFunc], [.slice none 0 0],
  [.nilFunc], [], [.nilFunc], [.nilFunc], [.nilFunc], [.nilFunc], [.nilFunc], [.nilFunc],
  [.nilFunc], [.nilFunc], [.nilFunc], [.nilFunc], [.string ByteArray.empty, .string ByteArray.empty], [.nilFunc], [.nilFunc], [.slice none 0 0],
  [], [.nilFunc], [.map none], [.int .i64 0, .int .i64 0, .int .u64 0, .slice none 0 0], [.nilFunc], [], [.nilFunc], [.nilFunc],
  [], [.nilFunc], [.nilFunc], [], [.nilFunc], [.nilFunc], [.nilFunc], [.nilFunc],
  [.nilFunc], [], [.nilFunc], [.nilFunc], [.nilFunc], [.nilFunc], [.nilFunc], [.nilFunc],
  [.nilFunc], [.nilFunc], [.nilFunc], [.nilFunc], [.map none], [.nilFunc], [.nilFunc], [.nilFunc],
  [.nilFunc], [.nilFunc], [.nilFunc], [.nilFunc], [.nilFunc], [.map none], [.slice none 0 0], [],
  [.nilFunc], [.nilFunc], [.nilFunc], [.nilFunc], [.nilFunc], [.nilFunc], [.nilFunc], [.nilFunc],
  [.slice none 0 0], [], [.nilFunc], [.nilFunc], [], [.nilFunc], [.nilFunc], [.nilFunc],
  [.int .u32 0], [.nilFunc], [.nilFunc], [], [.int .u8 0, .int .u8 0], [.int .u8 0, .int .u8 0], [.int .u8 0, .int .u8 0, .int .u8 0, .int .u8 0, .int .u8 0, .int .u8 0, .int .u8 0, .int .u8 0, .int .u8 0, .int .u8 0, .int .u8 0, .int .u8 0, .int .u8 0, .int .u8 0, .int .u8 0, .int .u8 0, .int .u8 0, .int .u8 0, .int .u8 0, .int .u8 0, .int .u8 0, .int .u8 0, .int .u8 0, .int .u8 0, .int .u8 0, .int .u8 0, .int .u8 0, .int .u8 0, .int .u8 0, .int .u8 0, .int .u8 0, .int .u8 0], [.nilFunc],
  [], [], [], [], [], [], [.nilFunc], [.map none],
  [.nilFunc], [.nilFunc], [.nilFunc], [], [.nilFunc], [], [.nilFunc], [.nilFunc],
  [.nilFunc], [.slice none 0 0], [], [.nilFunc], [.nilFunc], [.nilFunc], [.nilFunc], [.nilFunc],
  [], [.nilFunc], [.nilFunc], [], [.nilFunc], [.nilFunc], [.pointer none, .pointer none, .pointer none, .string ByteArray.empty], [.pointer none, .pointer none, .pointer none, .string ByteArray.empty],
  [], [], [], [.nilFunc], [.int .u8 0], [.int .u8 0], [.nilFunc], [.pointer none],
  [.int .i32 0], [.int .i32 0], [.int .u64 0, .int .u64 0, .int .u32 0, .int .u8 0, .int .u8 0, .int .u8 0, .int .u8 0, .nilFunc, .pointer none, .int .i32 0, .int .i32 0], [.int .u64 0, .int .u64 0, .int .u32 0, .int .u8 0, .int .u8 0, .int .u8 0, .int .u8 0, .nilFunc, .pointer none, .int .i32 0, .int .i32 0], [.pointer none]]
set_option maxRecDepth 100000 in
theorem hZ : ZOk Tryz.prog Z := ZOk.of (by kernel_rfl)
end Go.Proofs.YtjcolfogmmjaoaaGreatDoor
end

section
set_option linter.unusedVariables false
set_option linter.unusedSimpArgs false
namespace Go.Proofs.YtjcolfogmmjaoaaGreatDoor
open V A
def kU (n : Int) : Value := .int .u64 n
def kI (n : Int) : Value := .int .i64 n
theorem kI_ok : KeyOk Tryz.prog 3 kI := key_int (by kernel_rfl)
theorem aget_split {β : Type} : ∀ {l : List (Int × β)} {k : Int} {v : β}, aget l k = some v → ∃ a b, l = a ++ (k, v) :: b ∧ ∀ p ∈ a, p.1 ≠ k
  | [], k, v, h => by simp [aget] at h
  | (j, u) :: l, k, v, h => by
    unfold aget at h
    split at h
    · rename_i e
      subst e
      cases h
      exact ⟨[], l, rfl, by simp⟩
    · rename_i e
      obtain ⟨a, b, rfl, hn⟩ := aget_split h
      exact ⟨(j, u) :: a, b, rfl, fun p hp => by rcases List.mem_cons.1 hp with rfl | hp; exact e; exact hn p hp⟩
theorem aput_mid {β : Type} {k : Int} {u v : β} : ∀ {a b : List (Int × β)}, (∀ p ∈ a, p.1 ≠ k) → aput (a ++ (k, u) :: b) k v = a ++ (k, v) :: b
  | [], b, h => by simp [aput]
  | p :: a, b, h => by
    have h1 := h p (by simp)
    rw [List.cons_append, aput, if_neg h1, aput_mid fun q hq => h q (by simp [hq])]
    rfl
theorem aput_new {β : Type} {k : Int} {v : β} : ∀ {a : List (Int × β)}, aget a k = none → aput a k v = a ++ [(k, v)]
  | [], h => rfl
  | (j, u) :: a, h => by
    unfold aget at h
    split at h
    · cases h
    · rename_i e
      rw [aput, if_neg e, aput_new h]
      rfl
theorem aget_aput {β : Type} : ∀ {l : List (Int × β)} {k j : Int} {v : β}, aget (aput l k v) j = if k = j then some v else aget l j
  | [], k, j, v => by simp [aput, aget]
  | (i, u) :: l, k, j, v => by
    unfold aput
    by_cases h : i = k
    · subst h
      rw [if_pos rfl]
      by_cases hj : i = j
      · simp [aget, hj]
      · simp [aget, hj]
    · rw [if_neg h]
      by_cases hj : i = j
      · subst hj
        have : ¬ k = i := fun e => h e.symm
        simp [aget, this]
      · simp only [aget, hj, if_false]
        rw [aget_aput]
end Go.Proofs.YtjcolfogmmjaoaaGreatDoor
end

section
set_option linter.unusedVariables false
set_option linter.unusedSimpArgs false
namespace Go.Proofs.YtjcolfogmmjaoaaGreatDoor
open V A
def bA (b : Bool) : AV := .v (.bool b) 0
theorem w64 {x : Int} (h1 : -9223372036854775808 ≤ x) (h2 : x < 9223372036854775808) : IntKind.i64.wrap x = x := by
  unfold IntKind.wrap
  simp [IntKind.bits, IntKind.signed]
  omega
theorem wrapU {x : Int} (h1 : 0 ≤ x) (h2 : x < 18446744073709551616) : IntKind.u64.wrap x = x := by
  unfold IntKind.wrap
  simp [IntKind.bits, IntKind.signed]
  omega
end Go.Proofs.YtjcolfogmmjaoaaGreatDoor
end

section
set_option linter.unusedVariables false
set_option linter.unusedSimpArgs false
set_option maxRecDepth 100000
namespace Go.Proofs.YtjcolfogmmjaoaaGreatDoor.A
open V
def zav : Value → AV
  | .agg cs => .agg (avs cs.toList)
  | v => .v v 0
def zone : Value → Bool
  | .agg cs => ones cs.toList
  | _ => true
def ifcNot (t : TypeId) : AV → Bool
  | .ifc t' _ => !(Nat.beq t' t)
  | .d (.ifc t' _ _) => !(Nat.beq t' t)
  | .d (.v .nilIface) => true
  | .v .nilIface _ => true
  | _ => false
def concr : TD → Bool
  | .non => false
  | .ifc => false
  | _ => true
theorem zav_rep {M : Nat → Prop} {w : World} {v : Value} (h : zone v = true) : Rep M w (zav v) v := by
  cases v with
  | agg cs =>
    unfold zav Rep
    refine ⟨cs.toList, by simp, reps_vs _, ones_spec h⟩
  | _ => exact mk_v
theorem ifcNot_rep {M : Nat → Prop} {w : World} {t : TypeId} {a : AV} {x : Value} (h : ifcNot t a = true) (hr : Rep M w a x) : x = .nilIface ∨ ∃ t' u, x = .iface t' u ∧ t' ≠ t := by
  have hb : ∀ t' : TypeId, (!(Nat.beq t' t)) = true → t' ≠ t := fun t' h e => by
    subst e
    have : Nat.beq t' t' = true := Nat.beq_refl t'
    rw [this] at h
    cases h
  cases a with
  | ifc t' a =>
    unfold Rep at hr
    obtain ⟨u, rfl, _⟩ := hr
    exact .inr ⟨t', u, rfl, hb t' h⟩
  | d d =>
    unfold Rep at hr
    cases d with
    | ifc t' ag ds =>
      unfold DRep at hr
      obtain ⟨u, rfl, _⟩ := hr
      exact .inr ⟨t', u, rfl, hb t' h⟩
    | v y =>
      unfold DRep at hr
      obtain ⟨rfl, _⟩ := hr
      cases x <;> first | exact .inl rfl | cases h
    | _ => cases h
  | v y hh =>
    obtain rfl := rep_v hr
    cases x <;> first | exact .inl rfl | cases h
  | _ => cases h
theorem run_assertN {P : Program} {L : List TD} (hT : TOk P L) {t xt : TypeId} {x zv : Value} (ht : concr (tl L t) = true) (hx : x = .nilIface ∨ ∃ t' u, x = .iface t' u ∧ t' ≠ t) (hz : ((P.info? t).bind (·.zero)) = some zv) (w : World) :
    (Instr.typeAssert x xt t true).run P w = .ok (.tuple #[zv, .bool false]) w := by
  obtain ⟨d, hd, hne⟩ := noIfc hT (t := t) (fun e => by rw [e] at ht; cases ht) (fun e => by rw [e] at ht; cases ht)
  obtain ⟨i, hi, hiz⟩ := Option.bind_eq_some_iff.1 hz
  have hzr : (zeroValue t).run P w = .ok zv w := by simp [zeroValue, typeInfo, hi, hiz]
  unfold Instr.typeAssert
  simp only [Sem.run_bind, underlying, run_program, Result.andThen_ok, hd, Sem.run_pure]
  rcases hx with rfl | ⟨t', u, rfl, htt⟩
  · cases d <;> first | exact absurd rfl (hne _) | simp [hzr]
  · cases d <;> first | exact absurd rfl (hne _) | simp [hzr, htt]
section
variable {P : Program} {L : List TD} {n : Nat} {Q : Exit → Act → World → Prop} {c : Ctx}
variable {s : AMS} {f f' : AEnv} {σ σ' : Store} {κ : List Kt} {all : Array Oper} {dec : List Nat} {rest : List (Oper × Bool)} {m : Mode} {o : Oper} {al : Bool} {ob : Obs}
theorem a_assertN (hT : TOk P L) {x : Operand} {xt t : TypeId} (zv : Value) (h : machA L n fuel s f σ [] = ⟨.op m κ all dec o al rest, f', σ', ob⟩) (hob : ob.map (·.1) = ob.map (·.2)) (ho : o.op = .typeAssert x xt t true) (ht : concr (tl L t) = true)
    (hx : ifcNot t (evA n f' x) = true) (hz : ((P.info? t).bind (·.zero)) = some zv) (h1 : zone zv = true) (hk : DenA c P n Q (.ops m κ all dec rest) (putA f' o.dst (.tup [zav zv, .v (.bool false) 0])) σ') : DenA c P n Q s f σ := by
  refine a_pure hT (.tup [zav zv, .v (.bool false) 0]) h hob (fun M w fc he => ?_) hk
  have h2 := ifcNot_rep hx (he.eval (n := n) x)
  refine ⟨.tuple #[zv, .bool false], fun w' => ?_, ?_⟩
  · simp [execOp, ho, run_assertN hT ht h2 hz]
  · unfold Rep
    exact ⟨[zv, .bool false], rfl, Reps.cons (zav_rep h1) (Reps.cons mk_v Reps.nil)⟩
end
end Go.Proofs.YtjcolfogmmjaoaaGreatDoor.A
end

section
set_option linter.unusedVariables false
set_option linter.unusedSimpArgs false
set_option maxRecDepth 100000
namespace Go.Proofs.YtjcolfogmmjaoaaGreatDoor.A
open V
def iterS (it : Nat) (b : ByteArray) (pos : Nat) : Asrt where
  h M S w := (∀ b, S b ↔ b = it) ∧ w.heap[it]? = some (.stringIter b pos)
  ev := fun {M S w M' N w'} h he hN hm => by
    obtain ⟨h1, h2⟩ := h
    exact ⟨h1, by rw [he.block it (Array.getElem?_eq_some_iff.1 h2).1 (hN it ((h1 it).2 rfl))]; exact h2⟩
  lt := fun {M S w} h b hb => by
    obtain ⟨h1, h2⟩ := h
    rw [(h1 b).1 hb]
    exact (Array.getElem?_eq_some_iff.1 h2).1
section
variable {P : Program} {L : List TD} {n : Nat} {Q : Exit → Act → World → Prop} {c : Ctx}
variable {s : AMS} {f f' : AEnv} {σ σ' : Store} {κ : List Kt} {all : Array Oper} {dec : List Nat} {rest : List (Oper × Bool)} {m : Mode} {o : Oper} {al : Bool} {ob : Obs}
theorem a_rangeS (hT : TOk P L) (kn : Nat) {t : TypeId} {x : Operand} {b : ByteArray} {h0 : Nat} (h : machA L n fuel s f σ [] = ⟨.op m κ all dec o true rest, f', σ', ob⟩) (hob : ob.map (·.1) = ob.map (·.2)) (ho : o.op = .range t x) (ht : tl L t = .str)
    (hx : evN n f' x = .v (.string b) h0)
    (hk : ∀ it, DenA c P n Q (.ops (m.hap true) κ all dec rest) (putA f' o.dst (.v (.pointer (some ⟨it, 0, none⟩)) kn)) ((kn, .ext (iterS it b 0)) :: σ')) : DenA c P n Q s f σ := by
  refine a_eff hT (fun a σ1 => ∃ it, a = .v (.pointer (some ⟨it, 0, none⟩)) kn ∧ σ1 = (kn, .ext (iterS it b 0)) :: σ') h hob (fun Y Su w fc hd hY hh he => ?_) (fun a σ1 ⟨it, ha, hs⟩ => by subst ha; subst hs; exact hk it)
  have h1 := he.evalN (n := n) x
  rw [hx] at h1
  have hrun : (execOp (ev n fc) o).run P w = .ok (.value (.pointer (some ⟨w.heap.size, 0, none⟩))) (w.alloc (.stringIter b 0)) := by
    unfold execOp
    simp only [ho, Sem.run_bind, Sem.run_pure, rep_v h1, Instr.range, run_underlying (str_tl hT ht), Result.andThen_ok]
    simp
  rw [hrun]
  have hev : Ev no w (w.alloc (.stringIter b 0)) := Ev.alloc w _
  have hm : ∀ b, b < w.heap.size → no b ∨ or2 (or2 (at1 w.heap.size) Su) Y b → or2 Su Y b := fun b hb h => by
    rcases h with h | (h | h) | h
    · exact h.elim
    · simp only [at1] at h; omega
    · exact .inl h
    · exact .inr h
  refine ⟨_, _, or2 (at1 w.heap.size) Su, ⟨_, rfl, rfl⟩, mk_v, ⟨at1 w.heap.size, Su, fun b => Iff.rfl, fun b hb h => ?_, ⟨fun b => Iff.rfl, heap_alloc_new w _⟩, hh.ev hev hm fun _ _ h => h⟩, hev.no, fun b h => h.elim (fun h => .inr (by simp only [at1] at h; omega)) .inl⟩
  simp only [at1] at hb
  exact absurd (hh.lt b h) (by omega)
theorem a_nextS (hT : TOk P L) {x : Operand} {b : ByteArray} {pos it it' h0 : Nat} (h : machA L n fuel s f σ [] = ⟨.op m κ all dec o true rest, f', σ', ob⟩) (hob : ob.map (·.1) = ob.map (·.2)) (ho : o.op = .next x true)
    (hx : evA n f' x = .v (.pointer (some ⟨it, 0, none⟩)) h0) (hl : look σ' h0 = some (.ext (iterS it' b pos))) (hii : it = it')
    (hk1 : b.size ≤ pos → DenA c P n Q (.ops (m.hap true) κ all dec rest) (putA f' o.dst (.tup [.v (.bool false) 0])) σ')
    (hk2 : pos < b.size → DenA c P n Q (.ops (m.hap true) κ all dec rest) (putA f' o.dst (.tup [.v (.bool true) 0, .v (.int .i64 (pos : Int)) 0, .v (.int .i32 ((Utf8.decode b pos).1 : Int)) 0])) ((h0, .ext (iterS it' b (pos + (Utf8.decode b pos).2))) :: del σ' h0)) : DenA c P n Q s f σ := by
  subst hii
  refine a_eff hT (fun a σ1 => (b.size ≤ pos ∧ a = .tup [.v (.bool false) 0] ∧ σ1 = σ') ∨ (pos < b.size ∧ a = .tup [.v (.bool true) 0, .v (.int .i64 (pos : Int)) 0, .v (.int .i32 ((Utf8.decode b pos).1 : Int)) 0] ∧ σ1 = (h0, .ext (iterS it b (pos + (Utf8.decode b pos).2))) :: del σ' h0)) h hob (fun Y Su w fc hd hY hh he => ?_) (fun a σ1 hR => ?_)
  rotate_left
  · rcases hR with ⟨hq, rfl, rfl⟩ | ⟨hq, rfl, rfl⟩
    · exact hk1 hq
    · exact hk2 hq
  obtain ⟨S1, S2, hS, hdis, hc, hrest⟩ := hh.take hl
  obtain ⟨hS1, h1⟩ := hc
  have hv := he.eval (n := n) x
  rw [hx] at hv
  by_cases hp : pos < b.size
  · have hset : (setObj it (.stringIter b (pos + (Utf8.decode b pos).2))).run P w = .ok () (setB w it (.stringIter b (pos + (Utf8.decode b pos).2))) := run_set h1 (by simp) _
    have hrun : (execOp (ev n fc) o).run P w = .ok (.value (.tuple #[.bool true, .int .i64 (pos : Int), .int .i32 ((Utf8.decode b pos).1 : Int)])) (setB w it (.stringIter b (pos + (Utf8.decode b pos).2))) := by
      unfold execOp
      simp only [ho, Sem.run_bind, Sem.run_pure, rep_v hv, Instr.next, Result.andThen_ok, run_get h1 (by simp), if_pos hp, hset]
      rfl
    rw [hrun]
    have hitlt := (Array.getElem?_eq_some_iff.1 h1).1
    have hev2 : Ev (at1 it) w (setB w it (.stringIter b (pos + (Utf8.decode b pos).2))) := Ev.setB w it _
    have hm1 : ∀ b, b < w.heap.size → at1 it b ∨ or2 Su Y b → or2 Su Y b := fun b _ h => h.elim (fun h => .inl ((hS b).2 (.inl ((hS1 b).2 h)))) id
    refine ⟨_, _, Su, .inr ⟨hp, rfl, rfl⟩, ?_, ⟨S1, S2, hS, hdis, ⟨hS1, setB_at hitlt _⟩, hrest.ev hev2 hm1 fun b hb h => hdis b ((hS1 b).2 h) hb⟩, ?_, fun b hb => .inl hb⟩
    · unfold Rep
      exact ⟨[.bool true, .int .i64 (pos : Int), .int .i32 ((Utf8.decode b pos).1 : Int)], rfl, Reps.cons mk_v (Reps.cons mk_v (Reps.cons mk_v Reps.nil))⟩
    · exact (Ev.refl _ _).then hev2 fun b hb h => (hS b).2 (.inl ((hS1 b).2 h))
  · have hrun : (execOp (ev n fc) o).run P w = .ok (.value (.tuple #[.bool false])) w := by
      unfold execOp
      simp only [ho, Sem.run_bind, Sem.run_pure, rep_v hv, Instr.next, Result.andThen_ok, run_get h1 (by simp), if_neg hp]
    rw [hrun]
    refine ⟨_, _, Su, .inl ⟨by omega, rfl, rfl⟩, ?_, hh, Ev.refl _ _, fun b hb => .inl hb⟩
    unfold Rep
    exact ⟨[.bool false], rfl, Reps.cons mk_v Reps.nil⟩
end
end Go.Proofs.YtjcolfogmmjaoaaGreatDoor.A
end
