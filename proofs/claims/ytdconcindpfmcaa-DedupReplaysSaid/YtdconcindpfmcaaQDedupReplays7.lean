import Derived.Test.YtdconcindpfmcaaProg
import Derived.Test.YtdconcindpfmcaaQDedupReplays0
import Derived.Test.YtdconcindpfmcaaQDedupReplays4
import Derived.Test.YtdconcindpfmcaaQDedupReplays5
import Derived.Test.YtdconcindpfmcaaQDedupReplays6
section
/- What the machine knows of the types, and that it is so. -/
namespace Go.Proofs.Ytdconcindpfmcaa
open V
def T : List TD := [
  .non, .fn, .int .i64, .int .i64, .bool, .int .u8, .int .u8, .agg 4 [(0, 1, false), (1, 1, false), (2, 1, false), (3, 1, false)],
  .agg 4 [(0, 1, false), (1, 1, false), (2, 1, false), (3, 1, false)], .str, .str, .str, .int .u64, .agg 2 [(0, 1, false), (1, 1, false)], .agg 2 [(0, 1, false), (1, 1, false)], .ptr,
  .ptr, .ptr, .agg 1 [(0, 1, false)], .agg 1 [(0, 1, false)], .ifc, .int .i32, .fn, .fn,
  .fn, .fn, .fn, .sl 31 1, .fn, .ptr, .fn, .sl 5 1,
  .int .i64, .non, .fn, .agg 4 [(0, 1, false), (1, 1, false), (2, 1, false), (3, 1, false)], .agg 4 [(0, 1, false), (1, 1, false), (2, 1, false), (3, 1, false)], .non, .fn, .fn,
  .fn, .fn, .fn, .int .u64, .ptr, .fn, .agg 3 [(0, 1, false), (1, 1, false), (2, 1, false)], .agg 3 [(0, 1, false), (1, 1, false), (2, 1, false)],
  .fn, .fn, .fn, .int .u64, .fn, .sl 36 4, .fn, .fn,
  .sl 61 6, .fn, .sl 3 1, .sl 43 1, .agg 6 [(0, 1, false), (1, 1, false), (2, 1, false), (3, 1, false), (4, 1, false), (5, 1, false)], .agg 6 [(0, 1, false), (1, 1, false), (2, 1, false), (3, 1, false), (4, 1, false), (5, 1, false)], .fn, .fn,
  .sl 2 1, .ptr, .fn, .fn, .non, .fn, .non, .fn,
  .fn, .sl 84 3, .ptr, .sl 88 2, .agg 1 [(0, 1, false)], .agg 1 [(0, 1, false)], .sl 124 1, .sl 124 1,
  .map, .agg 2 [(0, 1, false), (1, 1, false)], .agg 2 [(0, 1, false), (1, 1, false)], .agg 3 [(0, 1, false), (1, 1, false), (2, 1, false)], .agg 3 [(0, 1, false), (1, 1, false), (2, 1, false)], .fn, .fn, .agg 2 [(0, 1, false), (1, 1, false)],
  .agg 2 [(0, 1, false), (1, 1, false)], .fn, .fn, .sl 101 5, .fn, .ptr, .sl 133 4, .agg 2 [(0, 1, false), (1, 1, false)],
  .agg 2 [(0, 1, false), (1, 1, false)], .agg 2 [(0, 1, false), (1, 1, false)], .agg 2 [(0, 1, false), (1, 1, false)], .fn, .agg 5 [(0, 1, false), (1, 1, false), (2, 1, false), (3, 1, false), (4, 1, false)], .agg 5 [(0, 1, false), (1, 1, false), (2, 1, false), (3, 1, false), (4, 1, false)], .fn, .fn,
  .fn, .fn, .fn, .fn, .fn, .fn, .fn, .fn,
  .map, .agg 1 [(0, 1, false)], .agg 1 [(0, 1, false)], .fn, .agg 3 [(0, 1, false), (1, 1, false), (2, 1, false)], .agg 3 [(0, 1, false), (1, 1, false), (2, 1, false)], .ptr, .map,
  .agg 2 [(0, 1, false), (1, 1, false)], .agg 2 [(0, 1, false), (1, 1, false)], .non, .fn, .ptr, .non, .agg 3 [(0, 1, false), (1, 1, false), (2, 1, false)], .agg 3 [(0, 1, false), (1, 1, false), (2, 1, false)],
  .fn, .ptr, .fn, .fn, .fn, .agg 4 [(0, 1, false), (1, 1, false), (2, 1, false), (3, 1, false)], .non, .fn,
  .fn, .fn, .fn, .fn, .fn, .non, .fn, .fn,
  .ifc, .ifc, .fn, .fn, .fn, .fn, .fn, .fn,
  .fn, .fn, .fn, .fn, .fn, .fn, .int .i64, .non,
  .fn, .fn, .fn, .fn, .non, .fn, .fn, .int .u32,
  .fn, .int .u64, .fn, .fn, .fn, .ptr, .fn, .ptr,
  .non, .fn, .fn, .agg 4 [(0, 1, false), (1, 1, false), (2, 1, false), (3, 1, false)], .agg 4 [(0, 1, false), (1, 1, false), (2, 1, false), (3, 1, false)], .arr 0 16 1, .non, .non,
  .int .u8, .int .u8, .fn, .ptr, .int .i32, .int .i32, .agg 11 [(0, 1, false), (1, 1, false), (2, 1, false), (3, 1, false), (4, 1, false), (5, 1, false), (6, 1, false), (7, 1, false), (8, 1, false), (9, 1, false), (10, 1, false)], .agg 11 [(0, 1, false), (1, 1, false), (2, 1, false), (3, 1, false), (4, 1, false), (5, 1, false), (6, 1, false), (7, 1, false), (8, 1, false), (9, 1, false), (10, 1, false)],
  .non]
set_option maxRecDepth 100000 in
theorem hT : TOk Try.prog T := TOk.of (by kernel_rfl)
end Go.Proofs.Ytdconcindpfmcaa
end

section
/- The zero values of a seat's types, and that they are so. -/
namespace Go.Proofs.Ytdconcindpfmcaa
open V A
def Z : List (List Value) := [
  [], [.nilFunc], [.int .i64 0], [.int .i64 0], [.bool false], [.int .u8 0], [.int .u8 0], [.int .i64 0, .int .i64 0, .bool false, .int .u8 0],
  [.int .i64 0, .int .i64 0, .bool false, .int .u8 0], [.string ByteArray.empty], [.string ByteArray.empty], [.string ByteArray.empty], [.int .u64 0], [.string ByteArray.empty, .int .u64 0], [.string ByteArray.empty, .int .u64 0], [.pointer none],
  [.pointer none], [.pointer none], [.pointer none], [.pointer none], [.nilIface], [.int .i32 0], [.nilFunc], [.nilFunc],
  [.nilFunc], [.nilFunc], [.nilFunc], [.slice none 0 0], [.nilFunc], [.pointer none], [.nilFunc], [.slice none 0 0],
  [.int .i64 0], [], [.nilFunc], [.int .i64 0, .int .i64 0, .int .i64 0, .slice none 0 0], [.int .i64 0, .int .i64 0, .int .i64 0, .slice none 0 0], [], [.nilFunc], [.nilFunc],
  [.nilFunc], [.nilFunc], [.nilFunc], [.int .u64 0], [.pointer none], [.nilFunc], [.int .i64 0, .int .i64 0, .slice none 0 0], [.int .i64 0, .int .i64 0, .slice none 0 0],
  [.nilFunc], [.nilFunc], [.nilFunc], [.int .u64 0], [.nilFunc], [.slice none 0 0], [.nilFunc], [.nilFunc],
  [.slice none 0 0], [.nilFunc], [.slice none 0 0], [.slice none 0 0], [.int .i64 0, .int .i64 0, .int .i64 0, .int .u64 0, .int .u64 0, .slice none 0 0], [.int .i64 0, .int .i64 0, .int .i64 0, .int .u64 0, .int .u64 0, .slice none 0 0], [.nilFunc], [.nilFunc],
  [.slice none 0 0], [.pointer none], [.nilFunc], [.nilFunc], [], [.nilFunc], [], [.nilFunc],
  [.nilFunc], [.slice none 0 0], [.pointer none], [.slice none 0 0], [.slice none 0 0], [.slice none 0 0], [.slice none 0 0], [.slice none 0 0],
  [.map none], [.slice none 0 0, .map none], [.slice none 0 0, .map none], [.int .i64 0, .int .u64 0, .int .i64 0], [.int .i64 0, .int .u64 0, .int .i64 0], [.nilFunc], [.nilFunc], [.int .u64 0, .int .i64 0],
  [.int .u64 0, .int .i64 0], [.nilFunc], [.nilFunc], [.slice none 0 0], [.nilFunc], [.pointer none], [.slice none 0 0], [.slice none 0 0, .int .i64 0],
  [.slice none 0 0, .int .i64 0], [.slice none 0 0, .int .i64 0], [.slice none 0 0, .int .i64 0], [.nilFunc], [.int .i64 0, .int .i64 0, .int .i64 0, .int .u8 0, .slice none 0 0], [.int .i64 0, .int .i64 0, .int .i64 0, .int .u8 0, .slice none 0 0], [.nilFunc], [.nilFunc],
  [.nilFunc], [.nilFunc], [.nilFunc], [.nilFunc], [.nilFunc], [.nilFunc], [.nilFunc], [.nilFunc],
  [.map none], [.map none], [.map none], [.nilFunc], [.bool false, .int .i64 0, .slice none 0 0], [.bool false, .int .i64 0, .slice none 0 0], [.pointer none], [.map none],
  [.int .u64 0, .map none], [.int .u64 0, .map none], [], [.nilFunc], [.pointer none], [], [.int .u64 0, .int .i64 0, .int .i64 0], [.int .u64 0, .int .i64 0, .int .i64 0],
  [.nilFunc], [.pointer none], [.nilFunc], [.nilFunc], [.nilFunc], [.int .i64 0, .int .i64 0, .int .i64 0, .slice none 0 0], [], [.nilFunc],
  [.nilFunc], [.nilFunc], [.nilFunc], [.nilFunc], [.nilFunc], [], [.nilFunc], [.nilFunc],
  [.nilIface], [.nilIface], [.nilFunc], [.nilFunc], [.nilFunc], [.nilFunc], [.nilFunc], [.nilFunc],
  [.nilFunc], [.nilFunc], [.nilFunc], [.nilFunc], [.nilFunc], [.nilFunc], [.int .i64 0], [],
  [.nilFunc], [.nilFunc], [.nilFunc], [.nilFunc], [], [.nilFunc], [.nilFunc], [.int .u32 0],
  [.nilFunc], [.int .u64 0], [.nilFunc], [.nilFunc], [.nilFunc], [.pointer none], [.nilFunc], [.pointer none],
  [], [.nilFunc], [.nilFunc], [.pointer none, .pointer none, .pointer none, .string ByteArray.empty], [.pointer none, .pointer none, .pointer none, .string ByteArray.empty], [], [], [],
  [.int .u8 0], [.int .u8 0], [.nilFunc], [.pointer none], [.int .i32 0], [.int .i32 0], [.int .u64 0, .int .u64 0, .int .u32 0, .int .u8 0, .int .u8 0, .int .u8 0, .int .u8 0, .nilFunc, .pointer none, .int .i32 0, .int .i32 0], [.int .u64 0, .int .u64 0, .int .u32 0, .int .u8 0, .int .u8 0, .int .u8 0, .int .u8 0, .nilFunc, .pointer none, .int .i32 0, .int .i32 0],
  [.pointer none]]
set_option maxRecDepth 100000 in
theorem hZ : ZOk Try.prog Z := ZOk.of (by kernel_rfl)
end Go.Proofs.Ytdconcindpfmcaa
end

section
/- slices.Clone of bytes. -/
set_option linter.unusedVariables false
set_option linter.unusedSimpArgs false
namespace Go.Proofs.Ytdconcindpfmcaa
open V A
theorem el8 : elemOk Try.prog 5 1 = true := by kernel_rfl
/-- A copy of bytes is memory of its own. -/
theorem cloneB {l : List UInt8} (hl : l.length ≤ lim) : FSpec Try.prog 63 [.d (A.bytesD l)] [] fun a cs => ∃ x, a = .row x 1 ∧ cs = [.row x 5 1 (l.map eB)] := by
  refine a_enter hT [.d (A.bytesD l)] [] Try.func63 rfl rfl rfl ⟨rfl, trivial⟩ fun c => ?_
  refine a_isnil hT rfl rfl rfl rfl rfl rfl fun b hb => ?_
  refine a_if hT rfl rfl (fun h => ?_) (fun h => ?_)
  · refine a_run hT 4 rfl rfl ?_
    refine a_nilrow 2 1 5 1 rfl rfl ?_
    refine a_ret hT [1] rfl rfl rfl rfl rfl rfl ⟨_, rfl, ?_⟩
    rw [hb h]
  · refine a_lit hT 1 rfl rfl rfl rfl el8 rfl rfl rfl rfl fun x => ?_
    refine a_app hT 1 (l.map eB) rfl rfl rfl rfl el8 rfl rfl rfl rfl rfl rfl (by simpa using hl) fun x => ?_
    refine a_ret hT [1] rfl rfl rfl rfl rfl rfl ⟨x, rfl, rfl⟩
/-- .. frozen. -/
theorem cloneF {l : List UInt8} (hl : l.length ≤ lim) : FSpec Try.prog 63 [.d (A.bytesD l)] [] fun a cs => a = .d (A.bytesD l) ∧ cs = [] := (cloneB hl).freeze
end Go.Proofs.Ytdconcindpfmcaa
end

section
/- Lists by keys, plain; keys that are numbers. -/
set_option linter.unusedVariables false
set_option linter.unusedSimpArgs false
namespace Go.Proofs.Ytdconcindpfmcaa
open V A
def kU (n : Int) : Value := .int .u64 n
def kI (n : Int) : Value := .int .i64 n
theorem kU_ok : KeyOk Try.prog 43 kU := key_int (by kernel_rfl)
theorem kI_ok : KeyOk Try.prog 3 kI := key_int (by kernel_rfl)
def ptrA (g h : Nat) : AV := .v (.pointer (some ⟨g, 0, none⟩)) h

theorem filter_erase {α : Type} {p : α → Bool} : ∀ {l : List α} {i : Nat} {x : α}, l[i]? = some x → p x = false → (l.eraseIdx i).filter p = l.filter p
  | [], i, x, h, hp => by simp at h
  | y :: l, 0, x, h, hp => by simp at h; subst h; simp [hp]
  | y :: l, i + 1, x, h, hp => by
    have := filter_erase (l := l) (i := i) (by simpa using h) hp
    simp only [List.eraseIdx_cons_succ, List.filter_cons, this]
theorem map_set_same {α β : Type} (g : α → β) {l : List α} {i : Nat} {x y : α} (h : l[i]? = some x) (e : g y = g x) : (l.set i y).map g = l.map g := by
  rw [List.map_set, e]
  apply List.ext_getElem?
  intro j
  rw [List.getElem?_set]
  split
  · rename_i hij; subst hij; have := (List.getElem?_eq_some_iff.1 h).1; rw [List.length_map, if_pos this, List.getElem?_map, h]; rfl
  · rfl
theorem aget_split {β : Type} : ∀ {l : List (Int × β)} {k : Int} {v : β}, aget l k = some v → ∃ a b, l = a ++ (k, v) :: b ∧ ∀ p ∈ a, p.1 ≠ k
  | [], k, v, h => by simp [aget] at h
  | (j, u) :: l, k, v, h => by
    unfold aget at h
    split at h
    · rename_i e
      subst e
      cases h
      exact ⟨[], l, rfl, by simp⟩
    · rename_i e
      obtain ⟨a, b, rfl, hn⟩ := aget_split h
      exact ⟨(j, u) :: a, b, rfl, fun p hp => by rcases List.mem_cons.1 hp with rfl | hp; exact e; exact hn p hp⟩
theorem aput_mid {β : Type} {k : Int} {u v : β} : ∀ {a b : List (Int × β)}, (∀ p ∈ a, p.1 ≠ k) → aput (a ++ (k, u) :: b) k v = a ++ (k, v) :: b
  | [], b, h => by simp [aput]
  | p :: a, b, h => by
    have h1 := h p (by simp)
    rw [List.cons_append, aput, if_neg h1, aput_mid fun q hq => h q (by simp [hq])]
    rfl
theorem aput_new {β : Type} {k : Int} {v : β} : ∀ {a : List (Int × β)}, aget a k = none → aput a k v = a ++ [(k, v)]
  | [], h => rfl
  | (j, u) :: a, h => by
    unfold aget at h
    split at h
    · cases h
    · rename_i e
      rw [aput, if_neg e, aput_new h]
      rfl
theorem aget_mem {β : Type} {l : List (Int × β)} {k : Int} {v : β} (h : aget l k = some v) : (k, v) ∈ l := by
  obtain ⟨a, b, rfl, _⟩ := aget_split h
  simp
theorem aget_nomem {β : Type} : ∀ {l : List (Int × β)} {k : Int}, aget l k = none → k ∉ l.map (·.1)
  | [], k, h => by simp
  | (j, u) :: l, k, h => by
    unfold aget at h
    split at h
    · cases h
    · rename_i e
      rw [List.map_cons, List.mem_cons, not_or]
      exact ⟨fun h => e h.symm, aget_nomem h⟩
theorem mem_aput {β : Type} : ∀ {l : List (Int × β)} {k : Int} {v : β} {p : Int × β}, p ∈ aput l k v → p = (k, v) ∨ p ∈ l
  | [], k, v, p, h => by simp [aput] at h; exact .inl h
  | (j, u) :: l, k, v, p, h => by
    unfold aput at h
    split at h
    · rename_i e
      subst e
      rcases List.mem_cons.1 h with h | h
      · exact .inl h
      · exact .inr (List.mem_cons_of_mem _ h)
    · rcases List.mem_cons.1 h with h | h
      · exact .inr (by rw [h]; simp)
      · exact (mem_aput h).imp id (List.mem_cons_of_mem _)
theorem nodup_aput {β : Type} {l : List (Int × β)} {k : Int} {v : β} (h : (l.map (·.1)).Nodup) : ((aput l k v).map (·.1)).Nodup := by
  cases hg : aget l k with
  | some u =>
    obtain ⟨a, b, rfl, hn⟩ := aget_split hg
    rw [aput_mid hn]
    simpa using h
  | none =>
    rw [aput_new hg, List.map_append, List.nodup_append]
    refine ⟨h, by simp, fun x hx y hy => ?_⟩
    simp at hy
    subst hy
    exact fun e => aget_nomem hg (e ▸ hx)
theorem aput_len_new {β : Type} {l : List (Int × β)} {k : Int} {v : β} (h : aget l k = none) : (aput l k v).length = l.length + 1 := by rw [aput_new h]; simp
theorem aget_aput {β : Type} : ∀ {l : List (Int × β)} {k j : Int} {v : β}, aget (aput l k v) j = if k = j then some v else aget l j
  | [], k, j, v => by simp [aput, aget]
  | (i, u) :: l, k, j, v => by
    unfold aput
    by_cases h : i = k
    · subst h
      rw [if_pos rfl]
      by_cases hj : i = j
      · simp [aget, hj]
      · simp [aget, hj]
    · rw [if_neg h]
      by_cases hj : i = j
      · subst hj
        have : ¬ k = i := fun e => h e.symm
        simp [aget, this]
      · simp only [aget, hj, if_false]
        rw [aget_aput]
theorem aget_filter {β : Type} {p : Int × β → Bool} : ∀ {l : List (Int × β)} {t : Int} {e : β}, aget l t = some e → p (t, e) = true → aget (l.filter p) t = some e
  | [], t, e, h, hp => by simp [aget] at h
  | (i, u) :: l, t, e, h, hp => by
    unfold aget at h
    split at h
    · rename_i hi
      subst hi
      cases h
      rw [List.filter_cons, if_pos hp, aget, if_pos rfl]
    · rename_i hi
      rw [List.filter_cons]
      split
      · rw [aget, if_neg hi]; exact aget_filter h hp
      · exact aget_filter h hp
theorem aput_len_same {β : Type} {l : List (Int × β)} {k : Int} {u v : β} (h : aget l k = some u) : (aput l k v).length = l.length := by
  obtain ⟨a, b, rfl, hn⟩ := aget_split h
  rw [aput_mid hn]
  simp

end Go.Proofs.Ytdconcindpfmcaa
end

section
/- Layer 19's table: what it is, as plain data; and what its functions do. -/
set_option linter.unusedVariables false
set_option linter.unusedSimpArgs false
namespace Go.Proofs.Ytdconcindpfmcaa
open V A

/-! ### Plain -/
structure DE where
  done : Bool
  status : Int
  bytes : List UInt8
structure PC where
  floor : Int
  ents : List (Int × DE)
abbrev PT := List (Int × PC)
def keepE (floor : Int) (p : Int × DE) : Bool := !(p.2.done && decide (p.1 < floor))
def PC.sweep (c : PC) : PC := ⟨c.floor, c.ents.filter (keepE c.floor)⟩
def lenT (t : PT) : Nat := (t.map fun p => p.2.ents.length).sum

/-! ### In memory -/
def entAV (e : DE) : AV := .agg [.v (.bool e.done) 0, .v (.int .i64 e.status) 0, .d (A.bytesD e.bytes)]
theorem mtE : mapT Try.prog 119 43 117 = true := by kernel_rfl
theorem mtC : mapT Try.prog 112 3 118 = true := by kernel_rfl
theorem zeroE : (Try.prog.info? 117).map (·.zero) = some (some (.agg #[.bool false, .int .i64 0, .slice none 0 0])) := by kernel_rfl
theorem zeroC : (Try.prog.info? 118).map (·.zero) = some (some (.pointer none)) := by kernel_rfl

/-! ### sweep -/
theorem sweep1 {gx gb r : Nat} {h h1 h2 : Nat} {tok floor : Int} {e : DE} : FSpec Try.prog 79 [.v (kU tok) h1, entAV e, .v (.pointer (some ⟨gx, 0, none⟩)) h2]
    [.blk gx 118 [ptrA gb 12], .blk gb 121 [.v (kU floor) 0, .v (.map (some r)) h]]
    fun a cs => a = .v (.bool (e.done && decide (tok < floor))) 0 ∧ cs = [.blk gx 118 [ptrA gb 12], .blk gb 121 [.v (kU floor) 0, .v (.map (some r)) h]] := by
  refine a_enter hT [.v (kU tok) 0, entAV e, .v (.pointer (some ⟨gx, 0, none⟩)) 20] [20, 12] Try.func79 rfl rfl rfl ⟨rfl, ⟨rfl, rfl, rfl, trivial⟩, rfl, trivial⟩ fun c => ?_
  refine a_box hT 21 rfl rfl rfl rfl fun g => ?_
  refine a_g hT rfl rfl rfl (fun hd => ?_) (fun hd => ?_)
  · refine a_ret hT [20, 12] rfl rfl rfl rfl rfl rfl ⟨?_, rfl⟩
    rw [hd]; rfl
  · refine a_ret hT [20, 12] rfl rfl rfl rfl rfl rfl ⟨?_, rfl⟩
    rw [hd]; rfl

theorem nodup_idel {l : List (Bool × (Int × DE))} (hn : (l.map (·.2.1)).Nodup) {i : Nat} {q : Bool × (Int × DE)} (hq : l[i]? = some q) : idel l q.2.1 = l.eraseIdx i := by
  induction l generalizing i with
  | nil => simp at hq
  | cons y l ih =>
    cases i with
    | zero => simp at hq; subst hq; simp [idel]
    | succ i =>
      rw [List.map_cons, List.nodup_cons] at hn
      have hq' : l[i]? = some q := by simpa using hq
      have hne : y.2.1 ≠ q.2.1 := fun e => hn.1 (by rw [e]; exact List.mem_map.2 ⟨q, List.mem_of_getElem? hq', rfl⟩)
      simp only [idel, hne, if_false, List.eraseIdx_cons_succ]
      rw [ih hn.2 hq']
def clBlk (gb r : Nat) (floor : Int) (h : Nat) : Chunk := .blk gb 121 [.v (kU floor) 0, .v (.map (some r)) h]
set_option maxRecDepth 100000 in
theorem deleteFunc {gx gb r h1 h2 h3 : Nat} {floor : Int} {ents : List (Int × DE)} (hn : (ents.map (·.1)).Nodup) : FSpec Try.prog 78 [.v (.map (some r)) h1, .fn 79 [.v (.pointer (some ⟨gx, 0, none⟩)) h2]]
    [.map r (mapG kU entAV ents), .blk gx 118 [ptrA gb 12], clBlk gb r floor h3]
    fun a cs => cs = [.map r (mapG kU entAV (ents.filter (keepE floor))), .blk gx 118 [ptrA gb 12], clBlk gb r floor h3] := by
  refine a_enter hT [.v (.map (some r)) 10, .fn 79 [.v (.pointer (some ⟨gx, 0, none⟩)) 20]] [10, 20, 12] Try.func78 rfl rfl rfl ⟨rfl, ⟨rfl, rfl, trivial⟩, trivial⟩ fun c => ?_
  refine a_rangeG hT (kv := kU) (va := entAV) ents rfl rfl rfl mtE rfl rfl rfl rfl fun it => ?_
  refine a_loop hT [0, 1, 7] (fun _ : List (Bool × (Int × DE)) × Option (Value × AV) => [.v (.map (some r)) 10, .fn 79 [.v (.pointer (some ⟨gx, 0, none⟩)) 20], .v (.pointer (some ⟨it, 0, none⟩)) 10])
    (fun x => [(10, .ext (iterA r it (iterG kU entAV x.1) x.2)), (20, .blk gx 118 [ptrA gb 12]), (12, clBlk gb r floor h3)])
    (fun x => (x.1.map (·.2)).filter (keepE floor) = ents.filter (keepE floor) ∧ (∀ q ∈ x.1, q.1 = true → keepE floor q.2 = true) ∧ (x.1.map (·.2.1)).Nodup) (fun x => left x.1) (ents.map fun p => (false, p), none) [10, 20, 12] rfl rfl
    ⟨by simp [List.map_map, Function.comp_def], by simp, by simpa [List.map_map, Function.comp_def] using hn⟩ ⟨rfl, ⟨rfl, rfl, trivial⟩, rfl, trivial⟩ rfl ⟨rfl, ⟨rfl, rfl, rfl, trivial⟩, ⟨rfl, rfl, rfl, rfl, trivial⟩, trivial⟩ ?_
  rintro ⟨l, cur⟩ ⟨h1, h2, h3⟩
  refine a_inextG hT (kv := kU) (va := entAV) l rfl rfl rfl rfl rfl rfl rfl (fun hq => ?_) (fun i k e hi => ?_)
  · refine a_f hT rfl rfl rfl ?_
    refine a_iendG 10 (kv := kU) (va := entAV) l rfl rfl rfl ?_
    refine a_end hT [10, 20, 12] rfl rfl rfl rfl rfl rfl ?_
    have : l.map (·.2) = ents.filter (keepE floor) := by
      rw [← h1, List.filter_eq_self.2]
      intro p hp
      obtain ⟨q, hq', rfl⟩ := List.mem_map.1 hp
      exact h2 q hq' (hq q hq')
    rw [this]
  · refine a_t hT rfl rfl rfl ?_
    refine a_ientry hT rfl rfl rfl rfl rfl rfl ?_
    refine a_new hT hZ 21 rfl rfl rfl rfl fun g => ?_
    refine a_callv hT rfl rfl rfl rfl (by kernel_rfl) sweep1 [20, 12] [20, 12] rfl rfl ?_
    rintro _ _ ⟨rfl, rfl⟩
    have hset := (List.getElem?_eq_some_iff.1 hi).1
    have hi1 : (l.set i (true, (k, e)))[i]? = some (true, (k, e)) := by simp [hset]
    have e2 : (l.set i (true, (k, e))).map (·.2) = l.map (·.2) := map_set_same _ hi rfl
    have e3 : (l.set i (true, (k, e))).map (·.2.1) = l.map (·.2.1) := map_set_same _ hi rfl
    refine a_if hT rfl rfl (fun hd => ?_) (fun hd => ?_)
    · refine a_idelG hT (kv := kU) (va := entAV) (l.set i (true, (k, e))) k rfl rfl rfl rfl mtE kU_ok rfl rfl rfl rfl rfl ?_
      have hdel := nodup_idel (by rw [e3]; exact h3) hi1
      have hkeep : keepE floor (k, e) = false := by unfold keepE; rw [hd]; rfl
      refine a_next hT (idel (l.set i (true, (k, e))) k, none) [10, 20, 12] rfl rfl ⟨⟨?_, ?_, ?_⟩, ?_⟩ ⟨rfl, ⟨rfl, rfl, trivial⟩, rfl, trivial⟩ rfl ⟨rfl, ⟨rfl, rfl, rfl, trivial⟩, ⟨rfl, rfl, rfl, rfl, trivial⟩, trivial⟩
      · show ((idel (l.set i (true, (k, e))) k).map (·.2)).filter (keepE floor) = _
        rw [hdel, map_erase, filter_erase (x := (k, e)) (by rw [List.getElem?_map, hi1]; rfl) hkeep, e2, h1]
      · intro q hq hq1
        rw [hdel] at hq
        obtain ⟨j, hj, hje⟩ := List.mem_eraseIdx_iff_getElem?.1 hq
        rw [List.getElem?_set_ne (Ne.symm hj)] at hje
        exact h2 q (List.mem_of_getElem? hje) hq1
      · show ((idel (l.set i (true, (k, e))) k).map (·.2.1)).Nodup
        rw [hdel, map_erase, e3]
        exact h3.sublist (List.eraseIdx_sublist _ _)
      · show left (idel (l.set i (true, (k, e))) k) < left l
        rw [hdel]
        have := left_set hi (k, e)
        have := left_sub (List.eraseIdx_sublist (l.set i (true, (k, e))) i)
        omega
    · have hkeep : keepE floor (k, e) = true := by unfold keepE; rw [hd]; rfl
      refine a_next hT (l.set i (true, (k, e)), some (kU k, entAV e)) [10, 20, 12] rfl rfl ⟨⟨?_, ?_, ?_⟩, ?_⟩ ⟨rfl, ⟨rfl, rfl, trivial⟩, rfl, trivial⟩ rfl ⟨rfl, ⟨rfl, rfl, rfl, trivial⟩, ⟨rfl, rfl, rfl, rfl, trivial⟩, trivial⟩
      · show ((l.set i (true, (k, e))).map (·.2)).filter (keepE floor) = _
        rw [e2, h1]
      · intro q hq hq1
        rcases List.mem_or_eq_of_mem_set hq with hq | rfl
        · exact h2 q hq hq1
        · exact hkeep
      · show ((l.set i (true, (k, e))).map (·.2.1)).Nodup
        rw [e3]; exact h3
      · show left (l.set i (true, (k, e))) < left l
        have := left_set hi (k, e)
        omega
/-- sweep drops what is done below the floor. -/
theorem sweep_spec {gb r h1 h3 : Nat} {floor : Int} {ents : List (Int × DE)} (hn : (ents.map (·.1)).Nodup) : FSpec Try.prog 64 [.v (.pointer (some ⟨gb, 0, none⟩)) h1]
    [clBlk gb r floor h3, .map r (mapG kU entAV ents)] fun a cs => cs = [clBlk gb r floor h3, .map r (mapG kU entAV (ents.filter (keepE floor)))] := by
  refine FSpec.fit (args' := [ptrA gb 12]) (cs' := [clBlk gb r floor 10, .map r (mapG kU entAV ents)]) ?_ ⟨rfl, trivial⟩ ⟨⟨rfl, rfl, rfl, rfl, trivial⟩, ⟨rfl, rfl⟩, trivial⟩
  refine a_enter hT [ptrA gb 12] [12, 10] Try.func64 rfl rfl rfl ⟨rfl, trivial⟩ fun c => ?_
  refine a_box hT 20 rfl rfl rfl rfl fun g => ?_
  refine a_call hT rfl rfl rfl (by kernel_rfl) (deleteFunc hn) [10, 20, 12] [10, 20, 12] rfl rfl ?_
  rintro _ _ rfl
  refine a_ent [12] [12] [clBlk gb r floor h3] rfl rfl (Ent.fits ⟨⟨rfl, rfl, rfl, rfl, trivial⟩, trivial⟩) ?_
  refine a_end hT [12, 10] rfl rfl rfl rfl rfl rfl ?_
  rfl

end Go.Proofs.Ytdconcindpfmcaa
end

section
/- Layer 19's table as a whole; Len. -/
set_option linter.unusedVariables false
set_option linter.unusedSimpArgs false
namespace Go.Proofs.Ytdconcindpfmcaa
open V A

structure CL where
  gb : Nat
  r : Nat
  c : PC
def clC (x : CL) : List Chunk := [clBlk x.gb x.r x.c.floor 13, .map x.r (mapG kU entAV x.c.ents)]
def clsC (cl : List (Int × CL)) : List Chunk := cl.flatMap fun p => clC p.2
def clV (x : CL) : AV := ptrA x.gb 12
def mapC (mo : Option Nat) (cl : List (Int × CL)) : Chunk := match mo with
  | none => .ext (listA [])
  | some m => .map m (mapG kI clV cl)
def tbBlk (g : Nat) (mo : Option Nat) : Chunk := .blk g 114 [.v (.map mo) 11]
def tabR (g : Nat) (mo : Option Nat) (cl : List (Int × CL)) : List Chunk := [tbBlk g mo, mapC mo cl, .ext (listA (clsC cl))]
def plainT (cl : List (Int × CL)) : PT := cl.map fun p => (p.1, p.2.c)
def tabA (g : Nat) (T : PT) : Asrt := exA (fun x : Option Nat × List (Int × CL) => plainT x.2 = T ∧ (x.1 = none → x.2 = [])) fun x => tabR g x.1 x.2

def sumV (l : List (Bool × (Int × CL))) : Nat := ((l.filter (·.1)).map fun q => q.2.2.c.ents.length).sum
theorem sumV_set : ∀ {l : List (Bool × (Int × CL))} {i : Nat} {p : Int × CL}, l[i]? = some (false, p) → sumV (l.set i (true, p)) = sumV l + p.2.c.ents.length
  | [], i, p, h => by simp at h
  | q :: l, 0, p, h => by simp at h; subst h; simp [sumV]; omega
  | q :: l, i + 1, p, h => by
    have := sumV_set (l := l) (i := i) (p := p) (by simpa using h)
    unfold sumV at this ⊢
    rw [List.set_cons_succ, List.filter_cons, List.filter_cons]
    split
    · simp; omega
    · exact this
theorem sumV_all {l : List (Bool × (Int × CL))} (h : ∀ q ∈ l, q.1 = true) : sumV l = lenT (plainT (l.map (·.2))) := by
  unfold sumV lenT plainT
  rw [List.filter_eq_self.2 h, List.map_map, List.map_map]
  rfl
theorem sumV_no (cl : List (Int × CL)) : sumV (cl.map fun p => (false, p)) = 0 := by
  unfold sumV
  rw [List.filter_eq_nil_iff.2 (by simp)]
  rfl
theorem clsC_app (a b : List (Int × CL)) : clsC (a ++ b) = clsC a ++ clsC b := List.flatMap_append
def i64w (n : Nat) : AV := .v (.int .i64 (IntKind.i64.wrap n)) 0
/-- How many entries there are. -/
theorem len_spec {g h : Nat} {mo : Option Nat} {cl : List (Int × CL)} (hmo : mo = none → cl = []) : FSpec Try.prog 58 [ptrA g h] (tabR g mo cl) fun a cs => a = i64w (lenT (plainT cl)) ∧ cs = tabR g mo cl := by
  cases mo with
  | none =>
    cases hmo rfl
    refine a_enter hT [ptrA g 10] [10, 11, 14] Try.func58 rfl rfl rfl ⟨rfl, trivial⟩ fun c => ?_
    refine a_f hT rfl rfl rfl ?_
    refine a_rangeN hT 20 rfl rfl rfl mtC rfl fun it => ?_
    refine a_loop hT [3, 12] (fun _ : Unit => [i64w 0, .v (.pointer (some ⟨it, 0, none⟩)) 20]) (fun _ => [(20, .ext (iterN it)), (10, tbBlk g none), (11, mapC none []), (14, .ext (listA (clsC [])))]) (fun _ => True) (fun _ => 0) () [20, 10, 11, 14] rfl rfl trivial ⟨rfl, rfl, trivial⟩ rfl ⟨rfl, ⟨rfl, rfl, rfl, trivial⟩, rfl, rfl, trivial⟩ fun _ _ => ?_
    refine a_inextN hT rfl rfl rfl rfl rfl rfl ?_
    refine a_f hT rfl rfl rfl ?_
    refine a_ret hT [10, 11, 14] rfl rfl rfl rfl rfl rfl ⟨rfl, rfl⟩
  | some m =>
    refine a_enter hT [ptrA g 10] [10, 11, 14] Try.func58 rfl rfl rfl ⟨rfl, trivial⟩ fun c => ?_
    refine a_f hT rfl rfl rfl ?_
    refine a_rangeG hT (kv := kI) (va := clV) cl rfl rfl rfl mtC rfl rfl rfl rfl fun it => ?_
    refine a_loop hT [3, 12] (fun x : List (Bool × (Int × CL)) × Option (Value × AV) => [i64w (sumV x.1), .v (.pointer (some ⟨it, 0, none⟩)) 11]) (fun x => [(11, .ext (iterA m it (iterG kI clV x.1) x.2)), (10, tbBlk g (some m)), (14, .ext (listA (clsC cl)))])
      (fun x => x.1.map (·.2) = cl) (fun x => left x.1) (cl.map fun p => (false, p), none) [11, 10, 14] rfl rfl (by simp [List.map_map, Function.comp_def]) ⟨by rw [sumV_no]; rfl, rfl, trivial⟩ rfl ⟨rfl, ⟨rfl, rfl, rfl, trivial⟩, rfl, trivial⟩ ?_
    rintro ⟨l, cur⟩ h1
    refine a_inextG hT (kv := kI) (va := clV) l rfl rfl rfl rfl rfl rfl rfl (fun hq => ?_) (fun i k x hi => ?_)
    · refine a_f hT rfl rfl rfl ?_
      refine a_iendG 11 (kv := kI) (va := clV) l rfl rfl rfl ?_
      refine a_ret hT [10, 11, 14] rfl rfl rfl rfl rfl rfl ⟨?_, ?_⟩
      · rw [← h1, ← sumV_all hq]; rfl
      · have h1' : l.map (·.2) = cl := h1
        rw [h1']; rfl
    · refine a_t hT rfl rfl rfl ?_
      refine a_ientry hT rfl rfl rfl rfl rfl rfl ?_
      have hmem : (k, x) ∈ cl := by rw [← h1]; exact List.mem_map.2 ⟨_, List.mem_of_getElem? hi, rfl⟩
      obtain ⟨a, b, hab⟩ := List.append_of_mem hmem
      subst hab
      rw [show clsC (a ++ (k, x) :: b) = clsC a ++ (clC x ++ clsC b) by rw [clsC_app]; rfl]
      refine a_ent [14] [12, 13, 14] (clC x ++ [.ext (listA (clsC a ++ clsC b))]) rfl rfl (ent_focus _ _ _) ?_
      refine a_nextE hT (l.set i (true, (k, x)), some (kI k, clV x)) [11, 10, 12, 13, 14] rfl rfl ⟨?_, ?_⟩ ⟨?_, rfl, trivial⟩ rfl (Ent.cons _ (Ent.cons _ (ent_unfocus _ (clC x) _)))
      · show (l.set i (true, (k, x))).map (·.2) = _
        rw [map_set_same (y := (true, (k, x))) _ hi rfl]; exact h1
      · show left (l.set i (true, (k, x))) < left l
        have := left_set hi (k, x)
        omega
      · show Value.int .i64 (IntKind.i64.wrap (IntKind.i64.wrap (sumV l) + ((mapG kU entAV x.c.ents).length : Int))) = .int .i64 (IntKind.i64.wrap (sumV (l.set i (true, (k, x))) : Nat))
        rw [wrapI_add, sumV_set hi]
        unfold mapG
        rw [List.length_map]
        rfl
end Go.Proofs.Ytdconcindpfmcaa
end

section
/- Layer 19: offer. -/
set_option linter.unusedVariables false
set_option linter.unusedSimpArgs false
namespace Go.Proofs.Ytdconcindpfmcaa
open V A

/-! ### Plain -/
structure Ver where
  kind : Int
  st : Int
  bytes : List UInt8
def mn (p q : Int) : Int := if q < p then q else p
def mx (p q : Int) : Int := if q > p then q else p
def PC.up (c : PC) (tok fl : Int) : PC := PC.sweep ⟨mx c.floor (mn fl tok), c.ents⟩
def offerC (T : PT) (num tok : Int) (known : Bool) (c : PC) (fresh : DE) : PT × Ver :=
  if tok < c.floor then (if known then aput T num c else T, ⟨4, 0, []⟩)
  else match aget c.ents tok with
  | some e => if e.done then (if known then aput T num c else T, ⟨3, e.status, e.bytes⟩) else (if known then aput T num c else T, ⟨2, 0, []⟩)
  | none => if 16 ≤ tok - c.floor ∨ 64 ≤ lenT (if known then aput T num c else T) then (if known then aput T num c else T, ⟨5, 0, []⟩) else (aput T num ⟨c.floor, aput c.ents tok fresh⟩, ⟨1, 0, []⟩)
def offerP (T : PT) (num tok fl : Int) (fresh : DE) : PT × Ver :=
  match aget T num with
  | none => if 8 ≤ T.length then (T, ⟨5, 0, []⟩) else offerC T num tok false (PC.up ⟨1, []⟩ tok fl) fresh
  | some c => offerC T num tok true (c.up tok fl) fresh
structure wfT (T : PT) : Prop where
  fl : ∀ p ∈ T, 0 ≤ p.2.floor
  nd : ∀ p ∈ T, (p.2.ents.map (·.1)).Nodup
  nk : (T.map (·.1)).Nodup
  len : lenT T ≤ 64
  by_ : ∀ p ∈ T, ∀ q ∈ p.2.ents, q.2.bytes.length ≤ lim

theorem lenT_app (a b : PT) : lenT (a ++ b) = lenT a + lenT b := by unfold lenT; rw [List.map_append, List.sum_append]
theorem lenT_cons (p : Int × PC) (b : PT) : lenT (p :: b) = p.2.ents.length + lenT b := by unfold lenT; rw [List.map_cons, List.sum_cons]
theorem lenT_put {T : PT} {num : Int} {c : PC} (c1 : PC) (h : aget T num = some c) : lenT (aput T num c1) + c.ents.length = lenT T + c1.ents.length := by
  obtain ⟨a, b, rfl, hn⟩ := aget_split h
  rw [aput_mid hn, lenT_app, lenT_app, lenT_cons, lenT_cons]
  simp only
  omega
theorem lenT_new {T : PT} {num : Int} (c1 : PC) (h : aget T num = none) : lenT (aput T num c1) = lenT T + c1.ents.length := by
  rw [aput_new h, lenT_app, lenT_cons]
  simp [lenT]
theorem wfT.put {T : PT} (hw : wfT T) {num : Int} {c : PC} (h1 : 0 ≤ c.floor) (h2 : (c.ents.map (·.1)).Nodup) (h3 : ∀ q ∈ c.ents, q.2.bytes.length ≤ lim) (h4 : lenT (aput T num c) ≤ 64) : wfT (aput T num c) :=
  ⟨fun p hp => (mem_aput hp).elim (fun e => by rw [e]; exact h1) (hw.fl p), fun p hp => (mem_aput hp).elim (fun e => by rw [e]; exact h2) (hw.nd p), nodup_aput hw.nk, h4, fun p hp => (mem_aput hp).elim (fun e => by rw [e]; exact h3) (hw.by_ p)⟩
theorem mx_le (p q : Int) : p ≤ mx p q := by unfold mx; split <;> omega
/-- A client's part of it. -/
structure wfC (c : PC) : Prop where
  fl : 0 ≤ c.floor
  nd : (c.ents.map (·.1)).Nodup
  by_ : ∀ q ∈ c.ents, q.2.bytes.length ≤ lim
theorem wfT.at {T : PT} (hw : wfT T) {num : Int} {c : PC} (h : aget T num = some c) : wfC c := ⟨hw.fl _ (aget_mem h), hw.nd _ (aget_mem h), hw.by_ _ (aget_mem h)⟩
theorem wfC.new : wfC ⟨1, []⟩ := ⟨by show (0 : Int) ≤ 1; decide, by simp, by simp⟩
theorem wfC.up {c : PC} (h : wfC c) (tok fl : Int) : wfC (c.up tok fl) :=
  ⟨Int.le_trans h.fl (mx_le _ _), h.nd.sublist ((List.filter_sublist).map _), fun q hq => h.by_ q (List.mem_filter.1 hq).1⟩
theorem up_len (c : PC) (tok fl : Int) : (c.up tok fl).ents.length ≤ c.ents.length := List.length_filter_le _ _
theorem wfC.add {c : PC} (h : wfC c) {tok : Int} {e : DE} (he : e.bytes.length ≤ lim) : wfC ⟨c.floor, aput c.ents tok e⟩ :=
  ⟨h.fl, nodup_aput h.nd, fun q hq => (mem_aput hq).elim (fun e' => by rw [e']; exact he) (h.by_ q)⟩
/-- The table stays right. -/
theorem offer_wf {T : PT} (hw : wfT T) (num tok fl : Int) {fresh : DE} (hb : fresh.bytes.length ≤ lim) : wfT (offerP T num tok fl fresh).1 := by
  unfold offerP
  cases hg : aget T num with
  | none =>
    simp only
    split
    · exact hw
    · have hc := wfC.new.up tok fl
      unfold offerC
      simp only [Bool.false_eq_true, if_false]
      split
      · exact hw
      · split
        · split <;> exact hw
        · split
          · exact hw
          · rename_i h1 h2 h3
            have hc2 := hc.add (tok := tok) hb
            refine hw.put hc2.fl hc2.nd hc2.by_ ?_
            rw [lenT_new _ hg]
            simp only
            have : (PC.up ⟨1, []⟩ tok fl).ents.length = 0 := Nat.le_zero.1 (up_len ⟨1, []⟩ tok fl)
            rw [aput_len_new h2, this]
            omega
  | some c =>
    have hc := (hw.at hg).up tok fl
    have hl := lenT_put (c.up tok fl) hg
    have := up_len c tok fl
    have := hw.len
    have hw1 : wfT (aput T num (c.up tok fl)) := hw.put hc.fl hc.nd hc.by_ (by omega)
    simp only
    unfold offerC
    simp only [if_true]
    split
    · exact hw1
    · split
      · split <;> exact hw1
      · split
        · exact hw1
        · rename_i h1 h2 h3
          have hc2 := hc.add (tok := tok) hb
          refine hw.put hc2.fl hc2.nd hc2.by_ ?_
          have h4 := lenT_put (⟨(c.up tok fl).floor, aput (c.up tok fl).ents tok fresh⟩ : PC) hg
          simp only [aput_len_new h2] at h4
          omega

/-! ### The walk -/
def nilA : AV := .v (.slice none 0 0) 0
def verR (v : Ver) (a : AV) (cs tab : List Chunk) : Prop :=
  (v.kind ≠ 3 ∧ a = .agg [.v (kI v.kind) 0, .v (kI 0) 0, nilA] ∧ cs = tab) ∨ (v.kind = 3 ∧ ∃ x, a = .agg [.v (kI 3) 0, .v (kI v.st) 0, .row x 1] ∧ cs = tab ++ [.row x 5 1 (v.bytes.map eB)])
def frBlk (gf : Nat) (e : DE) : Chunk := .blk gf 117 [.v (.bool e.done) 0, .v (.int .i64 e.status) 0, .d (A.bytesD e.bytes)]
def vBlk (gv : Nat) : Chunk := .blk gv 47 [.v (kI 0) 0, .v (kI 0) 0, nilA]
structure OX where
  x : CL
  kn : Bool
  oth : List (Int × CL)
def OX.ok (num : Int) (cl : List (Int × CL)) (y : OX) : Prop :=
  (y.kn = true ∧ ∃ a b, cl = a ++ (num, y.x) :: b ∧ y.oth = a ++ b ∧ aget cl num = some y.x ∧ ∀ p ∈ a, p.1 ≠ num) ∨ (y.kn = false ∧ aget cl num = none ∧ y.oth = cl ∧ y.x.c = ⟨1, []⟩ ∧ cl.length < 8)
theorem aget_plain (cl : List (Int × CL)) (k : Int) : aget (plainT cl) k = (aget cl k).map (·.c) := aget_map (fun x : CL => x.c) cl k
def baseC (g : Nat) (mo : Option Nat) (cl : List (Int × CL)) (y : OX) (c1 : PC) : List Chunk := [tbBlk g mo, mapC mo cl, clBlk y.x.gb y.x.r c1.floor 13, .map y.x.r (mapG kU entAV c1.ents), .ext (listA (clsC y.oth))]
def OX.cl (num : Int) (cl : List (Int × CL)) (y : OX) (c1 : PC) : List (Int × CL) := if y.kn then aput cl num ⟨y.x.gb, y.x.r, c1⟩ else cl
theorem mapC_aput {mo : Option Nat} {cl : List (Int × CL)} {num : Int} {x : CL} (c1 : PC) (h : aget cl num = some x) : mapC mo (aput cl num ⟨x.gb, x.r, c1⟩) = mapC mo cl := by
  obtain ⟨a, b, rfl, hn⟩ := aget_split h
  rw [aput_mid hn]
  cases mo <;> simp [mapC, mapG, clV]
theorem plain_aput (cl : List (Int × CL)) (num : Int) (x : CL) : plainT (aput cl num x) = aput (plainT cl) num x.c := (aput_map (fun x : CL => x.c) cl num x).symm
theorem plain_cl {num : Int} {cl : List (Int × CL)} {y : OX} (c1 : PC) : plainT (y.cl num cl c1) = if y.kn then aput (plainT cl) num c1 else plainT cl := by
  unfold OX.cl
  split
  · rw [plain_aput]
  · rfl
theorem base_close {g : Nat} {n : Int} {mo : Option Nat} {cl : List (Int × CL)} {y : OX} (hy : y.ok n cl) (c1 : PC) : Ent (baseC g mo cl y c1) (tabR g mo (y.cl n cl c1) ++ if y.kn then [] else clC ⟨y.x.gb, y.x.r, c1⟩) := by
  unfold OX.cl baseC
  rcases hy with ⟨hk, a, b, hab, ho, hg, hna⟩ | ⟨hk, hg, ho, hc, hl⟩
  · rw [hk, ho, if_pos rfl, if_pos rfl, List.append_nil]
    unfold tabR
    rw [mapC_aput c1 hg, hab, aput_mid hna]
    refine Ent.cons _ (Ent.cons _ ?_)
    rw [clsC_app, clsC_app]
    exact ent_unfocus (clsC a) (clC ⟨y.x.gb, y.x.r, c1⟩) (clsC b)
  · rw [hk, ho, if_neg (by simp), if_neg (by simp)]
    refine Ent.cons _ (Ent.cons _ (Ent.perm ?_))
    exact List.perm_append_comm (l₁ := clC ⟨y.x.gb, y.x.r, c1⟩) (l₂ := [.ext (listA (clsC cl))])
theorem base_open {g : Nat} {n : Int} {mo : Option Nat} {cl : List (Int × CL)} {y : OX} (hy : y.ok n cl) (c1 : PC) : Ent (tabR g mo (y.cl n cl c1) ++ if y.kn then [] else clC ⟨y.x.gb, y.x.r, c1⟩) (baseC g mo cl y c1) := by
  unfold OX.cl baseC
  rcases hy with ⟨hk, a, b, hab, ho, hg, hna⟩ | ⟨hk, hg, ho, hc, hl⟩
  · rw [hk, ho, if_pos rfl, if_pos rfl, List.append_nil]
    unfold tabR
    rw [mapC_aput c1 hg, hab, aput_mid hna]
    refine Ent.cons _ (Ent.cons _ ?_)
    rw [clsC_app, clsC_app]
    exact ent_focus (clsC a) (clC ⟨y.x.gb, y.x.r, c1⟩) (clsC b)
  · rw [hk, ho, if_neg (by simp), if_neg (by simp)]
    refine Ent.cons _ (Ent.cons _ (Ent.perm ?_))
    exact List.perm_append_comm (l₁ := [.ext (listA (clsC cl))]) (l₂ := clC ⟨y.x.gb, y.x.r, c1⟩)
theorem OX.nil {num : Int} {mo : Option Nat} {cl : List (Int × CL)} {y : OX} (hy : y.ok num cl) (hmo : mo = none → cl = []) (c1 : PC) : mo = none → y.cl num cl c1 = [] := fun h => by
  have := hmo h
  subst this
  rcases hy with ⟨hk, a, b, hab, _⟩ | ⟨hk, _⟩
  · simp at hab
  · unfold OX.cl; rw [hk]; rfl
theorem len_base {g h : Nat} {n : Int} {mo : Option Nat} {cl : List (Int × CL)} {y : OX} (hmo : mo = none → cl = []) (hy : y.ok n cl) (c1 : PC) : FSpec Try.prog 58 [ptrA g h] (baseC g mo cl y c1) fun a cs => a = i64w (lenT (if y.kn then aput (plainT cl) n c1 else plainT cl)) ∧ cs = baseC g mo cl y c1 := by
  refine ((((len_spec (g := g) (h := h) (OX.nil hy hmo c1)).frame (if y.kn then [] else clC ⟨y.x.gb, y.x.r, c1⟩)).ent (base_close hy c1))).weak fun a cs hR => ?_
  obtain ⟨cs1, rfl, rfl, rfl⟩ := hR
  exact ⟨i64w (lenT (plainT (y.cl n cl c1))), baseC g mo cl y c1, [], rfl, by rw [List.append_nil]; exact base_open hy c1, by rw [plain_cl], rfl⟩
theorem ent_last (a d : List Chunk) (c : Chunk) : Ent ((a ++ d) ++ [c]) ((a ++ [c]) ++ d) := Ent.perm (by rw [List.append_assoc, List.append_assoc]; exact (List.perm_append_left_iff a).2 List.perm_append_comm)
theorem offer_fin {g : Nat} {num : Int} {mo : Option Nat} {cl : List (Int × CL)} {y : OX} (hmo : mo = none → cl = []) (hy : y.ok num cl) (c1 : PC) (v : Ver) {r : PT × Ver} (hof : r = (if y.kn then aput (plainT cl) num c1 else plainT cl, v)) {a : AV} {cs : List Chunk} (h : verR v a cs (baseC g mo cl y c1)) :
    ∃ a' cs1 cs2, Fit a a' ∧ Ent cs (cs1 ++ cs2) ∧ ∃ mo' cl', (mo' = none → cl' = []) ∧ plainT cl' = r.1 ∧ verR r.2 a' cs1 (tabR g mo' cl') := by
  rw [hof]
  rcases h with ⟨hk, rfl, rfl⟩ | ⟨hk, x, rfl, rfl⟩
  · exact ⟨_, tabR g mo (y.cl num cl c1), _, Fit.refl _, base_close hy c1, mo, y.cl num cl c1, OX.nil hy hmo c1, plain_cl c1, .inl ⟨hk, rfl, rfl⟩⟩
  · exact ⟨_, tabR g mo (y.cl num cl c1) ++ [_], _, Fit.refl _, (Ent.app (base_close hy c1) (Ent.refl [_])).trans (ent_last _ _ _), mo, y.cl num cl c1, OX.nil hy hmo c1, plain_cl c1, .inr ⟨hk, x, rfl, rfl⟩⟩
def putC (g m : Nat) (num : Int) (cl : List (Int × CL)) (y : OX) (c2 : PC) : List Chunk := [tbBlk g (some m), .map m (mapG kI clV (aput cl num ⟨y.x.gb, y.x.r, c2⟩)), clBlk y.x.gb y.x.r c2.floor 13, .map y.x.r (mapG kU entAV c2.ents), .ext (listA (clsC y.oth))]
theorem put_close {g m : Nat} {num : Int} {cl : List (Int × CL)} {y : OX} (hy : y.ok num cl) (c2 : PC) : Ent (putC g m num cl y c2) (tabR g (some m) (aput cl num ⟨y.x.gb, y.x.r, c2⟩) ++ []) := by
  rw [List.append_nil]
  refine Ent.cons _ (Ent.cons _ ?_)
  rcases hy with ⟨hk, a, b, hab, ho, hg, hna⟩ | ⟨hk, hg, ho, hc, hl⟩
  · rw [ho, hab, aput_mid hna, clsC_app, clsC_app]
    exact ent_unfocus (clsC a) (clC ⟨y.x.gb, y.x.r, c2⟩) (clsC b)
  · rw [ho, aput_new hg, clsC_app]
    have := ent_unfocus (clsC cl) (clC ⟨y.x.gb, y.x.r, c2⟩) []
    rw [List.append_nil] at this
    exact this
theorem offer_put {g m : Nat} {num : Int} {cl : List (Int × CL)} {y : OX} (hy : y.ok num cl) (c2 : PC) (v : Ver) {r : PT × Ver} (hof : r = (aput (plainT cl) num c2, v)) {a : AV} {cs : List Chunk} (h : v.kind ≠ 3 ∧ a = .agg [.v (kI v.kind) 0, .v (kI 0) 0, nilA] ∧ cs = putC g m num cl y c2) :
    ∃ a' cs1 cs2, Fit a a' ∧ Ent cs (cs1 ++ cs2) ∧ ∃ mo' cl', (mo' = none → cl' = []) ∧ plainT cl' = r.1 ∧ verR r.2 a' cs1 (tabR g mo' cl') := by
  rw [hof]
  obtain ⟨hk, rfl, rfl⟩ := h
  exact ⟨_, _, _, Fit.refl _, put_close hy c2, some m, _, by simp, plain_aput _ _ _, .inl ⟨hk, rfl, rfl⟩⟩
set_option maxRecDepth 100000 in
theorem offer_walk {g h h1 h2 h3 : Nat} {mo : Option Nat} {cl : List (Int × CL)} {num tok fl : Int} {fresh : DE} (hmo : mo = none → cl = []) (hw : wfT (plainT cl)) (ht1 : 0 ≤ tok) (ht2 : tok < 18446744073709551616) (hf1 : 0 ≤ fl) :
    FSpec Try.prog 62 [ptrA g h, .v (kI num) h1, .v (kU tok) h2, .v (kU fl) h3, entAV fresh] (tabR g mo cl)
      fun a cs => ∃ mo' cl', (mo' = none → cl' = []) ∧ plainT cl' = (offerP (plainT cl) num tok fl fresh).1 ∧ verR (offerP (plainT cl) num tok fl fresh).2 a cs (tabR g mo' cl') := by
  refine FSpec.weak (R := fun a cs => ∃ a' cs1 cs2, Fit a a' ∧ Ent cs (cs1 ++ cs2) ∧ _) ?_ fun a cs h => h
  refine a_enter hT [ptrA g 10, .v (kI num) 0, .v (kU tok) 0, .v (kU fl) 0, entAV fresh] [10, 11, 14] Try.func62 rfl rfl rfl ⟨rfl, rfl, rfl, rfl, ⟨rfl, rfl, rfl, trivial⟩, trivial⟩ fun c => ?_
  refine a_box hT 20 rfl rfl rfl rfl fun gf => ?_
  refine a_new hT hZ 21 rfl rfl rfl rfl fun gv => ?_
  refine a_cutM hT [0, 1, 2, 3, 9, 10, 11, 12] (fun _ : Unit => [ptrA g 10, .v (kI num) 0, .v (kU tok) 0, .v (kU fl) 0, .v (.pointer (some ⟨gf, 0, none⟩)) 20, .v (.pointer (some ⟨gv, 0, none⟩)) 21, ((aget cl num).map clV).getD (.v (.pointer none) 0), .v (.bool (aget cl num).isSome) 0])
      (fun y => [(10, tbBlk g mo), (11, mapC mo cl), (20, frBlk gf fresh), (21, vBlk gv), (14, .ext (listA (clsC cl)))]) (fun y => True) 2 rfl rfl ?_ fun _ _ => ?_
  · cases mo with
    | none =>
      cases hmo rfl
      refine a_lookN hT num rfl rfl rfl mtC kI_ok zeroC rfl rfl ?_
      refine a_next hT () [10, 11, 20, 21, 14] rfl rfl trivial ⟨rfl, rfl, rfl, rfl, rfl, rfl, rfl, rfl, trivial⟩ rfl ⟨⟨rfl, rfl, rfl, trivial⟩, rfl, ⟨rfl, rfl, rfl, rfl, rfl, trivial⟩, ⟨rfl, rfl, rfl, rfl, rfl, trivial⟩, rfl, trivial⟩
    | some m =>
      generalize hres : aget cl num = res
      refine a_lookG hT (kv := kI) (va := clV) cl num res rfl rfl rfl mtC kI_ok zeroC rfl rfl rfl rfl rfl hres ?_
      refine a_next hT () [10, 11, 20, 21, 14] rfl rfl trivial ⟨rfl, rfl, rfl, rfl, rfl, rfl, ?_, rfl, trivial⟩ rfl ⟨⟨rfl, rfl, rfl, trivial⟩, ⟨rfl, rfl⟩, ⟨rfl, rfl, rfl, rfl, rfl, trivial⟩, ⟨rfl, rfl, rfl, rfl, rfl, trivial⟩, rfl, trivial⟩
      cases res <;> rfl
  · refine a_cutM hT [0, 1, 2, 3, 9, 10, 11] (fun y : OX => [ptrA g 10, .v (kI num) 0, .v (kU tok) 0, .v (kU fl) 0, .v (.pointer (some ⟨gf, 0, none⟩)) 20, .v (.pointer (some ⟨gv, 0, none⟩)) 21, ptrA y.x.gb 12])
      (fun y => [(10, tbBlk g mo), (11, mapC mo cl), (20, frBlk gf fresh), (21, vBlk gv), (12, clBlk y.x.gb y.x.r y.x.c.floor 13), (13, .map y.x.r (mapG kU entAV y.x.c.ents)), (14, .ext (listA (clsC y.oth)))]) (fun y => y.ok num cl) 0 rfl rfl ?_ fun y hy => ?_
    · cases hres : aget cl num with
      | some x =>
        refine a_f hT rfl rfl rfl ?_
        obtain ⟨a, b, hab, hna⟩ := aget_split hres
        refine a_nextE hT (OX.mk x true (a ++ b)) [10, 11, 20, 21, 14] rfl rfl (.inl ⟨rfl, a, b, hab, rfl, hres, hna⟩) ⟨rfl, rfl, rfl, rfl, rfl, rfl, rfl, trivial⟩ rfl (Ent.cons _ (Ent.cons _ (Ent.cons _ (Ent.cons _ ?_))))
        rw [hab, clsC_app, clsC_app]
        exact ent_focus (clsC a) (clC x) (clsC b)
      | none =>
        refine a_t hT rfl rfl rfl ?_
        cases mo with
        | none =>
          cases hmo rfl
          refine a_f hT rfl rfl rfl ?_
          refine a_mkmap hT 13 rfl rfl rfl fun r => ?_
          refine a_build hT hZ [.v (kU 1) 0, .v (.map (some r)) 13] rfl rfl rfl rfl rfl rfl ?_
          refine a_box hT 12 rfl rfl rfl rfl fun gb => ?_
          refine a_next hT (OX.mk ⟨gb, r, ⟨1, []⟩⟩ false []) [10, 11, 20, 21, 12, 13, 14] rfl rfl (.inr ⟨rfl, hres, rfl, rfl, by simp⟩) ⟨rfl, rfl, rfl, rfl, rfl, rfl, rfl, trivial⟩ rfl ⟨⟨rfl, rfl, rfl, trivial⟩, rfl, ⟨rfl, rfl, rfl, rfl, rfl, trivial⟩, ⟨rfl, rfl, rfl, rfl, rfl, trivial⟩, ⟨rfl, rfl, rfl, rfl, trivial⟩, ⟨rfl, rfl⟩, rfl, trivial⟩
        | some m =>
          have hlen : (mapG kI clV cl).length = cl.length := by unfold mapG; rw [List.length_map]
          refine a_if hT rfl rfl (fun h8 => ?_) (fun h8 => ?_)
          · have h8' : 8 ≤ cl.length := by
              have : ((mapG kI clV cl).length : Int) ≥ 8 := of_decide_eq_true h8
              omega
            refine a_build hT hZ [.v (kI 5) 0, .v (kI 0) 0, nilA] rfl rfl rfl rfl rfl rfl ?_
            have hof : offerP (plainT cl) num tok fl fresh = (plainT cl, ⟨5, 0, []⟩) := by
              unfold offerP
              rw [aget_plain, hres]
              show (if 8 ≤ (plainT cl).length then _ else _) = _
              rw [if_pos (by unfold plainT; rw [List.length_map]; exact h8')]
            refine a_ret hT [10, 11, 14] rfl rfl rfl rfl rfl rfl ⟨_, tabR g (some m) cl, [], Fit.refl _, by rw [List.append_nil]; exact Ent.refl _, some m, cl, by simp, by rw [hof], ?_⟩
            rw [hof]
            exact .inl ⟨by show (5 : Int) ≠ 3; decide, rfl, rfl⟩
          · have h8' : cl.length < 8 := by
              have : ¬ ((mapG kI clV cl).length : Int) ≥ 8 := of_decide_eq_false h8
              omega
            refine a_mkmap hT 13 rfl rfl rfl fun r => ?_
            refine a_build hT hZ [.v (kU 1) 0, .v (.map (some r)) 13] rfl rfl rfl rfl rfl rfl ?_
            refine a_box hT 12 rfl rfl rfl rfl fun gb => ?_
            refine a_next hT (OX.mk ⟨gb, r, ⟨1, []⟩⟩ false cl) [10, 11, 20, 21, 12, 13, 14] rfl rfl (.inr ⟨rfl, hres, rfl, rfl, h8'⟩) ⟨rfl, rfl, rfl, rfl, rfl, rfl, rfl, trivial⟩ rfl ⟨⟨rfl, rfl, rfl, trivial⟩, ⟨rfl, rfl⟩, ⟨rfl, rfl, rfl, rfl, rfl, trivial⟩, ⟨rfl, rfl, rfl, rfl, rfl, trivial⟩, ⟨rfl, rfl, rfl, rfl, trivial⟩, ⟨rfl, rfl⟩, rfl, trivial⟩
    · have hnd : (y.x.c.ents.map (·.1)).Nodup := by
        rcases hy with ⟨hk, a, b, hab, ho, hg, hna⟩ | ⟨hk, hg, ho, hc, hl⟩
        · exact hw.nd (num, y.x.c) (List.mem_map.2 ⟨(num, y.x), by rw [hab]; simp, rfl⟩)
        · rw [hc]; simp
      refine a_call hT rfl rfl rfl (by kernel_rfl) (sweep_spec (gb := y.x.gb) (r := y.x.r) (h3 := 13) (floor := mx y.x.c.floor (mn fl tok)) hnd) [12, 13] [12, 13] rfl rfl ?_
      rintro _ _ rfl
      have hwc : wfC y.x.c := by
        rcases hy with ⟨hk, a, b, hab, ho, hg, hna⟩ | ⟨hk, hg, ho, hc, hl⟩
        · exact hw.at (num := num) (by rw [aget_plain, hg]; rfl)
        · rw [hc]; exact wfC.new
      have hwu := hwc.up tok fl
      have hof : offerP (plainT cl) num tok fl fresh = offerC (plainT cl) num tok y.kn (y.x.c.up tok fl) fresh := by
        rcases hy with ⟨hk, a, b, hab, ho, hg, hna⟩ | ⟨hk, hg, ho, hc, hl⟩
        · unfold offerP
          rw [aget_plain, hg, hk]
          rfl
        · unfold offerP
          rw [aget_plain, hg, hk, hc]
          show (if 8 ≤ (plainT cl).length then _ else _) = _
          rw [if_neg (by unfold plainT; rw [List.length_map]; omega)]
      rw [hof]
      generalize hres : aget (y.x.c.up tok fl).ents tok = res
      refine a_lookG hT (kv := kU) (va := entAV) (y.x.c.up tok fl).ents tok res rfl rfl rfl mtE kU_ok zeroE rfl rfl rfl rfl rfl hres ?_
      cases res with
      | some e =>
        refine a_new hT hZ 22 rfl rfl rfl rfl fun ge => ?_
        refine a_if hT rfl rfl (fun hlt => ?_) (fun hlt => ?_)
        · have hlt' : tok < (y.x.c.up tok fl).floor := of_decide_eq_true hlt
          refine a_build hT hZ [.v (kI 4) 0, .v (kI 0) 0, nilA] rfl rfl rfl rfl rfl rfl ?_
          refine a_ret hT [10, 11, 12, 13, 14] rfl rfl rfl rfl rfl rfl (offer_fin hmo hy (y.x.c.up tok fl) ⟨4, 0, []⟩ (by unfold offerC; rw [if_pos hlt']) (.inl ⟨by show (4 : Int) ≠ 3; decide, rfl, rfl⟩))
        have hlt' : ¬ tok < (y.x.c.up tok fl).floor := of_decide_eq_false hlt
        refine a_gt hT rfl rfl rfl rfl ?_
        refine a_if hT rfl rfl (fun hd => ?_) (fun hd => ?_)
        · refine a_draw hT [] true [(0, false), (2, false), (1, false), (3, false), (4, true), (5, true), (6, true)] rfl rfl (by kernel_rfl) (by kernel_rfl) rfl ?_
          refine a_call hT rfl rfl rfl (by kernel_rfl) (cloneB (l := e.bytes) (hwu.by_ _ (aget_mem hres))) [] [1] rfl rfl ?_
          rintro _ _ ⟨x, rfl, rfl⟩
          refine a_build hT hZ [.v (kI 3) 0, .v (kI e.status) 0, .row x 1] rfl rfl rfl rfl rfl rfl ?_
          refine a_ret hT [10, 11, 12, 13, 14, 1] rfl rfl rfl rfl rfl rfl (offer_fin hmo hy (y.x.c.up tok fl) ⟨3, e.status, e.bytes⟩ (by unfold offerC; rw [if_neg hlt', hres]; simp [hd]) (.inr ⟨rfl, x, rfl, rfl⟩))
        · refine a_t hT rfl rfl rfl ?_
          refine a_build hT hZ [.v (kI 2) 0, .v (kI 0) 0, nilA] rfl rfl rfl rfl rfl rfl ?_
          refine a_ret hT [10, 11, 12, 13, 14] rfl rfl rfl rfl rfl rfl (offer_fin hmo hy (y.x.c.up tok fl) ⟨2, 0, []⟩ (by unfold offerC; rw [if_neg hlt', hres]; simp [hd]) (.inl ⟨by show (2 : Int) ≠ 3; decide, rfl, rfl⟩))
      | none =>
        refine a_new hT hZ 22 rfl rfl rfl rfl fun ge => ?_
        refine a_if hT rfl rfl (fun hlt => ?_) (fun hlt => ?_)
        · have hlt' : tok < (y.x.c.up tok fl).floor := of_decide_eq_true hlt
          refine a_build hT hZ [.v (kI 4) 0, .v (kI 0) 0, nilA] rfl rfl rfl rfl rfl rfl ?_
          refine a_ret hT [10, 11, 12, 13, 14] rfl rfl rfl rfl rfl rfl (offer_fin hmo hy (y.x.c.up tok fl) ⟨4, 0, []⟩ (by unfold offerC; rw [if_pos hlt']) (.inl ⟨by show (4 : Int) ≠ 3; decide, rfl, rfl⟩))
        have hlt' : ¬ tok < (y.x.c.up tok fl).floor := of_decide_eq_false hlt
        refine a_gf hT rfl rfl rfl rfl ?_
        refine a_f hT rfl rfl rfl ?_
        refine a_f hT rfl rfl rfl ?_
        have hw1 : 0 ≤ (y.x.c.up tok fl).floor := hwu.fl
        have hsub : IntKind.u64.wrap (tok - (y.x.c.up tok fl).floor) = tok - (y.x.c.up tok fl).floor := wrapU64 (by omega) (by omega)
        refine a_g hT rfl rfl rfl (fun hd => ?_) (fun hd => ?_)
        · have hd' : 16 ≤ tok - (y.x.c.up tok fl).floor := by
            have : IntKind.u64.wrap (tok - (y.x.c.up tok fl).floor) ≥ 16 := of_decide_eq_true hd
            omega
          refine a_t hT rfl rfl rfl ?_
          refine a_build hT hZ [.v (kI 5) 0, .v (kI 0) 0, nilA] rfl rfl rfl rfl rfl rfl ?_
          refine a_ret hT [10, 11, 12, 13, 14] rfl rfl rfl rfl rfl rfl (offer_fin hmo hy (y.x.c.up tok fl) ⟨5, 0, []⟩ (by unfold offerC; rw [if_neg hlt', hres]; simp [hd']) (.inl ⟨by show (5 : Int) ≠ 3; decide, rfl, rfl⟩))
        · have hd' : ¬ 16 ≤ tok - (y.x.c.up tok fl).floor := by
            have : ¬ IntKind.u64.wrap (tok - (y.x.c.up tok fl).floor) ≥ 16 := of_decide_eq_false hd
            omega
          refine a_call hT rfl rfl rfl (by kernel_rfl) (len_base hmo hy (y.x.c.up tok fl)) [10, 11, 12, 13, 14] [10, 11, 12, 13, 14] rfl rfl ?_
          rintro _ _ ⟨rfl, rfl⟩
          have hL0 : lenT (if y.kn then aput (plainT cl) num (y.x.c.up tok fl) else plainT cl) ≤ 64 := by
            have := hw.len
            rcases hy with ⟨hk, a, b, hab, ho, hg, hna⟩ | ⟨hk, hg, ho, hc, hl⟩
            · rw [hk, if_pos rfl]
              have := lenT_put (num := num) (c := y.x.c) (T := plainT cl) (y.x.c.up tok fl) (by rw [aget_plain, hg]; rfl)
              have := up_len y.x.c tok fl
              omega
            · rw [hk, if_neg (by simp)]
              exact this
          have hlen : IntKind.i64.wrap (lenT (if y.kn then aput (plainT cl) num (y.x.c.up tok fl) else plainT cl) : Nat) = lenT (if y.kn then aput (plainT cl) num (y.x.c.up tok fl) else plainT cl) := wrap64 (by omega) (by omega)
          refine a_if hT rfl rfl (fun hf => ?_) (fun hf => ?_)
          · have hf' : 64 ≤ lenT (if y.kn then aput (plainT cl) num (y.x.c.up tok fl) else plainT cl) := by
              have : IntKind.i64.wrap (lenT (if y.kn then aput (plainT cl) num (y.x.c.up tok fl) else plainT cl) : Nat) ≥ 64 := of_decide_eq_true hf
              omega
            refine a_build hT hZ [.v (kI 5) 0, .v (kI 0) 0, nilA] rfl rfl rfl rfl rfl rfl ?_
            refine a_ret hT [10, 11, 12, 13, 14] rfl rfl rfl rfl rfl rfl (offer_fin hmo hy (y.x.c.up tok fl) ⟨5, 0, []⟩ (by unfold offerC; rw [if_neg hlt', hres]; simp [hf']) (.inl ⟨by show (5 : Int) ≠ 3; decide, rfl, rfl⟩))
          · have hf' : ¬ 64 ≤ lenT (if y.kn then aput (plainT cl) num (y.x.c.up tok fl) else plainT cl) := by
              have : ¬ IntKind.i64.wrap (lenT (if y.kn then aput (plainT cl) num (y.x.c.up tok fl) else plainT cl) : Nat) ≥ 64 := of_decide_eq_false hf
              omega
            refine a_draw hT [] true [(0, false), (4, false), (5, false), (1, false), (2, false), (3, false), (6, true)] rfl rfl (by kernel_rfl) (by kernel_rfl) rfl ?_
            refine a_mputG hT (kv := kU) (va := entAV) (y.x.c.up tok fl).ents tok fresh rfl rfl rfl mtE kU_ok rfl rfl rfl rfl rfl rfl ?_
            have fin : offerC (plainT cl) num tok y.kn (y.x.c.up tok fl) fresh = (aput (plainT cl) num ⟨(y.x.c.up tok fl).floor, aput (y.x.c.up tok fl).ents tok fresh⟩, ⟨1, 0, []⟩) := by
              unfold offerC
              rw [if_neg hlt', hres]
              simp only
              rw [if_neg (by simp only [not_or]; exact ⟨hd', hf'⟩)]
            rw [fin]
            cases mo with
            | none =>
              cases hmo rfl
              refine a_t hT rfl rfl rfl ?_
              refine a_mkmap hT 11 rfl rfl rfl fun m => ?_
              refine a_mputG hT (kv := kI) (va := clV) [] num ⟨y.x.gb, y.x.r, ⟨(y.x.c.up tok fl).floor, aput (y.x.c.up tok fl).ents tok fresh⟩⟩ rfl rfl rfl mtC kI_ok rfl rfl rfl rfl rfl rfl ?_
              refine a_build hT hZ [.v (kI 1) 0, .v (kI 0) 0, nilA] rfl rfl rfl rfl rfl rfl ?_
              refine a_ret hT [10, 11, 12, 13, 14] rfl rfl rfl rfl rfl rfl (offer_put hy _ ⟨1, 0, []⟩ rfl ⟨by show (1 : Int) ≠ 3; decide, rfl, rfl⟩)
            | some m =>
              refine a_f hT rfl rfl rfl ?_
              refine a_mputG hT (kv := kI) (va := clV) cl num ⟨y.x.gb, y.x.r, ⟨(y.x.c.up tok fl).floor, aput (y.x.c.up tok fl).ents tok fresh⟩⟩ rfl rfl rfl mtC kI_ok rfl rfl rfl rfl rfl rfl ?_
              refine a_build hT hZ [.v (kI 1) 0, .v (kI 0) 0, nilA] rfl rfl rfl rfl rfl rfl ?_
              refine a_ret hT [10, 11, 12, 13, 14] rfl rfl rfl rfl rfl rfl (offer_put hy _ ⟨1, 0, []⟩ rfl ⟨by show (1 : Int) ≠ 3; decide, rfl, rfl⟩)
end Go.Proofs.Ytdconcindpfmcaa
end

section
/- Layer 19: New, Offer, Floor, Finish, Revoke. -/
set_option linter.unusedVariables false
set_option linter.unusedSimpArgs false
namespace Go.Proofs.Ytdconcindpfmcaa
open V A

theorem tab_pack {g : Nat} {mo : Option Nat} {cl : List (Int × CL)} {T : PT} (h : mo = none → cl = []) (e : plainT cl = T) : Ent (tabR g mo cl) [.ext (tabA g T)] :=
  ent_pack (f := fun x : Option Nat × List (Int × CL) => tabR g x.1 x.2) (mo, cl) ⟨e, h⟩
theorem tab_unpack (g : Nat) (T : PT) : EntX [.ext (tabA g T)] (fun x : Option Nat × List (Int × CL) => plainT x.2 = T ∧ (x.1 = none → x.2 = [])) fun x => tabR g x.1 x.2 := ent_unpack _ _
theorem offer_spec {g h h1 h2 h3 : Nat} {T : PT} {num tok fl : Int} {fresh : DE} (hw : wfT T) (ht1 : 0 ≤ tok) (ht2 : tok < 18446744073709551616) (hf1 : 0 ≤ fl) :
    FSpec Try.prog 62 [ptrA g h, .v (kI num) h1, .v (kU tok) h2, .v (kU fl) h3, entAV fresh] [.ext (tabA g T)] fun a cs => verR (offerP T num tok fl fresh).2 a cs [.ext (tabA g (offerP T num tok fl fresh).1)] := by
  refine FSpec.entX (tab_unpack g T) fun x hx => ?_
  obtain ⟨mo, cl⟩ := x
  obtain ⟨hp, hmo⟩ := hx
  subst hp
  refine (offer_walk hmo hw ht1 ht2 hf1).weak fun a cs hR => ?_
  obtain ⟨mo', cl', h1, h2, h3⟩ := hR
  rcases h3 with ⟨hk, rfl, rfl⟩ | ⟨hk, x, rfl, rfl⟩
  · exact ⟨_, [.ext (tabA g _)], [], Fit.refl _, tab_pack h1 h2, .inl ⟨hk, rfl, rfl⟩⟩
  · exact ⟨_, [.ext (tabA g _)] ++ [.row x 5 1 _], [], Fit.refl _, by rw [List.append_nil]; exact Ent.app (tab_pack h1 h2) (Ent.refl [_]), .inr ⟨hk, x, rfl, rfl⟩⟩
/-- New. -/
theorem new_spec : FSpec Try.prog 32 [] [] fun a cs => ∃ g, a = ptrA g 10 ∧ cs = [.ext (tabA g [])] := by
  refine FSpec.weak (R := fun a cs => ∃ g, a = ptrA g 10 ∧ cs = [.blk g 114 [.v (.map none) 0]]) ?_ fun a cs hR => ?_
  · refine a_enter hT [] [] Try.func32 rfl rfl rfl trivial fun c => ?_
    refine a_build hT hZ [.v (.map none) 0] rfl rfl rfl rfl rfl rfl ?_
    refine a_box hT 10 rfl rfl rfl rfl fun g => ?_
    exact a_ret hT [10] rfl rfl rfl rfl rfl rfl ⟨g, rfl, rfl⟩
  · obtain ⟨g, rfl, rfl⟩ := hR
    exact ⟨_, [.ext (tabA g [])], [], Fit.refl _, ((Ent.fits (a := [.blk g 114 [.v (.map none) 0]]) (b := [tbBlk g none]) ⟨⟨rfl, rfl, rfl, trivial⟩, trivial⟩).trans (Ent.cons (tbBlk g none) (Ent.app (ent_shut []) (ent_shut [])))).trans (tab_pack (fun _ => rfl) rfl), g, rfl, rfl⟩
/-- Offer. -/
theorem Offer_spec {g h h1 h2 h3 : Nat} {T : PT} {num tok fl : Int} (hw : wfT T) (ht1 : 0 ≤ tok) (ht2 : tok < 18446744073709551616) (hf1 : 0 ≤ fl) :
    FSpec Try.prog 33 [ptrA g h, .v (kI num) h1, .v (kU tok) h2, .v (kU fl) h3] [.ext (tabA g T)] fun a cs => verR (offerP T num tok fl ⟨false, 0, []⟩).2 a cs [.ext (tabA g (offerP T num tok fl ⟨false, 0, []⟩).1)] := by
  refine a_enter hT [ptrA g 10, .v (kI num) 0, .v (kU tok) 0, .v (kU fl) 0] [10] Try.func33 rfl rfl rfl ⟨rfl, rfl, rfl, rfl, trivial⟩ fun c => ?_
  refine a_new hT hZ 20 rfl rfl rfl rfl fun gv => ?_
  refine a_f hT rfl rfl rfl ?_
  refine a_build hT hZ [.v (.bool false) 0, .v (kI 0) 0, nilA] rfl rfl rfl rfl rfl rfl ?_
  refine a_callF hT rfl rfl rfl (by kernel_rfl) (offer_spec (g := g) (h := 10) (h1 := 0) (h2 := 0) (h3 := 0) (fresh := ⟨false, 0, []⟩) hw ht1 ht2 hf1) [10] [10, 1] ⟨rfl, rfl, rfl, rfl, ⟨rfl, rfl, ⟨rfl, rfl⟩, trivial⟩, trivial⟩ rfl ⟨rfl, trivial⟩ ?_
  rintro _ _ (⟨hk, rfl, rfl⟩ | ⟨hk, x, rfl, rfl⟩)
  · exact a_ret hT [10] rfl rfl rfl rfl rfl rfl (.inl ⟨hk, rfl, rfl⟩)
  · exact a_ret hT [10, 1] rfl rfl rfl rfl rfl rfl (.inr ⟨hk, x, rfl, rfl⟩)
def floorP (T : PT) (num : Int) : Int := ((aget T num).map (·.floor)).getD 0
theorem tab_spec {f : FuncId} {args : List AV} {g : Nat} {T : PT} {R : AV → PT → Prop} (h : ∀ mo cl, (mo = none → cl = []) → plainT cl = T → FSpec Try.prog f args (tabR g mo cl) fun a cs => ∃ T', R a T' ∧ Ent cs [.ext (tabA g T')]) : FSpec Try.prog f args [.ext (tabA g T)] fun a cs => ∃ T', R a T' ∧ cs = [.ext (tabA g T')] := by
  refine FSpec.entX (tab_unpack g T) fun x hx => ?_
  refine (h x.1 x.2 hx.2 hx.1).weak fun a cs ⟨T', h1, h2⟩ => ⟨a, [.ext (tabA g T')], [], Fit.refl _, h2, T', h1, rfl⟩
/-- Floor. -/
theorem Floor_spec {g h h1 : Nat} {T : PT} {num : Int} : FSpec Try.prog 34 [ptrA g h, .v (kI num) h1] [.ext (tabA g T)] fun a cs => ∃ T', (a = .v (kU (floorP T num)) 0 ∧ T' = T) ∧ cs = [.ext (tabA g T')] := by
  refine tab_spec fun mo cl hmo hp => ?_
  subst hp
  refine a_enter hT [ptrA g 10, .v (kI num) 0] [10, 11, 14] Try.func34 rfl rfl rfl ⟨rfl, rfl, trivial⟩ fun c => ?_
  refine a_gf hT rfl rfl rfl rfl ?_
  cases mo with
  | none =>
    cases hmo rfl
    refine a_lookN hT num rfl rfl rfl mtC kI_ok zeroC rfl rfl ?_
    refine a_t hT rfl rfl rfl ?_
    exact a_ret hT [10, 11, 14] rfl rfl rfl rfl rfl rfl ⟨_, ⟨rfl, rfl⟩, tab_pack hmo rfl⟩
  | some m =>
    cases hres : aget cl num with
    | none =>
      refine a_lookG hT (kv := kI) (va := clV) cl num none rfl rfl rfl mtC kI_ok zeroC rfl rfl rfl rfl rfl hres ?_
      refine a_t hT rfl rfl rfl ?_
      exact a_ret hT [10, 11, 14] rfl rfl rfl rfl rfl rfl ⟨_, ⟨by unfold floorP; rw [aget_plain, hres]; rfl, rfl⟩, tab_pack hmo rfl⟩
    | some x =>
      refine a_lookG hT (kv := kI) (va := clV) cl num (some x) rfl rfl rfl mtC kI_ok zeroC rfl rfl rfl rfl rfl hres ?_
      refine a_f hT rfl rfl rfl ?_
      refine a_lookG hT (kv := kI) (va := clV) cl num (some x) rfl rfl rfl mtC kI_ok zeroC rfl rfl rfl rfl rfl hres ?_
      obtain ⟨a, b, hab, hna⟩ := aget_split hres
      refine a_ent [14] [12, 13, 14] (clC x ++ [.ext (listA (clsC a ++ clsC b))]) rfl rfl (by rw [hab, clsC_app]; exact ent_focus (clsC a) (clC x) (clsC b)) ?_
      refine a_ret hT [10, 11, 12, 13, 14] rfl rfl rfl rfl rfl rfl ⟨_, ⟨by unfold floorP; rw [aget_plain, hres]; rfl, rfl⟩, (Ent.cons _ (Ent.cons _ ?_)).trans (tab_pack hmo rfl)⟩
      rw [hab, clsC_app]
      exact ent_unfocus (clsC a) (clC x) (clsC b)
def finishP (T : PT) (num tok st : Int) (bytes : List UInt8) : PT × Bool :=
  match aget T num with
  | none => (T, false)
  | some c => match aget c.ents tok with
    | none => (T, false)
    | some e => if e.done then (T, false) else (aput T num (PC.sweep ⟨c.floor, aput c.ents tok ⟨true, st, bytes⟩⟩), true)
set_option maxRecDepth 100000 in
/-- Finish. -/
theorem Finish_spec {g h h1 h2 h3 : Nat} {T : PT} {num tok st : Int} {bytes : List UInt8} (hw : wfT T) (hb : bytes.length ≤ lim) : FSpec Try.prog 38 [ptrA g h, .v (kI num) h1, .v (kU tok) h2, .v (kI st) h3, .d (A.bytesD bytes)] [.ext (tabA g T)]
    fun a cs => ∃ T', (a = .v (.bool (finishP T num tok st bytes).2) 0 ∧ T' = (finishP T num tok st bytes).1) ∧ cs = [.ext (tabA g T')] := by
  refine tab_spec fun mo cl hmo hp => ?_
  subst hp
  refine a_enter hT [ptrA g 10, .v (kI num) 0, .v (kU tok) 0, .v (kI st) 0, .d (A.bytesD bytes)] [10, 11, 14] Try.func38 rfl rfl rfl ⟨rfl, rfl, rfl, rfl, rfl, trivial⟩ fun c => ?_
  refine a_gf hT rfl rfl rfl rfl ?_
  cases mo with
  | none =>
    cases hmo rfl
    refine a_lookN hT num rfl rfl rfl mtC kI_ok zeroC rfl rfl ?_
    refine a_t hT rfl rfl rfl ?_
    exact a_ret hT [10, 11, 14] rfl rfl rfl rfl rfl rfl ⟨_, ⟨rfl, rfl⟩, tab_pack hmo rfl⟩
  | some m =>
    cases hres : aget cl num with
    | none =>
      refine a_lookG hT (kv := kI) (va := clV) cl num none rfl rfl rfl mtC kI_ok zeroC rfl rfl rfl rfl rfl hres ?_
      refine a_t hT rfl rfl rfl ?_
      have hf : finishP (plainT cl) num tok st bytes = (plainT cl, false) := by unfold finishP; rw [aget_plain, hres]; rfl
      exact a_ret hT [10, 11, 14] rfl rfl rfl rfl rfl rfl ⟨_, ⟨by rw [hf]; rfl, rfl⟩, by rw [hf]; exact tab_pack hmo rfl⟩
    | some x =>
      refine a_lookG hT (kv := kI) (va := clV) cl num (some x) rfl rfl rfl mtC kI_ok zeroC rfl rfl rfl rfl rfl hres ?_
      refine a_f hT rfl rfl rfl ?_
      refine a_lookG hT (kv := kI) (va := clV) cl num (some x) rfl rfl rfl mtC kI_ok zeroC rfl rfl rfl rfl rfl hres ?_
      obtain ⟨a, b, hab, hna⟩ := aget_split hres
      have hap : aget (plainT cl) num = some x.c := by rw [aget_plain, hres]; rfl
      have hwx := hw.at hap
      refine a_ent [14] [12, 13, 14] (clC x ++ [.ext (listA (clsC a ++ clsC b))]) rfl rfl (by rw [hab, clsC_app]; exact ent_focus (clsC a) (clC x) (clsC b)) ?_
      have back : Ent [tbBlk g (some m), mapC (some m) cl, clBlk x.gb x.r x.c.floor 13, .map x.r (mapG kU entAV x.c.ents), .ext (listA (clsC a ++ clsC b))] [.ext (tabA g (plainT cl))] := (Ent.cons _ (Ent.cons _ (by rw [hab, clsC_app]; exact ent_unfocus (clsC a) (clC x) (clsC b)))).trans (tab_pack hmo rfl)
      cases he : aget x.c.ents tok with
      | none =>
        refine a_lookG hT (kv := kU) (va := entAV) x.c.ents tok none rfl rfl rfl mtE kU_ok zeroE rfl rfl rfl rfl rfl he ?_
        refine a_new hT hZ 22 rfl rfl rfl rfl fun ge => ?_
        refine a_gt hT rfl rfl rfl rfl ?_
        refine a_t hT rfl rfl rfl ?_
        have hf : finishP (plainT cl) num tok st bytes = (plainT cl, false) := by unfold finishP; rw [hap]; simp only [he]
        exact a_ret hT [10, 11, 12, 13, 14] rfl rfl rfl rfl rfl rfl ⟨_, ⟨by rw [hf]; rfl, rfl⟩, by rw [hf]; exact back⟩
      | some e =>
        refine a_lookG hT (kv := kU) (va := entAV) x.c.ents tok (some e) rfl rfl rfl mtE kU_ok zeroE rfl rfl rfl rfl rfl he ?_
        refine a_new hT hZ 22 rfl rfl rfl rfl fun ge => ?_
        refine a_gf hT rfl rfl rfl rfl ?_
        refine a_if hT rfl rfl (fun hd => ?_) (fun hd => ?_)
        · have hf : finishP (plainT cl) num tok st bytes = (plainT cl, false) := by unfold finishP; rw [hap]; simp only [he]; rw [if_pos hd]
          exact a_ret hT [10, 11, 12, 13, 14] rfl rfl rfl rfl rfl rfl ⟨_, ⟨by rw [hf]; rfl, rfl⟩, by rw [hf]; exact back⟩
        · refine a_draw hT [] true [(0, false), (4, false), (5, false), (6, false), (1, false), (2, false), (3, false), (7, true), (8, true), (9, true)] rfl rfl (by kernel_rfl) (by kernel_rfl) rfl ?_
          refine a_call hT rfl rfl rfl (by kernel_rfl) (cloneF hb) [] [] rfl rfl ?_
          rintro _ _ ⟨rfl, rfl⟩
          refine a_build hT hZ [.v (.bool true) 0, .v (kI st) 0, .d (A.bytesD bytes)] rfl rfl rfl rfl rfl rfl ?_
          refine a_mputG hT (kv := kU) (va := entAV) x.c.ents tok ⟨true, st, bytes⟩ rfl rfl rfl mtE kU_ok rfl rfl rfl rfl rfl rfl ?_
          have hwa := hwx.add (tok := tok) (e := ⟨true, st, bytes⟩) hb
          refine a_call hT rfl rfl rfl (by kernel_rfl) (sweep_spec (gb := x.gb) (r := x.r) (h3 := 13) (floor := x.c.floor) hwa.nd) [12, 13] [12, 13] rfl rfl ?_
          rintro _ _ rfl
          have hf : finishP (plainT cl) num tok st bytes = (aput (plainT cl) num (PC.sweep ⟨x.c.floor, aput x.c.ents tok ⟨true, st, bytes⟩⟩), true) := by unfold finishP; rw [hap]; simp only [he]; rw [if_neg (by rw [hd]; simp)]
          refine a_ret hT [10, 11, 12, 13, 14] rfl rfl rfl rfl rfl rfl ⟨_, ⟨by rw [hf]; rfl, rfl⟩, ?_⟩
          rw [hf]
          have hcl : aput cl num ⟨x.gb, x.r, PC.sweep ⟨x.c.floor, aput x.c.ents tok ⟨true, st, bytes⟩⟩⟩ = a ++ (num, ⟨x.gb, x.r, PC.sweep ⟨x.c.floor, aput x.c.ents tok ⟨true, st, bytes⟩⟩⟩) :: b := by rw [hab, aput_mid hna]
          refine Ent.trans ?_ (tab_pack (mo := some m) (cl := aput cl num ⟨x.gb, x.r, PC.sweep ⟨x.c.floor, aput x.c.ents tok ⟨true, st, bytes⟩⟩⟩) (by simp) (plain_aput _ _ _))
          unfold tabR
          rw [mapC_aput _ hres]
          refine Ent.cons _ (Ent.cons _ ?_)
          rw [hcl, clsC_app]
          exact ent_unfocus (clsC a) (clC ⟨x.gb, x.r, PC.sweep ⟨x.c.floor, aput x.c.ents tok ⟨true, st, bytes⟩⟩⟩) (clsC b)
def revokeP (T : PT) (num tok fl : Int) : PT × Bool :=
  if (offerP T num tok fl ⟨true, 1, []⟩).2.kind = 1 then ((offerP T num tok fl ⟨true, 1, []⟩).1, true)
  else if (offerP T num tok fl ⟨true, 1, []⟩).2.kind = 2 then finishP (offerP T num tok fl ⟨true, 1, []⟩).1 num tok 1 []
  else ((offerP T num tok fl ⟨true, 1, []⟩).1, false)
/-- Revoke. -/
theorem Revoke_spec {g h h1 h2 h3 : Nat} {T : PT} {num tok fl : Int} (hw : wfT T) (ht1 : 0 ≤ tok) (ht2 : tok < 18446744073709551616) (hf1 : 0 ≤ fl) :
    FSpec Try.prog 39 [ptrA g h, .v (kI num) h1, .v (kU tok) h2, .v (kU fl) h3] [.ext (tabA g T)] fun a cs => ∃ T', (a = .v (.bool (revokeP T num tok fl).2) 0 ∧ T' = (revokeP T num tok fl).1) ∧ cs = [.ext (tabA g T')] := by
  refine a_enter hT [ptrA g 10, .v (kI num) 0, .v (kU tok) 0, .v (kU fl) 0] [10] Try.func39 rfl rfl rfl ⟨rfl, rfl, rfl, rfl, trivial⟩ fun c => ?_
  refine a_f hT rfl rfl rfl ?_
  refine a_build hT hZ [.v (.bool true) 0, .v (kI 1) 0, nilA] rfl rfl rfl rfl rfl rfl ?_
  refine a_callF hT rfl rfl rfl (by kernel_rfl) (offer_spec (g := g) (h := 10) (h1 := 0) (h2 := 0) (h3 := 0) (fresh := ⟨true, 1, []⟩) hw ht1 ht2 hf1) [10] [10, 21] ⟨rfl, rfl, rfl, rfl, ⟨rfl, rfl, ⟨rfl, rfl⟩, trivial⟩, trivial⟩ rfl ⟨rfl, trivial⟩ ?_
  have hw2 := offer_wf hw num tok fl (fresh := ⟨true, 1, []⟩) (by simp)
  generalize hr : offerP T num tok fl ⟨true, 1, []⟩ = r at hw2
  have hrev : revokeP T num tok fl = if r.2.kind = 1 then (r.1, true) else if r.2.kind = 2 then finishP r.1 num tok 1 [] else (r.1, false) := by unfold revokeP; rw [hr]
  rintro _ _ (⟨hk, rfl, rfl⟩ | ⟨hk, x, rfl, rfl⟩)
  · refine a_if hT rfl rfl (fun h1 => ?_) (fun h1 => ?_)
    · have h1' : r.2.kind = 1 := of_decide_eq_true h1
      exact a_ret hT [10] rfl rfl rfl rfl rfl rfl ⟨_, ⟨by rw [hrev, if_pos h1']; rfl, rfl⟩, by rw [hrev, if_pos h1']⟩
    · have h1' : ¬ r.2.kind = 1 := of_decide_eq_false h1
      refine a_if hT rfl rfl (fun h2 => ?_) (fun h2 => ?_)
      · have h2' : r.2.kind = 2 := of_decide_eq_true h2
        refine a_callF hT rfl rfl rfl (by kernel_rfl) (Finish_spec (g := g) (h := 10) (h1 := 0) (h2 := 0) (h3 := 0) (num := num) (tok := tok) (st := 1) (bytes := []) hw2 (by simp)) [10] [10] ⟨rfl, rfl, rfl, rfl, ⟨rfl, rfl⟩, trivial⟩ rfl ⟨rfl, trivial⟩ ?_
        rintro _ _ ⟨T', ⟨rfl, rfl⟩, rfl⟩
        exact a_ret hT [10] rfl rfl rfl rfl rfl rfl ⟨_, ⟨by rw [hrev, if_neg h1', if_pos h2']; rfl, rfl⟩, by rw [hrev, if_neg h1', if_pos h2']⟩
      · have h2' : ¬ r.2.kind = 2 := of_decide_eq_false h2
        exact a_ret hT [10] rfl rfl rfl rfl rfl rfl ⟨_, ⟨by rw [hrev, if_neg h1', if_neg h2']; rfl, rfl⟩, by rw [hrev, if_neg h1', if_neg h2']⟩
  · have h1' : ¬ r.2.kind = 1 := by rw [hk]; decide
    have h2' : ¬ r.2.kind = 2 := by rw [hk]; decide
    refine a_f hT rfl rfl rfl ?_
    refine a_f hT rfl rfl rfl ?_
    exact a_ret hT [10] rfl rfl rfl rfl rfl rfl ⟨_, ⟨by rw [hrev, if_neg h1', if_neg h2']; rfl, rfl⟩, by rw [hrev, if_neg h1', if_neg h2']⟩
end Go.Proofs.Ytdconcindpfmcaa
end

section
/- Layer 19: what the laws use: Len, Offer where the answer is known, awake. -/
set_option linter.unusedVariables false
set_option linter.unusedSimpArgs false
namespace Go.Proofs.Ytdconcindpfmcaa
open V A
theorem wfT.nil : wfT [] := ⟨by simp, by simp, by simp, by decide, by simp⟩
theorem Len_spec {g h : Nat} {T : PT} : FSpec Try.prog 58 [ptrA g h] [.ext (tabA g T)] fun a cs => ∃ T', (a = i64w (lenT T) ∧ T' = T) ∧ cs = [.ext (tabA g T')] := by
  refine tab_spec fun mo cl hmo hp => ?_
  subst hp
  refine (len_spec (g := g) (h := h) hmo).mono fun a cs ⟨h1, h2⟩ => ⟨_, ⟨h1, rfl⟩, by rw [h2]; exact tab_pack hmo rfl⟩
def fr0 : DE := ⟨false, 0, []⟩
theorem Offer_at {g h h1 h2 h3 : Nat} {T T' : PT} {num tok fl k : Int} (hw : wfT T) (ht1 : 0 ≤ tok) (ht2 : tok < 18446744073709551616) (hf1 : 0 ≤ fl) (hof : offerP T num tok fl fr0 = (T', ⟨k, 0, []⟩)) (hk : k ≠ 3) :
    FSpec Try.prog 33 [ptrA g h, .v (kI num) h1, .v (kU tok) h2, .v (kU fl) h3] [.ext (tabA g T)] fun a cs => a = .agg [.v (kI k) 0, .v (kI 0) 0, nilA] ∧ cs = [.ext (tabA g T')] := by
  refine (Offer_spec hw ht1 ht2 hf1).mono fun a cs hR => ?_
  rw [show (⟨false, 0, []⟩ : DE) = fr0 from rfl, hof] at hR
  rcases hR with ⟨_, rfl, rfl⟩ | ⟨hk', _⟩
  · exact ⟨rfl, rfl⟩
  · exact absurd hk' hk
/-- The first call of a client. -/
theorem offer_first (num f : Int) (hf : 1 ≤ f) : offerP [] num f f fr0 = ([(num, ⟨f, [(f, fr0)]⟩)], ⟨1, 0, []⟩) := by
  have e : PC.up ⟨1, []⟩ f f = ⟨f, []⟩ := by
    unfold PC.up PC.sweep mx mn
    simp only [List.filter_nil, PC.mk.injEq, and_true]
    split <;> split <;> omega
  unfold offerP offerC
  rw [e]
  simp [aget, lenT, aput]
theorem awake_spec : FSpec Try.prog 31 [] [] fun a cs => a = .v (.bool true) 0 ∧ cs = [] := by
  refine a_enter hT [] [] Try.func31 rfl rfl rfl trivial fun c => ?_
  refine a_call hT rfl rfl rfl (by kernel_rfl) new_spec [] [10] rfl rfl ?_
  rintro _ _ ⟨g, rfl, rfl⟩
  refine a_call hT rfl rfl rfl (by kernel_rfl) (Offer_at (T' := [(1, ⟨1, [(5, fr0)]⟩)]) (num := 1) (tok := 5) (fl := 1) (k := 1) wfT.nil (by decide) (by decide) (by decide) (by rfl) (by decide)) [10] [10] rfl rfl ?_
  rintro _ _ ⟨rfl, rfl⟩
  refine a_gt hT rfl rfl rfl rfl ?_
  refine a_call hT rfl rfl rfl (by kernel_rfl) Len_spec [10] [10] rfl rfl ?_
  rintro _ _ ⟨_, ⟨rfl, rfl⟩, rfl⟩
  exact a_ret hT [] rfl rfl rfl rfl rfl rfl ⟨rfl, rfl⟩
end Go.Proofs.Ytdconcindpfmcaa
end

section
/- Small things: truth as a value, numbers that wrap to themselves. -/
set_option linter.unusedVariables false
set_option linter.unusedSimpArgs false
namespace Go.Proofs.Ytdconcindpfmcaa
open V A
def bA (b : Bool) : AV := .v (.bool b) 0
theorem bA_t {p : Prop} [Decidable p] {cs : List Chunk} (h : p) : AV.v (.bool true) 0 = bA (decide p) ∧ cs = cs := ⟨by rw [decide_eq_true h]; rfl, rfl⟩
theorem bA_f {p : Prop} [Decidable p] {cs : List Chunk} (h : ¬ p) : AV.v (.bool false) 0 = bA (decide p) ∧ cs = cs := ⟨by rw [decide_eq_false h]; rfl, rfl⟩
theorem w64 {x : Int} (h1 : -9223372036854775808 ≤ x) (h2 : x < 9223372036854775808) : IntKind.i64.wrap x = x := by
  unfold IntKind.wrap
  simp [IntKind.bits, IntKind.signed]
  omega
theorem wrapU {x : Int} (h1 : 0 ≤ x) (h2 : x < 18446744073709551616) : IntKind.u64.wrap x = x := by
  unfold IntKind.wrap
  simp [IntKind.bits, IntKind.signed]
  omega
end Go.Proofs.Ytdconcindpfmcaa
end
