import Derived.Test.YtepjnmocepkfjaaProg
import Derived.Test.YtepjnmocepkfjaaQClientPlays0
import Derived.Test.YtepjnmocepkfjaaQClientPlays4
import Derived.Test.YtepjnmocepkfjaaQClientPlays5
section
/- What the machine knows of the types, and that it is so. -/
namespace Go.Proofs.Ytepjnmocepkfjaa
open V
def T : List TD := [
  .non, .fn, .int .i64, .int .i64, .bool, .int .u8, .int .u8, .agg 4 [(0, 1, false), (1, 1, false), (2, 1, false), (3, 1, false)],
  .agg 4 [(0, 1, false), (1, 1, false), (2, 1, false), (3, 1, false)], .str, .str, .str, .int .u64, .agg 2 [(0, 1, false), (1, 1, false)], .agg 2 [(0, 1, false), (1, 1, false)], .ptr,
  .ptr, .ptr, .agg 1 [(0, 1, false)], .agg 1 [(0, 1, false)], .ifc, .int .i32, .fn, .ptr,
  .fn, .int .u64, .sl 5 1, .agg 6 [(0, 1, false), (1, 1, false), (2, 1, false), (3, 1, false), (4, 1, false), (5, 1, false)], .agg 6 [(0, 1, false), (1, 1, false), (2, 1, false), (3, 1, false), (4, 1, false), (5, 1, false)], .agg 9 [(0, 1, false), (1, 1, false), (2, 1, false), (3, 1, false), (4, 1, false), (5, 1, false), (6, 1, false), (7, 1, false), (8, 1, false)], .agg 9 [(0, 1, false), (1, 1, false), (2, 1, false), (3, 1, false), (4, 1, false), (5, 1, false), (6, 1, false), (7, 1, false), (8, 1, false)], .int .i64,
  .non, .fn, .non, .fn, .fn, .fn, .int .u16, .sl 28 6,
  .sl 30 9, .non, .fn, .fn, .sl 25 1, .fn, .fn, .sl 50 15,
  .fn, .agg 15 [(0, 1, false), (1, 1, false), (2, 1, false), (3, 1, false), (4, 1, false), (5, 1, false), (6, 9, true)], .agg 15 [(0, 1, false), (1, 1, false), (2, 1, false), (3, 1, false), (4, 1, false), (5, 1, false), (6, 9, true)], .fn, .non, .fn, .ptr, .sl 93 6,
  .agg 3 [(0, 1, false), (1, 1, false), (2, 1, false)], .agg 3 [(0, 1, false), (1, 1, false), (2, 1, false)], .fn, .fn, .non, .fn, .fn, .fn,
  .map, .ptr, .fn, .agg 4 [(0, 1, false), (1, 1, false), (2, 1, false), (3, 1, false)], .agg 4 [(0, 1, false), (1, 1, false), (2, 1, false), (3, 1, false)], .ptr, .fn, .agg 6 [(0, 1, false), (1, 1, false), (2, 1, false), (3, 1, false), (4, 1, false), (5, 1, false)],
  .agg 6 [(0, 1, false), (1, 1, false), (2, 1, false), (3, 1, false), (4, 1, false), (5, 1, false)], .fn, .fn, .fn, .fn, .non, .fn, .fn,
  .sl 69 1, .fn, .fn, .fn, .fn, .fn, .sl 3 1, .fn,
  .fn, .fn, .fn, .fn, .agg 6 [(0, 1, false), (1, 1, false), (2, 1, false), (3, 1, false), (4, 1, false), (5, 1, false)], .agg 6 [(0, 1, false), (1, 1, false), (2, 1, false), (3, 1, false), (4, 1, false), (5, 1, false)], .sl 99 1, .sl 99 1,
  .map, .agg 2 [(0, 1, false), (1, 1, false)], .agg 2 [(0, 1, false), (1, 1, false)], .ptr, .non, .agg 3 [(0, 1, false), (1, 1, false), (2, 1, false)], .agg 3 [(0, 1, false), (1, 1, false), (2, 1, false)], .fn,
  .ptr, .fn, .fn, .fn, .fn, .fn, .int .u64, .fn,
  .fn, .fn, .fn, .fn, .fn, .ifc, .ifc, .fn,
  .fn, .fn, .fn, .fn, .fn, .int .i64, .non, .fn,
  .fn, .fn, .fn, .non, .fn, .fn, .int .u32, .fn,
  .fn, .int .u64, .fn, .fn, .ptr, .fn, .ptr, .non,
  .fn, .fn, .agg 4 [(0, 1, false), (1, 1, false), (2, 1, false), (3, 1, false)], .agg 4 [(0, 1, false), (1, 1, false), (2, 1, false), (3, 1, false)], .arr 0 16 1, .non, .non, .int .u8,
  .int .u8, .fn, .ptr, .int .i32, .int .i32, .agg 11 [(0, 1, false), (1, 1, false), (2, 1, false), (3, 1, false), (4, 1, false), (5, 1, false), (6, 1, false), (7, 1, false), (8, 1, false), (9, 1, false), (10, 1, false)], .agg 11 [(0, 1, false), (1, 1, false), (2, 1, false), (3, 1, false), (4, 1, false), (5, 1, false), (6, 1, false), (7, 1, false), (8, 1, false), (9, 1, false), (10, 1, false)], .non]
set_option maxRecDepth 100000 in
theorem hT : TOk Try.prog T := TOk.of (by kernel_rfl)
end Go.Proofs.Ytepjnmocepkfjaa
end

section
/- The zero values of a seat's types, and that they are so. -/
namespace Go.Proofs.Ytepjnmocepkfjaa
open V A
def Z : List (List Value) := [
  [], [.nilFunc], [.int .i64 0], [.int .i64 0], [.bool false], [.int .u8 0], [.int .u8 0], [.int .i64 0, .int .i64 0, .bool false, .int .u8 0],
  [.int .i64 0, .int .i64 0, .bool false, .int .u8 0], [.string ByteArray.empty], [.string ByteArray.empty], [.string ByteArray.empty], [.int .u64 0], [.string ByteArray.empty, .int .u64 0], [.string ByteArray.empty, .int .u64 0], [.pointer none],
  [.pointer none], [.pointer none], [.pointer none], [.pointer none], [.nilIface], [.int .i32 0], [.nilFunc], [.pointer none],
  [.nilFunc], [.int .u64 0], [.slice none 0 0], [.int .i64 0, .int .i64 0, .int .u64 0, .int .i64 0, .int .i64 0, .slice none 0 0], [.int .i64 0, .int .i64 0, .int .u64 0, .int .i64 0, .int .i64 0, .slice none 0 0], [.int .i64 0, .int .i64 0, .int .u64 0, .int .i64 0, .int .u64 0, .int .i64 0, .int .i64 0, .int .i64 0, .slice none 0 0], [.int .i64 0, .int .i64 0, .int .u64 0, .int .i64 0, .int .u64 0, .int .i64 0, .int .i64 0, .int .i64 0, .slice none 0 0], [.int .i64 0],
  [], [.nilFunc], [], [.nilFunc], [.nilFunc], [.nilFunc], [.int .u16 0], [.slice none 0 0],
  [.slice none 0 0], [], [.nilFunc], [.nilFunc], [.slice none 0 0], [.nilFunc], [.nilFunc], [.slice none 0 0],
  [.nilFunc], [.int .i64 0, .int .i64 0, .int .u64 0, .int .i64 0, .int .i64 0, .slice none 0 0, .int .i64 0, .int .i64 0, .int .u64 0, .int .i64 0, .int .u64 0, .int .i64 0, .int .i64 0, .int .i64 0, .slice none 0 0], [.int .i64 0, .int .i64 0, .int .u64 0, .int .i64 0, .int .i64 0, .slice none 0 0, .int .i64 0, .int .i64 0, .int .u64 0, .int .i64 0, .int .u64 0, .int .i64 0, .int .i64 0, .int .i64 0, .slice none 0 0], [.nilFunc], [], [.nilFunc], [.pointer none], [.slice none 0 0],
  [.int .i64 0, .int .u64 0, .slice none 0 0], [.int .i64 0, .int .u64 0, .slice none 0 0], [.nilFunc], [.nilFunc], [], [.nilFunc], [.nilFunc], [.nilFunc],
  [.map none], [.pointer none], [.nilFunc], [.int .i64 0, .int .u64 0, .map none, .pointer none], [.int .i64 0, .int .u64 0, .map none, .pointer none], [.pointer none], [.nilFunc], [.int .u64 0, .int .i64 0, .slice none 0 0, .int .i64 0, .int .i64 0, .int .i64 0],
  [.int .u64 0, .int .i64 0, .slice none 0 0, .int .i64 0, .int .i64 0, .int .i64 0], [.nilFunc], [.nilFunc], [.nilFunc], [.nilFunc], [], [.nilFunc], [.nilFunc],
  [.slice none 0 0], [.nilFunc], [.nilFunc], [.nilFunc], [.nilFunc], [.nilFunc], [.slice none 0 0], [.nilFunc],
  [.nilFunc], [.nilFunc], [.nilFunc], [.nilFunc], [.int .u64 0, .int .i64 0, .slice none 0 0, .int .i64 0, .int .i64 0, .int .i64 0], [.int .u64 0, .int .i64 0, .slice none 0 0, .int .i64 0, .int .i64 0, .int .i64 0], [.slice none 0 0], [.slice none 0 0],
  [.map none], [.slice none 0 0, .map none], [.slice none 0 0, .map none], [.pointer none], [], [.int .u64 0, .int .i64 0, .int .i64 0], [.int .u64 0, .int .i64 0, .int .i64 0], [.nilFunc],
  [.pointer none], [.nilFunc], [.nilFunc], [.nilFunc], [.nilFunc], [.nilFunc], [.int .u64 0], [.nilFunc],
  [.nilFunc], [.nilFunc], [.nilFunc], [.nilFunc], [.nilFunc], [.nilIface], [.nilIface], [.nilFunc],
  [.nilFunc], [.nilFunc], [.nilFunc], [.nilFunc], [.nilFunc], [.int .i64 0], [], [.nilFunc],
  [.nilFunc], [.nilFunc], [.nilFunc], [], [.nilFunc], [.nilFunc], [.int .u32 0], [.nilFunc],
  [.nilFunc], [.int .u64 0], [.nilFunc], [.nilFunc], [.pointer none], [.nilFunc], [.pointer none], [],
  [.nilFunc], [.nilFunc], [.pointer none, .pointer none, .pointer none, .string ByteArray.empty], [.pointer none, .pointer none, .pointer none, .string ByteArray.empty], [], [], [], [.int .u8 0],
  [.int .u8 0], [.nilFunc], [.pointer none], [.int .i32 0], [.int .i32 0], [.int .u64 0, .int .u64 0, .int .u32 0, .int .u8 0, .int .u8 0, .int .u8 0, .int .u8 0, .nilFunc, .pointer none, .int .i32 0, .int .i32 0], [.int .u64 0, .int .u64 0, .int .u32 0, .int .u8 0, .int .u8 0, .int .u8 0, .int .u8 0, .nilFunc, .pointer none, .int .i32 0, .int .i32 0], [.pointer none]]
set_option maxRecDepth 100000 in
theorem hZ : ZOk Try.prog Z := ZOk.of (by kernel_rfl)
end Go.Proofs.Ytepjnmocepkfjaa
end

section
/- Lists by keys, plain; keys that are numbers. -/
set_option linter.unusedVariables false
set_option linter.unusedSimpArgs false
namespace Go.Proofs.Ytepjnmocepkfjaa
open V A
def kU (n : Int) : Value := .int .u64 n
def kI (n : Int) : Value := .int .i64 n
theorem kU_ok : KeyOk Try.prog 25 kU := key_int (by kernel_rfl)
theorem kI_ok : KeyOk Try.prog 3 kI := key_int (by kernel_rfl)
def ptrA (g h : Nat) : AV := .v (.pointer (some ⟨g, 0, none⟩)) h

theorem filter_erase {α : Type} {p : α → Bool} : ∀ {l : List α} {i : Nat} {x : α}, l[i]? = some x → p x = false → (l.eraseIdx i).filter p = l.filter p
  | [], i, x, h, hp => by simp at h
  | y :: l, 0, x, h, hp => by simp at h; subst h; simp [hp]
  | y :: l, i + 1, x, h, hp => by
    have := filter_erase (l := l) (i := i) (by simpa using h) hp
    simp only [List.eraseIdx_cons_succ, List.filter_cons, this]
theorem map_set_same {α β : Type} (g : α → β) {l : List α} {i : Nat} {x y : α} (h : l[i]? = some x) (e : g y = g x) : (l.set i y).map g = l.map g := by
  rw [List.map_set, e]
  apply List.ext_getElem?
  intro j
  rw [List.getElem?_set]
  split
  · rename_i hij; subst hij; have := (List.getElem?_eq_some_iff.1 h).1; rw [List.length_map, if_pos this, List.getElem?_map, h]; rfl
  · rfl
theorem aget_split {β : Type} : ∀ {l : List (Int × β)} {k : Int} {v : β}, aget l k = some v → ∃ a b, l = a ++ (k, v) :: b ∧ ∀ p ∈ a, p.1 ≠ k
  | [], k, v, h => by simp [aget] at h
  | (j, u) :: l, k, v, h => by
    unfold aget at h
    split at h
    · rename_i e
      subst e
      cases h
      exact ⟨[], l, rfl, by simp⟩
    · rename_i e
      obtain ⟨a, b, rfl, hn⟩ := aget_split h
      exact ⟨(j, u) :: a, b, rfl, fun p hp => by rcases List.mem_cons.1 hp with rfl | hp; exact e; exact hn p hp⟩
theorem aput_mid {β : Type} {k : Int} {u v : β} : ∀ {a b : List (Int × β)}, (∀ p ∈ a, p.1 ≠ k) → aput (a ++ (k, u) :: b) k v = a ++ (k, v) :: b
  | [], b, h => by simp [aput]
  | p :: a, b, h => by
    have h1 := h p (by simp)
    rw [List.cons_append, aput, if_neg h1, aput_mid fun q hq => h q (by simp [hq])]
    rfl
theorem aput_new {β : Type} {k : Int} {v : β} : ∀ {a : List (Int × β)}, aget a k = none → aput a k v = a ++ [(k, v)]
  | [], h => rfl
  | (j, u) :: a, h => by
    unfold aget at h
    split at h
    · cases h
    · rename_i e
      rw [aput, if_neg e, aput_new h]
      rfl
theorem aget_mem {β : Type} {l : List (Int × β)} {k : Int} {v : β} (h : aget l k = some v) : (k, v) ∈ l := by
  obtain ⟨a, b, rfl, _⟩ := aget_split h
  simp
theorem aget_nomem {β : Type} : ∀ {l : List (Int × β)} {k : Int}, aget l k = none → k ∉ l.map (·.1)
  | [], k, h => by simp
  | (j, u) :: l, k, h => by
    unfold aget at h
    split at h
    · cases h
    · rename_i e
      rw [List.map_cons, List.mem_cons, not_or]
      exact ⟨fun h => e h.symm, aget_nomem h⟩
theorem mem_aput {β : Type} : ∀ {l : List (Int × β)} {k : Int} {v : β} {p : Int × β}, p ∈ aput l k v → p = (k, v) ∨ p ∈ l
  | [], k, v, p, h => by simp [aput] at h; exact .inl h
  | (j, u) :: l, k, v, p, h => by
    unfold aput at h
    split at h
    · rename_i e
      subst e
      rcases List.mem_cons.1 h with h | h
      · exact .inl h
      · exact .inr (List.mem_cons_of_mem _ h)
    · rcases List.mem_cons.1 h with h | h
      · exact .inr (by rw [h]; simp)
      · exact (mem_aput h).imp id (List.mem_cons_of_mem _)
theorem nodup_aput {β : Type} {l : List (Int × β)} {k : Int} {v : β} (h : (l.map (·.1)).Nodup) : ((aput l k v).map (·.1)).Nodup := by
  cases hg : aget l k with
  | some u =>
    obtain ⟨a, b, rfl, hn⟩ := aget_split hg
    rw [aput_mid hn]
    simpa using h
  | none =>
    rw [aput_new hg, List.map_append, List.nodup_append]
    refine ⟨h, by simp, fun x hx y hy => ?_⟩
    simp at hy
    subst hy
    exact fun e => aget_nomem hg (e ▸ hx)
theorem aput_len_new {β : Type} {l : List (Int × β)} {k : Int} {v : β} (h : aget l k = none) : (aput l k v).length = l.length + 1 := by rw [aput_new h]; simp
theorem aget_aput {β : Type} : ∀ {l : List (Int × β)} {k j : Int} {v : β}, aget (aput l k v) j = if k = j then some v else aget l j
  | [], k, j, v => by simp [aput, aget]
  | (i, u) :: l, k, j, v => by
    unfold aput
    by_cases h : i = k
    · subst h
      rw [if_pos rfl]
      by_cases hj : i = j
      · simp [aget, hj]
      · simp [aget, hj]
    · rw [if_neg h]
      by_cases hj : i = j
      · subst hj
        have : ¬ k = i := fun e => h e.symm
        simp [aget, this]
      · simp only [aget, hj, if_false]
        rw [aget_aput]
theorem aget_filter {β : Type} {p : Int × β → Bool} : ∀ {l : List (Int × β)} {t : Int} {e : β}, aget l t = some e → p (t, e) = true → aget (l.filter p) t = some e
  | [], t, e, h, hp => by simp [aget] at h
  | (i, u) :: l, t, e, h, hp => by
    unfold aget at h
    split at h
    · rename_i hi
      subst hi
      cases h
      rw [List.filter_cons, if_pos hp, aget, if_pos rfl]
    · rename_i hi
      rw [List.filter_cons]
      split
      · rw [aget, if_neg hi]; exact aget_filter h hp
      · exact aget_filter h hp
theorem aput_len_same {β : Type} {l : List (Int × β)} {k : Int} {u v : β} (h : aget l k = some u) : (aput l k v).length = l.length := by
  obtain ⟨a, b, rfl, hn⟩ := aget_split h
  rw [aput_mid hn]
  simp

end Go.Proofs.Ytepjnmocepkfjaa
end

section
/- Layer 17's queue in memory: Len, Less, Swap. -/
set_option linter.unusedVariables false
set_option linter.unusedSimpArgs false
namespace Go.Proofs.Ytepjnmocepkfjaa
open V A
structure QE where
  b : Nat
  key : Int
  due : Int
def ltE (x y : QE) : Bool := if x.due ≠ y.due then decide (x.due < y.due) else decide (x.key < y.key)
def ptrB (b : Nat) : Value := .pointer (some ⟨b, 0, none⟩)
def pB (e : QE) : List A.Dat := [.v (ptrB e.b)]
def rowP (v : Value) (q : List QE) : Chunk := .row v 99 1 (q.map pB)
def entC (i : Nat) (e : QE) : Chunk := .blk e.b 102 [.v (kU e.key) 0, .v (kI e.due) 0, .v (kI i) 0]
def entsL (q : List QE) : List Chunk := q.mapIdx entC
def entsC (q : List QE) : Chunk := .ext (listA (entsL q))
theorem entsL_get (q : List QE) (i : Nat) : (entsL q)[i]? = q[i]?.map (entC i) := by unfold entsL; rw [List.getElem?_mapIdx]
theorem entsL_len (q : List QE) : (entsL q).length = q.length := by unfold entsL; rw [List.length_mapIdx]
theorem perm_set {α : Type} : ∀ (l : List α) (i : Nat) (a : α), i < l.length → (l.set i a).Perm (a :: l.eraseIdx i)
  | [], i, a, h => by simp at h
  | x :: l, 0, a, h => by simp
  | x :: l, i + 1, a, h => by
    rw [List.set_cons_succ, List.eraseIdx_cons_succ]
    exact (List.Perm.cons x (perm_set l i a (by simpa using h))).trans (List.Perm.swap a x _)
/-- Two of many. -/
theorem perm_two {α : Type} : ∀ (l : List α) (i j : Nat), i < l.length → j < l.length → i ≠ j → ∃ r, ∀ a b, ((l.set i a).set j b).Perm (a :: b :: r)
  | [], i, j, h, _, _ => by simp at h
  | x :: l, 0, 0, _, _, h => by simp at h
  | x :: l, 0, j + 1, h1, h2, h3 => by
    have hj : j < l.length := by simpa using h2
    refine ⟨l.eraseIdx j, fun a b => ?_⟩
    rw [List.set_cons_zero, List.set_cons_succ]
    refine List.Perm.cons a ?_
    exact perm_set l j b hj
  | x :: l, i + 1, 0, h1, h2, h3 => by
    have hi : i < l.length := by simpa using h1
    refine ⟨l.eraseIdx i, fun a b => ?_⟩
    rw [List.set_cons_succ, List.set_cons_zero]
    exact (List.Perm.cons b (perm_set l i a hi)).trans (List.Perm.swap a b _)
  | x :: l, i + 1, j + 1, h1, h2, h3 => by
    obtain ⟨r, hr⟩ := perm_two l i j (by simpa using h1) (by simpa using h2) (by omega)
    refine ⟨x :: r, fun a b => ?_⟩
    rw [List.set_cons_succ, List.set_cons_succ]
    exact ((List.Perm.cons x (hr a b)).trans (List.Perm.swap a x _)).trans (List.Perm.cons a (List.Perm.swap b x _))
theorem set_two_same {α : Type} {l : List α} {i j : Nat} {a b : α} (h1 : l[i]? = some a) (h2 : l[j]? = some b) : (l.set i a).set j b = l := by
  apply List.ext_getElem?
  intro k
  have hi := (List.getElem?_eq_some_iff.1 h1).1
  have hj := (List.getElem?_eq_some_iff.1 h2).1
  rw [List.getElem?_set, List.getElem?_set, List.length_set]
  split
  · rename_i e; subst e; rw [h2]
  · split
    · rename_i e; subst e; rw [h1]
    · rfl
/-- Two entries are taken out. -/
theorem ents_two {q : List QE} {i j : Nat} (hi : i < q.length) (hj : j < q.length) (hne : i ≠ j) : ∃ r, Ent [entsC q] [entC i q[i], entC j q[j], .ext (listA r)] ∧ ∀ a b, Ent [entC i a, entC j b, .ext (listA r)] [entsC ((q.set i a).set j b)] := by
  obtain ⟨r, hr⟩ := perm_two (entsL q) i j (by rw [entsL_len]; exact hi) (by rw [entsL_len]; exact hj) hne
  refine ⟨r, ?_, fun a b => ?_⟩
  · have h := hr (entC i q[i]) (entC j q[j])
    rw [set_two_same (by rw [entsL_get, List.getElem?_eq_getElem hi]; rfl) (by rw [entsL_get, List.getElem?_eq_getElem hj]; rfl)] at h
    exact (ent_open _).trans ((Ent.perm h).trans (Ent.cons _ (Ent.cons _ (ent_shut _))))
  · have h := (hr (entC i a) (entC j b)).symm
    have e : ((entsL q).set i (entC i a)).set j (entC j b) = entsL ((q.set i a).set j b) := by
      apply List.ext_getElem?
      intro k
      rw [entsL_get, List.getElem?_set, List.getElem?_set, List.getElem?_set, List.getElem?_set, entsL_get]
      simp only [List.length_set, entsL_len]
      split
      · rename_i e; subst e; rfl
      · split
        · rename_i e; subst e; rfl
        · rfl
    rw [e] at h
    exact (Ent.cons _ (Ent.cons _ (ent_open _))).trans ((Ent.perm h).trans (ent_shut _))
def nA (n : Nat) : AV := .v (.int .i64 n) 0
theorem qlen_spec {v : Value} {h : Nat} {q : List QE} : FSpec Try.prog 104 [.row v h] [rowP v q] fun a cs => a = nA q.length ∧ cs = [rowP v q] := by
  refine a_enter hT [.row v 30] [30] Try.func104 rfl rfl rfl ⟨rfl, trivial⟩ fun c => ?_
  refine a_ret hT [30] rfl rfl rfl rfl rfl rfl ⟨?_, rfl⟩
  show AV.v (.int .i64 ((q.map pB).length : Int)) 0 = .v (.int .i64 (q.length : Int)) 0
  rw [List.length_map]
set_option maxRecDepth 100000 in
theorem less_spec {v : Value} {h h1 h2 : Nat} {q : List QE} {i j : Nat} (hi : i < q.length) (hj : j < q.length) (hne : i ≠ j) : FSpec Try.prog 105 [.row v h, .v (.int .i64 i) h1, .v (.int .i64 j) h2] [rowP v q, entsC q] fun a cs => a = .v (.bool (ltE q[i] q[j])) 0 ∧ cs = [rowP v q, entsC q] := by
  obtain ⟨r, ho, hs⟩ := ents_two hi hj hne
  have hs := hs q[i] q[j]
  rw [set_two_same (List.getElem?_eq_getElem hi) (List.getElem?_eq_getElem hj)] at hs
  refine FSpec.weak (R := fun a cs => a = .v (.bool (ltE q[i] q[j])) 0 ∧ Ent cs [rowP v q, entsC q]) ?_ fun a cs ⟨h1, h2⟩ => ⟨a, [rowP v q, entsC q], [], Fit.refl _, h2, h1, rfl⟩
  refine a_enter hT [.row v 30, nA i, nA j] [30, 32] Try.func105 rfl rfl rfl ⟨rfl, rfl, rfl, trivial⟩ fun c => ?_
  refine a_rowfact 30 rfl rfl fun hf => ?_
  rcases hf with ⟨_, hf⟩ | ⟨gr, cap, rfl⟩
  · simp at hf; subst hf; simp at hi
  refine a_ent [32] [40, 41, 32] _ rfl rfl ho ?_
  have ei : (q.map pB)[i]? = some (pB q[i]) := by simp [hi]
  have ej : (q.map pB)[j]? = some (pB q[j]) := by simp [hj]
  have hil : i < (q.map pB).length := by simpa using hi
  have hjl : j < (q.map pB).length := by simpa using hj
  refine a_draw hT [] false [(0, false), (1, false), (7, false), (8, false), (2, false), (9, false), (3, false), (10, false), (4, false), (11, false), (5, false), (12, false), (6, false), (13, false), (14, false)] rfl rfl (by kernel_rfl) (by kernel_rfl) rfl ?_
  refine a_rix hT i rfl rfl rfl rfl rfl rfl rfl hil ?_
  refine a_rix hT j rfl rfl rfl rfl rfl rfl rfl hjl ?_
  refine a_rldP hT i 0 (pB q[i]) (.d (.v (ptrB q[i].b))) rfl rfl rfl rfl rfl rfl (by omega) ei rfl ?_
  refine a_as 10 (b := .v (ptrB q[i].b) 40) rfl rfl ?_
  refine a_rldP hT j 0 (pB q[j]) (.d (.v (ptrB q[j].b))) rfl rfl rfl rfl rfl rfl (by omega) ej rfl ?_
  refine a_as 17 (b := .v (ptrB q[j].b) 41) rfl rfl ?_
  refine a_if hT rfl rfl (fun hd => ?_) (fun hd => ?_)
  · have hd' : q[i].due ≠ q[j].due := by simpa using hd
    refine a_draw hT [] false [(0, false), (1, false), (7, false), (8, false), (2, false), (9, false), (3, false), (10, false), (4, false), (11, false), (5, false), (12, false), (6, false), (13, false), (14, false), (15, false)] rfl rfl (by kernel_rfl) (by kernel_rfl) rfl ?_
    refine a_rix hT i rfl rfl rfl rfl rfl rfl rfl hil ?_
    refine a_rix hT j rfl rfl rfl rfl rfl rfl rfl hjl ?_
    refine a_rldP hT i 0 (pB q[i]) (.d (.v (ptrB q[i].b))) rfl rfl rfl rfl rfl rfl (by omega) ei rfl ?_
    refine a_as 25 (b := .v (ptrB q[i].b) 40) rfl rfl ?_
    refine a_rldP hT j 0 (pB q[j]) (.d (.v (ptrB q[j].b))) rfl rfl rfl rfl rfl rfl (by omega) ej rfl ?_
    refine a_as 32 (b := .v (ptrB q[j].b) 41) rfl rfl ?_
    refine a_ret hT [30, 40, 41, 32] rfl rfl rfl rfl rfl rfl ⟨?_, Ent.cons _ hs⟩
    unfold ltE
    rw [if_pos hd']
    rfl
  · have hd' : ¬ q[i].due ≠ q[j].due := by simpa using hd
    refine a_draw hT [] false [(0, false), (1, false), (7, false), (8, false), (2, false), (9, false), (3, false), (10, false), (4, false), (11, false), (5, false), (12, false), (6, false), (13, false), (14, false), (15, false)] rfl rfl (by kernel_rfl) (by kernel_rfl) rfl ?_
    refine a_rix hT i rfl rfl rfl rfl rfl rfl rfl hil ?_
    refine a_rix hT j rfl rfl rfl rfl rfl rfl rfl hjl ?_
    refine a_rldP hT i 0 (pB q[i]) (.d (.v (ptrB q[i].b))) rfl rfl rfl rfl rfl rfl (by omega) ei rfl ?_
    refine a_as 40 (b := .v (ptrB q[i].b) 40) rfl rfl ?_
    refine a_rldP hT j 0 (pB q[j]) (.d (.v (ptrB q[j].b))) rfl rfl rfl rfl rfl rfl (by omega) ej rfl ?_
    refine a_as 47 (b := .v (ptrB q[j].b) 41) rfl rfl ?_
    refine a_ret hT [30, 40, 41, 32] rfl rfl rfl rfl rfl rfl ⟨?_, Ent.cons _ hs⟩
    unfold ltE
    rw [if_neg hd']
    rfl
def swapQ (q : List QE) (i j : Nat) (a b : QE) : List QE := (q.set i b).set j a
set_option maxRecDepth 100000 in
theorem swap_spec {v : Value} {h h1 h2 : Nat} {q : List QE} {i j : Nat} (hi : i < q.length) (hj : j < q.length) (hne : i ≠ j) : FSpec Try.prog 106 [.row v h, .v (.int .i64 i) h1, .v (.int .i64 j) h2] [rowP v q, entsC q] fun _ cs => cs = [rowP v (swapQ q i j q[i] q[j]), entsC (swapQ q i j q[i] q[j])] := by
  obtain ⟨r, ho, hs⟩ := ents_two hi hj hne
  have hs := hs q[j] q[i]
  refine FSpec.weak (R := fun _ cs => Ent cs [rowP v (swapQ q i j q[i] q[j]), entsC (swapQ q i j q[i] q[j])]) ?_ fun a cs h2 => ⟨a, [rowP v (swapQ q i j q[i] q[j]), entsC (swapQ q i j q[i] q[j])], [], Fit.refl _, h2, rfl⟩
  refine a_enter hT [.row v 30, nA i, nA j] [30, 32] Try.func106 rfl rfl rfl ⟨rfl, rfl, rfl, trivial⟩ fun c => ?_
  refine a_rowfact 30 rfl rfl fun hf => ?_
  rcases hf with ⟨_, hf⟩ | ⟨gr, cap, rfl⟩
  · simp at hf; subst hf; simp at hi
  refine a_ent [32] [40, 41, 32] _ rfl rfl ho ?_
  have ei : (q.map pB)[i]? = some (pB q[i]) := by simp [hi]
  have ej : (q.map pB)[j]? = some (pB q[j]) := by simp [hj]
  have hil : i < (q.map pB).length := by simpa using hi
  have hjl : j < (q.map pB).length := by simpa using hj
  have hrow : ((q.map pB).set i (pB q[j])).set j (pB q[i]) = (swapQ q i j q[i] q[j]).map pB := by unfold swapQ; rw [List.map_set, List.map_set]
  have hlen : (swapQ q i j q[i] q[j]).length = q.length := by unfold swapQ; simp
  have si : ((swapQ q i j q[i] q[j]).map pB)[i]? = some (pB q[j]) := by rw [← hrow, List.getElem?_set_ne (Ne.symm hne), List.getElem?_set_self hil]
  have sj : ((swapQ q i j q[i] q[j]).map pB)[j]? = some (pB q[i]) := by rw [← hrow, List.getElem?_set_self (by simpa using hjl)]
  refine a_treeN hT [0, 1, 2] (fun _ : Unit => [.row (.slice (some ⟨gr, 0, none⟩) (q.map pB).length cap) 30, nA i, nA j]) (fun _ => [(30, rowP (.slice (some ⟨gr, 0, none⟩) (q.map pB).length cap) (swapQ q i j q[i] q[j])), (40, entC i q[i]), (41, entC j q[j]), (32, .ext (listA r))]) (fun _ => True) [30] 16
    [(0, false), (1, false), (2, false), (3, false), (4, false), (5, false), (8, false), (9, false), (6, false), (10, false)] rfl rfl (by kernel_rfl) (by kernel_rfl) rfl ?_ ?_
  · refine a_rix hT j rfl rfl rfl rfl rfl rfl rfl hjl ?_
    refine a_rix hT i rfl rfl rfl rfl rfl rfl rfl hil ?_
    refine a_alt hT [([(7, true), (11, true), (12, false), (13, true), (14, false), (15, true)], true), ([(11, true), (7, true), (12, false), (13, true), (14, false), (15, true)], true)] rfl rfl (by kernel_rfl) ⟨?_, ?_, trivial⟩
    · refine a_rld hT j 0 (pB q[j]) (.d (.v (ptrB q[j].b))) rfl rfl rfl rfl rfl rfl (by omega) ej rfl ?_
      refine a_rld hT i 0 (pB q[i]) (.d (.v (ptrB q[i].b))) rfl rfl rfl rfl rfl rfl (by omega) ei rfl ?_
      refine a_rix hT i rfl rfl rfl rfl rfl rfl rfl hil ?_
      refine a_rst hT i 0 (pB q[i]) (.v (ptrB q[j].b)) rfl rfl rfl rfl rfl rfl rfl (by omega) ei (by omega) rfl ?_
      refine a_rix hT j rfl rfl rfl rfl rfl rfl rfl hjl ?_
      refine a_rst hT j 0 (pB q[j]) (.v (ptrB q[i].b)) rfl rfl rfl rfl rfl rfl rfl (by omega) (by rw [List.getElem?_set_ne hne]; exact ej) (by omega) rfl ?_
      refine a_next hT () [30, 40, 41, 32] rfl rfl trivial ⟨rfl, rfl, rfl, trivial⟩ rfl ⟨⟨rfl, rfl, rfl, hrow⟩, ⟨rfl, rfl, rfl, rfl, rfl, trivial⟩, ⟨rfl, rfl, rfl, rfl, rfl, trivial⟩, rfl, trivial⟩
    · refine a_rld hT i 0 (pB q[i]) (.d (.v (ptrB q[i].b))) rfl rfl rfl rfl rfl rfl (by omega) ei rfl ?_
      refine a_rld hT j 0 (pB q[j]) (.d (.v (ptrB q[j].b))) rfl rfl rfl rfl rfl rfl (by omega) ej rfl ?_
      refine a_rix hT i rfl rfl rfl rfl rfl rfl rfl hil ?_
      refine a_rst hT i 0 (pB q[i]) (.v (ptrB q[j].b)) rfl rfl rfl rfl rfl rfl rfl (by omega) ei (by omega) rfl ?_
      refine a_rix hT j rfl rfl rfl rfl rfl rfl rfl hjl ?_
      refine a_rst hT j 0 (pB q[j]) (.v (ptrB q[i].b)) rfl rfl rfl rfl rfl rfl rfl (by omega) (by rw [List.getElem?_set_ne hne]; exact ej) (by omega) rfl ?_
      refine a_next hT () [30, 40, 41, 32] rfl rfl trivial ⟨rfl, rfl, rfl, trivial⟩ rfl ⟨⟨rfl, rfl, rfl, hrow⟩, ⟨rfl, rfl, rfl, rfl, rfl, trivial⟩, ⟨rfl, rfl, rfl, rfl, rfl, trivial⟩, rfl, trivial⟩
  · intro _ _
    refine a_draw hT [40, 41] false [(0, false), (1, false), (4, false), (5, false), (8, false), (9, false), (2, false), (6, false), (3, false), (7, false), (10, false), (11, false), (12, true), (13, false), (14, false), (15, true)] rfl rfl (by kernel_rfl) (by kernel_rfl) rfl ?_
    refine a_rix hT i rfl rfl rfl rfl rfl rfl rfl hil ?_
    refine a_rix hT j rfl rfl rfl rfl rfl rfl rfl hjl ?_
    refine a_rldP hT i 0 (pB q[j]) (.d (.v (ptrB q[j].b))) rfl rfl rfl rfl rfl rfl (by omega) si rfl ?_
    refine a_as 23 (b := .v (ptrB q[j].b) 41) rfl rfl ?_
    refine a_rldP hT j 0 (pB q[i]) (.d (.v (ptrB q[i].b))) rfl rfl rfl rfl rfl rfl (by omega) sj rfl ?_
    refine a_as 27 (b := .v (ptrB q[i].b) 40) rfl rfl ?_
    refine a_end hT [30, 41, 40, 32] rfl rfl rfl rfl rfl rfl (Ent.cons _ hs)
/-- One entry is taken out. -/
theorem ents_one {q : List QE} {i : Nat} (hi : i < q.length) : ∃ r, Ent [entsC q] [entC i q[i], .ext (listA r)] ∧ ∀ a, Ent [entC i a, .ext (listA r)] [entsC (q.set i a)] := by
  have hl : i < (entsL q).length := by rw [entsL_len]; exact hi
  refine ⟨(entsL q).eraseIdx i, ?_, fun a => ?_⟩
  · have h := perm_set (entsL q) i (entC i q[i]) hl
    have e : (entsL q).set i (entC i q[i]) = entsL q := by
      apply List.ext_getElem?
      intro k
      rw [List.getElem?_set]
      split
      · rename_i e; subst e; rw [entsL_get, List.getElem?_eq_getElem hi]; rfl
      · rfl
    rw [e] at h
    exact (ent_open _).trans ((Ent.perm h).trans (Ent.cons _ (ent_shut _)))
  · have h := (perm_set (entsL q) i (entC i a) hl).symm
    have e : (entsL q).set i (entC i a) = entsL (q.set i a) := by
      apply List.ext_getElem?
      intro k
      rw [entsL_get, List.getElem?_set, List.getElem?_set, entsL_get, entsL_len]
      split
      · rename_i e; subst e; rfl
      · rfl
    rw [e] at h
    exact (Ent.cons _ (ent_open _)).trans ((Ent.perm h).trans (ent_shut _))
theorem set_same {α : Type} {l : List α} {i : Nat} {a : α} (h : l[i]? = some a) : l.set i a = l := by
  apply List.ext_getElem?
  intro k
  rw [List.getElem?_set]
  split
  · rename_i e; subst e; rw [if_pos (List.getElem?_eq_some_iff.1 h).1, h]
  · rfl
set_option maxRecDepth 100000 in
theorem swap_same {v : Value} {h h1 h2 : Nat} {q : List QE} {i : Nat} (hi : i < q.length) : FSpec Try.prog 106 [.row v h, .v (.int .i64 i) h1, .v (.int .i64 i) h2] [rowP v q, entsC q] fun _ cs => cs = [rowP v q, entsC q] := by
  obtain ⟨r, ho, hs⟩ := ents_one hi
  have hs := hs q[i]
  rw [set_same (List.getElem?_eq_getElem hi)] at hs
  refine FSpec.weak (R := fun _ cs => Ent cs [rowP v q, entsC q]) ?_ fun a cs h2 => ⟨a, [rowP v q, entsC q], [], Fit.refl _, h2, rfl⟩
  refine a_enter hT [.row v 30, nA i, nA i] [30, 32] Try.func106 rfl rfl rfl ⟨rfl, rfl, rfl, trivial⟩ fun c => ?_
  refine a_rowfact 30 rfl rfl fun hf => ?_
  rcases hf with ⟨_, hf⟩ | ⟨gr, cap, rfl⟩
  · simp at hf; subst hf; simp at hi
  refine a_ent [32] [40, 32] _ rfl rfl ho ?_
  have ei : (q.map pB)[i]? = some (pB q[i]) := by simp [hi]
  have hil : i < (q.map pB).length := by simpa using hi
  have hrow : ((q.map pB).set i (pB q[i])).set i (pB q[i]) = q.map pB := by rw [set_same ei, set_same ei]
  refine a_treeN hT [0, 1, 2] (fun _ : Unit => [.row (.slice (some ⟨gr, 0, none⟩) (q.map pB).length cap) 30, nA i, nA i]) (fun _ => [(30, rowP (.slice (some ⟨gr, 0, none⟩) (q.map pB).length cap) q), (40, entC i q[i]), (32, .ext (listA r))]) (fun _ => True) [30] 16
    [(0, false), (1, false), (2, false), (3, false), (4, false), (5, false), (8, false), (9, false), (6, false), (10, false)] rfl rfl (by kernel_rfl) (by kernel_rfl) rfl ?_ ?_
  · refine a_rix hT i rfl rfl rfl rfl rfl rfl rfl hil ?_
    refine a_rix hT i rfl rfl rfl rfl rfl rfl rfl hil ?_
    refine a_alt hT [([(7, true), (11, true), (12, false), (13, true), (14, false), (15, true)], true), ([(11, true), (7, true), (12, false), (13, true), (14, false), (15, true)], true)] rfl rfl (by kernel_rfl) ⟨?_, ?_, trivial⟩
    · refine a_rld hT i 0 (pB q[i]) (.d (.v (ptrB q[i].b))) rfl rfl rfl rfl rfl rfl (by omega) ei rfl ?_
      refine a_rld hT i 0 (pB q[i]) (.d (.v (ptrB q[i].b))) rfl rfl rfl rfl rfl rfl (by omega) ei rfl ?_
      refine a_rix hT i rfl rfl rfl rfl rfl rfl rfl hil ?_
      refine a_rst hT i 0 (pB q[i]) (.v (ptrB q[i].b)) rfl rfl rfl rfl rfl rfl rfl (by omega) ei (by omega) rfl ?_
      refine a_rix hT i rfl rfl rfl rfl rfl rfl rfl hil ?_
      refine a_rst hT i 0 (pB q[i]) (.v (ptrB q[i].b)) rfl rfl rfl rfl rfl rfl rfl (by omega) (by rw [List.getElem?_set_self hil]; rfl) (by omega) rfl ?_
      refine a_next hT () [30, 40, 32] rfl rfl trivial ⟨rfl, rfl, rfl, trivial⟩ rfl ⟨⟨rfl, rfl, rfl, hrow⟩, ⟨rfl, rfl, rfl, rfl, rfl, trivial⟩, rfl, trivial⟩
    · refine a_rld hT i 0 (pB q[i]) (.d (.v (ptrB q[i].b))) rfl rfl rfl rfl rfl rfl (by omega) ei rfl ?_
      refine a_rld hT i 0 (pB q[i]) (.d (.v (ptrB q[i].b))) rfl rfl rfl rfl rfl rfl (by omega) ei rfl ?_
      refine a_rix hT i rfl rfl rfl rfl rfl rfl rfl hil ?_
      refine a_rst hT i 0 (pB q[i]) (.v (ptrB q[i].b)) rfl rfl rfl rfl rfl rfl rfl (by omega) ei (by omega) rfl ?_
      refine a_rix hT i rfl rfl rfl rfl rfl rfl rfl hil ?_
      refine a_rst hT i 0 (pB q[i]) (.v (ptrB q[i].b)) rfl rfl rfl rfl rfl rfl rfl (by omega) (by rw [List.getElem?_set_self hil]; rfl) (by omega) rfl ?_
      refine a_next hT () [30, 40, 32] rfl rfl trivial ⟨rfl, rfl, rfl, trivial⟩ rfl ⟨⟨rfl, rfl, rfl, hrow⟩, ⟨rfl, rfl, rfl, rfl, rfl, trivial⟩, rfl, trivial⟩
  · intro _ _
    refine a_draw hT [40] false [(0, false), (1, false), (4, false), (5, false), (8, false), (9, false), (2, false), (6, false), (3, false), (7, false), (10, false), (11, false), (12, true), (13, false), (14, false), (15, true)] rfl rfl (by kernel_rfl) (by kernel_rfl) rfl ?_
    refine a_rix hT i rfl rfl rfl rfl rfl rfl rfl hil ?_
    refine a_rix hT i rfl rfl rfl rfl rfl rfl rfl hil ?_
    refine a_rldP hT i 0 (pB q[i]) (.d (.v (ptrB q[i].b))) rfl rfl rfl rfl rfl rfl (by omega) ei rfl ?_
    refine a_as 23 (b := .v (ptrB q[i].b) 40) rfl rfl ?_
    refine a_rldP hT i 0 (pB q[i]) (.d (.v (ptrB q[i].b))) rfl rfl rfl rfl rfl rfl (by omega) ei rfl ?_
    refine a_as 27 (b := .v (ptrB q[i].b) 40) rfl rfl ?_
    refine a_end hT [30, 40, 32] rfl rfl rfl rfl rfl rfl (Ent.cons _ hs)
end Go.Proofs.Ytepjnmocepkfjaa
end

section
/- Layer 17's queue in memory: Push, Pop. -/
set_option linter.unusedVariables false
set_option linter.unusedSimpArgs false
namespace Go.Proofs.Ytepjnmocepkfjaa
open V A
def tmBlk (g : Nat) (v : Value) (mo : Option Nat) : Chunk := .blk g 98 [.row v 30, .v (.map mo) 11]
theorem elP : elemOk Try.prog 99 1 = true := by kernel_rfl
def entX (e : QE) (at_ : Value) : Chunk := .blk e.b 102 [.v (kU e.key) 0, .v (kI e.due) 0, .v at_ 0]
theorem qpush_spec {g h h2 : Nat} {v x : Value} {mo : Option Nat} {q : List QE} {e : QE} (hq : q.length < 1000000) : FSpec Try.prog 108 [ptrA g h, .ifc 99 (.v (ptrB e.b) h2)] [tmBlk g v mo, rowP v q, entX e x]
    fun _ cs => ∃ v', cs = [tmBlk g v' mo, rowP v' (q ++ [e]), entC q.length e] := by
  refine a_enter hT [ptrA g 10, .ifc 99 (.v (ptrB e.b) 12)] [10, 30, 12] Try.func108 rfl rfl rfl ⟨rfl, ⟨rfl, rfl⟩, trivial⟩ fun c => ?_
  refine a_lit hT 50 rfl rfl rfl rfl elP rfl rfl rfl rfl fun y => ?_
  refine a_app hT 30 ((q ++ [e]).map pB) rfl rfl rfl rfl elP rfl rfl rfl rfl rfl (by simp [pB, ptrB]) (by simp; unfold lim; omega) fun v' => ?_
  refine a_end hT [10, 30, 12] rfl rfl rfl rfl rfl rfl ⟨v', ?_⟩
  unfold entC
  rw [show (q.length : Int) = ((q.map pB).length : Int) by rw [List.length_map]]
  rfl
theorem qpop_spec {g h : Nat} {v : Value} {mo : Option Nat} {q : List QE} {e : QE} (hq : q.length < 1000000) : FSpec Try.prog 107 [ptrA g h] [tmBlk g v mo, rowP v (q ++ [e])]
    fun a cs => ∃ v', a = .ifc 99 (.d (.v (ptrB e.b))) ∧ cs = [tmBlk g v' mo, rowP v' q] := by
  refine a_enter hT [ptrA g 10] [10, 30] Try.func107 rfl rfl rfl ⟨rfl, trivial⟩ fun c => ?_
  refine a_rowfact 30 rfl rfl fun hf => ?_
  rcases hf with ⟨_, hf⟩ | ⟨gr, cap, rfl⟩
  · simp at hf
  have hw : IntKind.i64.wrap ((((q ++ [e]).map pB).length : Int) - 1) = (q.length : Int) := by
    rw [List.length_map, List.length_append, wrap64 (by simp <;> omega) (by simp <;> omega)]
    simp
  have el : ((q ++ [e]).map pB)[q.length]? = some (pB e) := by simp
  refine a_rix hT q.length rfl rfl rfl rfl rfl rfl hw (by simp) ?_
  refine a_rld hT q.length 0 (pB e) (.d (.v (ptrB e.b))) rfl rfl rfl rfl rfl rfl (by omega) el rfl ?_
  refine a_rsl hT q.length rfl rfl rfl rfl rfl rfl rfl rfl hw (by simp) ?_
  refine a_ret hT [10, 30] rfl rfl rfl rfl rfl rfl ⟨.slice (some ⟨gr, 0, none⟩) q.length cap, rfl, ?_⟩
  have : ((q ++ [e]).map pB).take q.length = q.map pB := by simp
  rw [this]
  rfl
end Go.Proofs.Ytepjnmocepkfjaa
end

section
/- Heaps, plain. -/
set_option linter.unusedVariables false
set_option linter.unusedSimpArgs false
namespace Go.Proofs.Ytepjnmocepkfjaa
open V A
def L (x y : QE) : Prop := x.due < y.due ∨ (x.due = y.due ∧ x.key < y.key)
theorem ltE_iff (x y : QE) : ltE x y = true ↔ L x y := by
  unfold ltE L
  split
  · rw [decide_eq_true_iff]; omega
  · rw [decide_eq_true_iff]; omega
theorem ltE_not (x y : QE) : ltE x y = false ↔ ¬ L x y := by
  rw [← ltE_iff]; simp
def par (k : Nat) : Nat := (k - 1) / 2
theorem par_lt {k : Nat} (h : 0 < k) : par k < k := by unfold par; omega
theorem get_swap {q : List QE} {i j : Nat} {a b : QE} (hi : i < q.length) (hj : j < q.length) (k : Nat) : (swapQ q i j a b)[k]? = if k = j then some a else if k = i then some b else q[k]? := by
  unfold swapQ
  rw [List.getElem?_set, List.getElem?_set]
  simp only [List.length_set]
  by_cases h1 : k = j
  · subst h1; simp [hj]
  · rw [if_neg (fun e => h1 e.symm), if_neg h1]
    by_cases h2 : k = i
    · subst h2; simp [hi]
    · rw [if_neg (fun e => h2 e.symm), if_neg h2]
theorem swap_len (q : List QE) (i j : Nat) (a b : QE) : (swapQ q i j a b).length = q.length := by unfold swapQ; simp
theorem swap_perm {q : List QE} {i j : Nat} {a b : QE} (hne : i ≠ j) (ha : q[i]? = some a) (hb : q[j]? = some b) : (swapQ q i j a b).Perm q := by
  have hi := (List.getElem?_eq_some_iff.1 ha).1
  have hj := (List.getElem?_eq_some_iff.1 hb).1
  obtain ⟨r, hr⟩ := perm_two q i j hi hj hne
  have h1 := hr a b
  rw [set_two_same ha hb] at h1
  exact ((hr b a).trans (List.Perm.swap a b r)).trans h1.symm
def Heap (n : Nat) (q : List QE) : Prop := ∀ k a b, 0 < k → k < n → q[k]? = some a → q[par k]? = some b → ¬ L a b
structure UpI (n : Nat) (q : List QE) (j : Nat) : Prop where
  h : ∀ k a b, 0 < k → k < n → k ≠ j → q[k]? = some a → q[par k]? = some b → ¬ L a b
  c : ∀ k a b, 0 < j → 0 < k → k < n → par k = j → q[k]? = some a → q[par j]? = some b → ¬ L a b
structure DnI (n : Nat) (q : List QE) (i i0 : Nat) : Prop where
  h : ∀ k a b, 0 < k → k < n → par k ≠ i → (k ≠ i ∨ i ≠ i0) → q[k]? = some a → q[par k]? = some b → ¬ L a b
  c : ∀ k a b, 0 < i → 0 < k → k < n → par k = i → q[k]? = some a → q[par i]? = some b → ¬ L a b
theorem L.asym {a b : QE} (h : L a b) : ¬ L b a := by unfold L at h ⊢; omega
theorem up_step {n : Nat} {q : List QE} {j : Nat} {a b : QE} (hn : n ≤ q.length) (hu : UpI n q j) (h0 : 0 < j) (hj : j < n) (ha : q[par j]? = some a) (hb : q[j]? = some b) (hl : L b a) : UpI n (swapQ q (par j) j a b) (par j) := by
  have hp := par_lt h0
  have gs := fun k => get_swap (q := q) (i := par j) (j := j) (a := a) (b := b) (by omega) (by omega) k
  refine ⟨fun k x y hk hkn hne hx hy => ?_, fun k x y hj0 hk hkn hpk hx hy => ?_⟩
  · rw [gs] at hx hy
    by_cases h1 : k = j
    · subst h1
      rw [if_pos rfl] at hx
      rw [if_neg (by omega), if_pos rfl] at hy
      cases hx; cases hy
      exact hl.asym
    · rw [if_neg h1, if_neg hne] at hx
      by_cases h2 : par k = j
      · rw [if_pos h2] at hy
        cases hy
        exact hu.c k x a h0 hk hkn h2 hx ha
      · rw [if_neg h2] at hy
        by_cases h3 : par k = par j
        · rw [if_pos h3] at hy
          cases hy
          have := hu.h k x a hk hkn h1 hx (by rw [h3]; exact ha)
          unfold L at this hl ⊢
          omega
        · rw [if_neg h3] at hy
          exact hu.h k x y hk hkn h1 hx hy
  · have hpp := par_lt hj0
    rw [gs] at hx hy
    rw [if_neg (by omega), if_neg (by omega)] at hy
    have hq := hu.h (par j) a y hj0 (by omega) (by omega) ha hy
    by_cases h1 : k = j
    · subst h1
      rw [if_pos rfl] at hx
      cases hx
      exact hq
    · have := par_lt hk
      rw [if_neg h1, if_neg (by omega)] at hx
      have := hu.h k x a hk hkn h1 hx (by rw [hpk]; exact ha)
      unfold L at this hq ⊢
      omega
theorem up_end {n : Nat} {q : List QE} {j : Nat} (hu : UpI n q j) (h : ∀ a b, 0 < j → q[j]? = some a → q[par j]? = some b → ¬ L a b) : Heap n q := fun k a b hk hkn ha hb => by
  by_cases h1 : k = j
  · subst h1; exact h a b hk ha hb
  · exact hu.h k a b hk hkn h1 ha hb
theorem dn_step {n : Nat} {q : List QE} {i i0 j : Nat} {a b : QE} (hn : n ≤ q.length) (hd : DnI n q i i0) (h0 : i0 ≤ i) (hj0 : 0 < j) (hj : j < n) (hp : par j = i) (hmin : ∀ k x, 0 < k → k < n → par k = i → q[k]? = some x → ¬ L x b) (ha : q[i]? = some a) (hb : q[j]? = some b) (hl : L b a) : DnI n (swapQ q i j a b) j i0 := by
  have hij := par_lt hj0
  rw [hp] at hij
  have gs := fun k => get_swap (q := q) (i := i) (j := j) (a := a) (b := b) (by omega) (by omega) k
  refine ⟨fun k x y hk hkn hpk _ hx hy => ?_, fun k x y _ hk hkn hpk hx hy => ?_⟩
  · rw [gs] at hx hy
    have hpl := par_lt hk
    rw [if_neg hpk] at hy
    by_cases h1 : k = j
    · subst h1
      rw [if_pos rfl] at hx
      rw [if_pos hp] at hy
      cases hx; cases hy
      exact hl.asym
    · rw [if_neg h1] at hx
      by_cases h2 : k = i
      · subst h2
        rw [if_pos rfl] at hx
        rw [if_neg (by omega)] at hy
        cases hx
        exact hd.c j b y hk hj0 hj hp hb hy
      · rw [if_neg h2] at hx
        by_cases h3 : par k = i
        · rw [if_pos h3] at hy
          cases hy
          exact hmin k x hk hkn h3 hx
        · rw [if_neg h3] at hy
          exact hd.h k x y hk hkn h3 (.inl h2) hx hy
  · have hpl := par_lt hk
    rw [gs] at hx hy
    rw [hp, if_neg (by omega), if_pos rfl] at hy
    rw [if_neg (by omega), if_neg (by omega)] at hx
    cases hy
    exact hd.h k x b hk hkn (by omega) (.inl (by omega)) hx (by rw [hpk]; exact hb)
theorem dn_end {n : Nat} {q : List QE} {i i0 : Nat} (hd : DnI n q i i0) (h : ∀ k x y, 0 < k → k < n → par k = i → q[k]? = some x → q[i]? = some y → ¬ L x y) : (i ≠ i0 → Heap n q) ∧ (i = i0 → UpI n q i0) := by
  refine ⟨fun hne k a b hk hkn ha hb => ?_, fun e => ?_⟩
  · by_cases h1 : par k = i
    · exact h k a b hk hkn h1 ha (by rw [← h1]; exact hb)
    · exact hd.h k a b hk hkn h1 (.inr hne) ha hb
  · subst e
    refine ⟨fun k a b hk hkn hne ha hb => ?_, hd.c⟩
    by_cases h1 : par k = i
    · exact h k a b hk hkn h1 ha (by rw [← h1]; exact hb)
    · exact hd.h k a b hk hkn h1 (.inl hne) ha hb
/-- The first one is the least. -/
theorem heap_min {n : Nat} {q : List QE} (hn : n ≤ q.length) (h : Heap n q) {m : QE} (hm : q[0]? = some m) : ∀ k a, k < n → q[k]? = some a → ¬ L a m := by
  intro k
  induction k using Nat.strongRecOn with
  | _ k ih =>
    intro a hk ha
    rcases Nat.eq_zero_or_pos k with e | h0
    · subst e
      rw [hm] at ha
      cases ha
      unfold L
      omega
    · have hp := par_lt h0
      have hb : q[par k]? = some q[par k] := List.getElem?_eq_getElem (by omega)
      have h1 := h k a _ h0 hk ha hb
      have h2 := ih (par k) hp _ (by omega) hb
      unfold L at h1 h2 ⊢
      omega
end Go.Proofs.Ytepjnmocepkfjaa
end

section
/- container/heap's up and down on layer 17's queue. -/
set_option linter.unusedVariables false
set_option linter.unusedSimpArgs false
namespace Go.Proofs.Ytepjnmocepkfjaa
open V A
def hI (g : Nat) : AV := .ifc 104 (ptrA g 10)
def qC (g : Nat) (v : Value) (mo : Option Nat) (q : List QE) : List Chunk := [tmBlk g v mo, rowP v q, entsC q]
def qS (g : Nat) (v : Value) (mo : Option Nat) (q : List QE) : Store := [(10, tmBlk g v mo), (30, rowP v q), (32, entsC q)]
theorem iLess : invOk Try.prog 104 95 "Less" 105 false = true := by kernel_rfl
theorem iSwap : invOk Try.prog 104 95 "Swap" 106 false = true := by kernel_rfl
theorem iLen : invOk Try.prog 104 95 "Len" 104 false = true := by kernel_rfl
theorem iPush : invOk Try.prog 104 95 "Push" 108 true = true := by kernel_rfl
theorem iPop : invOk Try.prog 104 95 "Pop" 107 true = true := by kernel_rfl
structure HX where
  q : List QE
  j : Nat
theorem par_quo {j : Nat} (h : j < 1000000) : IntKind.i64.wrap ((IntKind.i64.wrap ((j : Int) - 1)).tdiv 2) = (par j : Int) := by
  rw [wrap64 (x := (j : Int) - 1) (by omega) (by omega)]
  unfold par
  rcases Nat.eq_zero_or_pos j with rfl | h0
  · rfl
  · have : ((j : Int) - 1) = ((j - 1 : Nat) : Int) := by omega
    rw [this]
    show IntKind.i64.wrap (((j - 1) / 2 : Nat) : Int) = _
    rw [wrap64 (by omega) (by omega)]
set_option maxRecDepth 100000 in
theorem up_spec {g h1 : Nat} {v : Value} {mo : Option Nat} {q : List QE} {n j : Nat} (hn : n ≤ q.length) (hl : q.length < 1000000) (hj : j < n) (hu : UpI n q j) : FSpec Try.prog 66 [hI g, .v (.int .i64 j) h1] (qC g v mo q)
    fun _ cs => ∃ q', q'.Perm q ∧ Heap n q' ∧ (∀ k, n ≤ k → q'[k]? = q[k]?) ∧ cs = qC g v mo q' := by
  refine a_enter hT [hI g, nA j] [10, 30, 32] Try.func66 rfl rfl rfl ⟨⟨rfl, rfl⟩, rfl, trivial⟩ fun c => ?_
  refine a_loop hT [0, 1] (fun x : HX => [hI g, nA x.j]) (fun x => qS g v mo x.q) (fun x => x.q.Perm q ∧ UpI n x.q x.j ∧ x.j < n ∧ ∀ k, n ≤ k → x.q[k]? = q[k]?) (fun x => x.j) ⟨q, j⟩ [10, 30, 32] rfl rfl ⟨List.Perm.refl _, hu, hj, fun _ _ => rfl⟩ ⟨⟨rfl, rfl⟩, rfl, trivial⟩ rfl ⟨⟨rfl, rfl, rfl, rfl, trivial⟩, ⟨rfl, rfl, rfl, rfl⟩, rfl, trivial⟩ ?_
  rintro ⟨q1, j1⟩ ⟨hp, hu1, hj1, hrest⟩
  have hp : q1.Perm q := hp
  have hu1 : UpI n q1 j1 := hu1
  have hj1 : j1 < n := hj1
  have hrest : ∀ k, n ≤ k → q1[k]? = q[k]? := hrest
  have hlen := hp.length_eq
  have hquo := par_quo (j := j1) (by omega)
  refine a_bin hT (.int .i64 (par j1)) rfl rfl rfl (by decide) rfl rfl (fun w => by rw [← hquo]; exact bin_quo (by decide) w) ?_
  refine a_g hT rfl rfl rfl (fun he => ?_) (fun he => ?_)
  · refine a_t hT rfl rfl rfl ?_
    refine a_end hT [10, 30, 32] rfl rfl rfl rfl rfl rfl ⟨q1, hp, up_end hu1 fun a b h0 ha hb => ?_, hrest, rfl⟩
    have he' : (par j1 : Int) = j1 := by simpa using he
    have := par_lt h0
    omega
  · have he' : par j1 ≠ j1 := by
      have : ¬ (par j1 : Int) = j1 := by simpa using he
      omega
    have h0 : 0 < j1 := by
      rcases Nat.eq_zero_or_pos j1 with e | h; · subst e; exact absurd rfl he'
      exact h
    have hpl := par_lt h0
    have hi1 : par j1 < q1.length := by omega
    have hj2 : j1 < q1.length := by omega
    refine a_invV hT (.row v 30) rfl rfl rfl rfl iLess (by kernel_rfl) rfl rfl rfl (less_spec (h := 30) (h1 := 0) (h2 := 0) hj2 hi1 (fun e => he' e.symm)) [30, 32] [30, 32] ⟨rfl, rfl, rfl, trivial⟩ rfl ⟨⟨rfl, rfl, rfl, rfl⟩, rfl, trivial⟩ ?_
    rintro _ _ ⟨rfl, rfl⟩
    refine a_if hT rfl rfl (fun hb => ?_) (fun hb => ?_)
    · have hb' : ¬ L q1[j1] q1[par j1] := (ltE_not _ _).1 (by simpa using hb)
      refine a_end hT [10, 30, 32] rfl rfl rfl rfl rfl rfl ⟨q1, hp, up_end hu1 fun a b _ ha hb => ?_, hrest, rfl⟩
      rw [List.getElem?_eq_getElem hj2] at ha
      rw [List.getElem?_eq_getElem hi1] at hb
      cases ha; cases hb
      exact hb'
    · have hb' : L q1[j1] q1[par j1] := (ltE_iff _ _).1 (by simpa using hb)
      refine a_invV hT (.row v 30) rfl rfl rfl rfl iSwap (by kernel_rfl) rfl rfl rfl (swap_spec (h := 30) (h1 := 0) (h2 := 0) hi1 hj2 he') [30, 32] [30, 32] ⟨rfl, rfl, rfl, trivial⟩ rfl ⟨⟨rfl, rfl, rfl, rfl⟩, rfl, trivial⟩ ?_
      rintro _ _ rfl
      refine a_next hT (HX.mk (swapQ q1 (par j1) j1 q1[par j1] q1[j1]) (par j1)) [10, 30, 32] rfl rfl ⟨⟨(swap_perm he' (List.getElem?_eq_getElem hi1) (List.getElem?_eq_getElem hj2)).trans hp, up_step (by omega) hu1 h0 hj1 (List.getElem?_eq_getElem hi1) (List.getElem?_eq_getElem hj2) hb', by show par j1 < n; omega, fun k hk => ?_⟩, hpl⟩ ⟨⟨rfl, rfl⟩, rfl, trivial⟩ rfl ⟨⟨rfl, rfl, rfl, rfl, trivial⟩, ⟨rfl, rfl, rfl, rfl⟩, rfl, trivial⟩
      show (swapQ q1 (par j1) j1 q1[par j1] q1[j1])[k]? = _
      rw [get_swap hi1 hj2, if_neg (by omega), if_neg (by omega)]
      exact hrest k hk
structure DX where
  q : List QE
  i : Nat
set_option maxRecDepth 100000 in
theorem down_spec {g h1 h2 : Nat} {v : Value} {mo : Option Nat} {q : List QE} {n i0 : Nat} (hn : n ≤ q.length) (hl : q.length < 1000000) (hi0 : i0 ≤ n) (hd : DnI n q i0 i0) : FSpec Try.prog 65 [hI g, .v (.int .i64 i0) h1, .v (.int .i64 n) h2] (qC g v mo q)
    fun a cs => ∃ q', q'.Perm q ∧ (∀ k, n ≤ k → q'[k]? = q[k]?) ∧ ((a = .v (.bool true) 0 ∧ Heap n q') ∨ (a = .v (.bool false) 0 ∧ UpI n q' i0)) ∧ cs = qC g v mo q' := by
  refine a_enter hT [hI g, nA i0, nA n] [10, 30, 32] Try.func65 rfl rfl rfl ⟨⟨rfl, rfl⟩, rfl, rfl, trivial⟩ fun c => ?_
  refine a_loop hT [0, 1, 2, 7] (fun x : DX => [hI g, nA i0, nA n, nA x.i]) (fun x => qS g v mo x.q) (fun x => x.q.Perm q ∧ DnI n x.q x.i i0 ∧ i0 ≤ x.i ∧ x.i ≤ n ∧ ∀ k, n ≤ k → x.q[k]? = q[k]?) (fun x => n - x.i) ⟨q, i0⟩ [10, 30, 32] rfl rfl ⟨List.Perm.refl _, hd, Nat.le_refl _, hi0, fun _ _ => rfl⟩ ⟨⟨rfl, rfl⟩, rfl, rfl, rfl, trivial⟩ rfl ⟨⟨rfl, rfl, rfl, rfl, trivial⟩, ⟨rfl, rfl, rfl, rfl⟩, rfl, trivial⟩ ?_
  rintro ⟨q1, i⟩ ⟨hp, hd1, h0i, hin, hrest⟩
  have hp : q1.Perm q := hp
  have hd1 : DnI n q1 i i0 := hd1
  have h0i : i0 ≤ i := h0i
  have hin : i ≤ n := hin
  have hrest : ∀ k, n ≤ k → q1[k]? = q[k]? := hrest
  have hlen := hp.length_eq
  have hj1 : IntKind.i64.wrap (IntKind.i64.wrap (2 * (i : Int)) + 1) = ((2 * i + 1 : Nat) : Int) := by
    rw [wrap64 (x := 2 * (i : Int)) (by omega) (by omega), wrap64 (by omega) (by omega)]
    omega
  -- the end
  have fin : ∀ (h : ∀ k x y, 0 < k → k < n → par k = i → q1[k]? = some x → q1[i]? = some y → ¬ L x y) (b : Bool), b = decide ((i : Int) > (i0 : Int)) → ∃ q', q'.Perm q ∧ (∀ k, n ≤ k → q'[k]? = q[k]?) ∧ ((AV.v (.bool b) 0 = .v (.bool true) 0 ∧ Heap n q') ∨ (AV.v (.bool b) 0 = .v (.bool false) 0 ∧ UpI n q' i0)) ∧ qC g v mo q1 = qC g v mo q' := fun h b hb => by
    have he := dn_end hd1 h
    refine ⟨q1, hp, hrest, ?_, rfl⟩
    by_cases e : i = i0
    · right; refine ⟨?_, he.2 e⟩; rw [hb, decide_eq_false (by omega)]
    · left; refine ⟨?_, he.1 e⟩; rw [hb, decide_eq_true (by omega)]
  refine a_g hT rfl rfl rfl (fun hge => ?_) (fun hge => ?_)
  · have hge' : ¬ 2 * i + 1 < n := by
      have : IntKind.i64.wrap (IntKind.i64.wrap (2 * (i : Int)) + 1) ≥ n := of_decide_eq_true hge
      omega
    refine a_t hT rfl rfl rfl ?_
    refine a_ret hT [10, 30, 32] rfl rfl rfl rfl rfl rfl (fin (fun k x y hk hkn hpk _ _ => by unfold par at hpk; omega) _ rfl)
  · have hlt : 2 * i + 1 < n := by
      have : ¬ IntKind.i64.wrap (IntKind.i64.wrap (2 * (i : Int)) + 1) ≥ n := of_decide_eq_false hge
      omega
    refine a_f hT rfl rfl (by rw [hj1]; exact decide_eq_false (by omega)) ?_
    refine a_as 8 (b := nA (2 * i + 1)) rfl (by show Value.int .i64 (IntKind.i64.wrap (IntKind.i64.wrap (2 * (i : Int)) + 1)) = .int .i64 ((2 * i + 1 : Nat) : Int); rw [hj1]) ?_
    have hj2 : IntKind.i64.wrap (((2 * i + 1 : Nat) : Int) + 1) = ((2 * i + 2 : Nat) : Int) := by rw [wrap64 (by omega) (by omega)]; omega
    have hx1 : 2 * i + 1 < q1.length := by omega
    have hpar : ∀ k, 0 < k → par k = i → k = 2 * i + 1 ∨ k = 2 * i + 2 := fun k h0 h => by unfold par at h; omega
    refine a_cutM hT [0, 1, 2, 7, 9] (fun j : Nat => [hI g, nA i0, nA n, nA i, nA j]) (fun _ => qS g v mo q1) (fun j => 0 < j ∧ j < n ∧ par j = i ∧ ∀ b, q1[j]? = some b → ∀ k x, 0 < k → k < n → par k = i → q1[k]? = some x → ¬ L x b) 8 rfl rfl ?_ ?_
    · refine a_g hT rfl rfl rfl (fun h2 => ?_) (fun h2 => ?_)
      · have h2' : 2 * i + 2 < n := by
          have : IntKind.i64.wrap (((2 * i + 1 : Nat) : Int) + 1) < n := of_decide_eq_true h2
          omega
        have hx2 : 2 * i + 2 < q1.length := by omega
        refine a_as 10 (b := nA (2 * i + 2)) rfl (by show Value.int .i64 (IntKind.i64.wrap (((2 * i + 1 : Nat) : Int) + 1)) = .int .i64 ((2 * i + 2 : Nat) : Int); rw [hj2]) ?_
        refine a_invV hT (.row v 30) rfl rfl rfl rfl iLess (by kernel_rfl) rfl rfl rfl (less_spec (h := 30) (h1 := 0) (h2 := 0) hx2 hx1 (by omega)) [30, 32] [30, 32] ⟨rfl, rfl, rfl, trivial⟩ rfl ⟨⟨rfl, rfl, rfl, rfl⟩, rfl, trivial⟩ ?_
        rintro _ _ ⟨rfl, rfl⟩
        refine a_if hT rfl rfl (fun hb => ?_) (fun hb => ?_)
        · have hb' := (ltE_iff _ _).1 hb
          refine a_next hT (2 * i + 2) [10, 30, 32] rfl rfl ⟨by omega, h2', by unfold par; omega, fun b hb k x hk hkn hpk hx => ?_⟩ ⟨⟨rfl, rfl⟩, rfl, rfl, rfl, rfl, trivial⟩ rfl ⟨⟨rfl, rfl, rfl, rfl, trivial⟩, ⟨rfl, rfl, rfl, rfl⟩, rfl, trivial⟩
          rw [List.getElem?_eq_getElem hx2] at hb
          cases hb
          rcases hpar k hk hpk with e | e
          · subst e; rw [List.getElem?_eq_getElem hx1] at hx; cases hx; exact hb'.asym
          · subst e; rw [List.getElem?_eq_getElem hx2] at hx; cases hx; unfold L; omega
        · have hb' := (ltE_not _ _).1 hb
          refine a_next hT (2 * i + 1) [10, 30, 32] rfl rfl ⟨by omega, hlt, by unfold par; omega, fun b hb k x hk hkn hpk hx => ?_⟩ ⟨⟨rfl, rfl⟩, rfl, rfl, rfl, rfl, trivial⟩ rfl ⟨⟨rfl, rfl, rfl, rfl, trivial⟩, ⟨rfl, rfl, rfl, rfl⟩, rfl, trivial⟩
          rw [List.getElem?_eq_getElem hx1] at hb
          cases hb
          rcases hpar k hk hpk with e | e
          · subst e; rw [List.getElem?_eq_getElem hx1] at hx; cases hx; unfold L; omega
          · subst e; rw [List.getElem?_eq_getElem hx2] at hx; cases hx; exact hb'
      · have h2' : ¬ 2 * i + 2 < n := by
          have : ¬ IntKind.i64.wrap (((2 * i + 1 : Nat) : Int) + 1) < n := of_decide_eq_false h2
          omega
        refine a_f hT rfl rfl rfl ?_
        refine a_next hT (2 * i + 1) [10, 30, 32] rfl rfl ⟨by omega, hlt, by unfold par; omega, fun b hb k x hk hkn hpk hx => ?_⟩ ⟨⟨rfl, rfl⟩, rfl, rfl, rfl, rfl, trivial⟩ rfl ⟨⟨rfl, rfl, rfl, rfl, trivial⟩, ⟨rfl, rfl, rfl, rfl⟩, rfl, trivial⟩
        rw [List.getElem?_eq_getElem hx1] at hb
        cases hb
        rcases hpar k hk hpk with e | e
        · subst e; rw [List.getElem?_eq_getElem hx1] at hx; cases hx; unfold L; omega
        · omega
    · rintro j ⟨h0j, hjn, hpj, hmin⟩
      have hxj : j < q1.length := by omega
      have hxi : i < q1.length := by omega
      have hij : i < j := by have := par_lt h0j; omega
      have hmin := hmin _ (List.getElem?_eq_getElem hxj)
      refine a_invV hT (.row v 30) rfl rfl rfl rfl iLess (by kernel_rfl) rfl rfl rfl (less_spec (h := 30) (h1 := 0) (h2 := 0) hxj hxi (by omega)) [30, 32] [30, 32] ⟨rfl, rfl, rfl, trivial⟩ rfl ⟨⟨rfl, rfl, rfl, rfl⟩, rfl, trivial⟩ ?_
      rintro _ _ ⟨rfl, rfl⟩
      refine a_if hT rfl rfl (fun hb => ?_) (fun hb => ?_)
      · have hb' : ¬ L q1[j] q1[i] := (ltE_not _ _).1 (by simpa using hb)
        refine a_ret hT [10, 30, 32] rfl rfl rfl rfl rfl rfl (fin (fun k x y hk hkn hpk hx hy => ?_) _ rfl)
        have h1 := hmin k x hk hkn hpk hx
        rw [List.getElem?_eq_getElem hxi] at hy
        cases hy
        unfold L at h1 hb' ⊢
        omega
      · have hb' : L q1[j] q1[i] := (ltE_iff _ _).1 (by simpa using hb)
        refine a_invV hT (.row v 30) rfl rfl rfl rfl iSwap (by kernel_rfl) rfl rfl rfl (swap_spec (h := 30) (h1 := 0) (h2 := 0) hxi hxj (by omega)) [30, 32] [30, 32] ⟨rfl, rfl, rfl, trivial⟩ rfl ⟨⟨rfl, rfl, rfl, rfl⟩, rfl, trivial⟩ ?_
        rintro _ _ rfl
        refine a_next hT (DX.mk (swapQ q1 i j q1[i] q1[j]) j) [10, 30, 32] rfl rfl ⟨⟨(swap_perm (by omega) (List.getElem?_eq_getElem hxi) (List.getElem?_eq_getElem hxj)).trans hp, dn_step (by omega) hd1 h0i h0j hjn hpj hmin (List.getElem?_eq_getElem hxi) (List.getElem?_eq_getElem hxj) hb', by show i0 ≤ j; omega, Nat.le_of_lt hjn, fun k hk => ?_⟩, by show n - j < n - i; omega⟩ ⟨⟨rfl, rfl⟩, rfl, rfl, rfl, trivial⟩ rfl ⟨⟨rfl, rfl, rfl, rfl, trivial⟩, ⟨rfl, rfl, rfl, rfl⟩, rfl, trivial⟩
        show (swapQ q1 i j q1[i] q1[j])[k]? = _
        rw [get_swap hxi hxj, if_neg (by omega), if_neg (by omega)]
        exact hrest k hk
end Go.Proofs.Ytepjnmocepkfjaa
end

section
/- container/heap's Push, Pop, Fix and Remove on layer 17's queue. -/
set_option linter.unusedVariables false
set_option linter.unusedSimpArgs false
namespace Go.Proofs.Ytepjnmocepkfjaa
open V A
theorem entsL_snoc (q : List QE) (e : QE) : entsL (q ++ [e]) = entsL q ++ [entC q.length e] := by
  unfold entsL
  rw [List.mapIdx_append]
  simp
theorem ents_snoc (q : List QE) (e : QE) : Ent [entsC q, entC q.length e] [entsC (q ++ [e])] := by
  unfold entsC
  rw [entsL_snoc]
  exact ((Ent.app (ent_open (entsL q)) (Ent.refl [entC q.length e]))).trans (ent_shut _)
theorem ents_unsnoc (q : List QE) (e : QE) : Ent [entsC (q ++ [e])] [entsC q, entC q.length e] := by
  unfold entsC
  rw [entsL_snoc]
  exact (ent_open _).trans (Ent.app (ent_shut (entsL q)) (Ent.refl [entC q.length e]))
theorem get_snoc {q : List QE} {e : QE} {k : Nat} (h : k < q.length) : (q ++ [e])[k]? = q[k]? := List.getElem?_append_left h
theorem up_of_snoc {q : List QE} {e : QE} (h : Heap q.length q) : UpI (q.length + 1) (q ++ [e]) q.length := by
  refine ⟨fun k a b hk hkn hne ha hb => ?_, fun k a b h0 hk hkn hpk => ?_⟩
  · have := par_lt hk
    rw [get_snoc (by omega)] at ha hb
    exact h k a b hk (by omega) ha hb
  · have := par_lt hk
    omega
theorem heap_push {g h2 : Nat} {v x : Value} {mo : Option Nat} {q : List QE} {e : QE} (hq : q.length < 999999) (hh : Heap q.length q) : FSpec Try.prog 51 [hI g, .ifc 99 (.v (ptrB e.b) h2)] [tmBlk g v mo, rowP v q, entsC q, entX e x]
    fun _ cs => ∃ v' q', q'.Perm (q ++ [e]) ∧ Heap q'.length q' ∧ cs = qC g v' mo q' := by
  refine a_enter hT [hI g, .ifc 99 (.v (ptrB e.b) 12)] [10, 30, 32, 12] Try.func51 rfl rfl rfl ⟨⟨rfl, rfl⟩, ⟨rfl, rfl⟩, trivial⟩ fun c => ?_
  refine a_invP hT rfl rfl rfl rfl iPush (by kernel_rfl) (qpush_spec (h := 10) (h2 := 12) (g := g) (v := v) (mo := mo) (q := q) (e := e) (x := x) (by omega)) [10, 30, 12] [10, 30, 12] ⟨rfl, ⟨rfl, rfl⟩, trivial⟩ rfl ⟨⟨rfl, rfl, rfl, rfl, trivial⟩, ⟨rfl, rfl, rfl, rfl⟩, ⟨rfl, rfl, rfl, rfl, rfl, trivial⟩, trivial⟩ ?_
  rintro _ _ ⟨v', rfl⟩
  refine a_ent [32, 12] [32] _ rfl rfl (ents_snoc q e) ?_
  refine a_invV hT (.row v' 30) rfl rfl rfl rfl iLen (by kernel_rfl) rfl rfl rfl (qlen_spec (h := 30) (v := v') (q := q ++ [e])) [30] [30] ⟨rfl, trivial⟩ rfl ⟨⟨rfl, rfl, rfl, rfl⟩, trivial⟩ ?_
  rintro _ _ ⟨rfl, rfl⟩
  have hw : IntKind.i64.wrap (((q ++ [e]).length : Int) - 1) = (q.length : Int) := by
    rw [List.length_append, wrap64 (by simp <;> omega) (by simp <;> omega)]
    simp
  refine a_callF hT rfl rfl rfl (by kernel_rfl) (up_spec (g := g) (h1 := 0) (v := v') (mo := mo) (q := q ++ [e]) (n := q.length + 1) (j := q.length) (by simp) (by simp <;> omega) (by omega) (up_of_snoc hh)) [10, 30, 32] [10, 30, 32] ⟨⟨rfl, rfl⟩, by show Value.int .i64 (IntKind.i64.wrap (((q ++ [e]).length : Int) - 1)) = .int .i64 (q.length : Int); rw [hw], trivial⟩ rfl ⟨⟨rfl, rfl, rfl, rfl, trivial⟩, ⟨rfl, rfl, rfl, rfl⟩, rfl, trivial⟩ ?_
  rintro _ _ ⟨q', hp, hh', _, rfl⟩
  refine a_end hT [10, 30, 32] rfl rfl rfl rfl rfl rfl ⟨v', q', hp, ?_, rfl⟩
  rw [hp.length_eq]
  simpa using hh'
theorem swap_any {v : Value} {h h1 h2 : Nat} {q : List QE} {i j : Nat} (hi : i < q.length) (hj : j < q.length) : FSpec Try.prog 106 [.row v h, .v (.int .i64 i) h1, .v (.int .i64 j) h2] [rowP v q, entsC q] fun _ cs => cs = [rowP v (swapQ q i j q[i] q[j]), entsC (swapQ q i j q[i] q[j])] := by
  by_cases hne : i = j
  · subst hne
    have e : swapQ q i i q[i] q[i] = q := by unfold swapQ; rw [set_same (List.getElem?_eq_getElem hi), set_same (List.getElem?_eq_getElem hi)]
    rw [e]
    exact swap_same hi
  · exact swap_spec hi hj hne
theorem perm_any {q : List QE} {i j : Nat} (hi : i < q.length) (hj : j < q.length) : (swapQ q i j q[i] q[j]).Perm q := by
  by_cases hne : i = j
  · subst hne
    have e : swapQ q i i q[i] q[i] = q := by unfold swapQ; rw [set_same (List.getElem?_eq_getElem hi), set_same (List.getElem?_eq_getElem hi)]
    rw [e]
  · exact swap_perm hne (List.getElem?_eq_getElem hi) (List.getElem?_eq_getElem hj)
/-- A heap of which one was turned. -/
theorem dn_of_heap {m n i : Nat} {q0 q1 : List QE} (hm : m ≤ q0.length) (h : Heap m q0) (hn : n ≤ m) (he : ∀ k, k < n → k ≠ i → q1[k]? = q0[k]?) : DnI n q1 i i := by
  refine ⟨fun k a b hk hkn hpk hne ha hb => ?_, fun k a b h0 hk hkn hpk ha hb => ?_⟩
  · have := par_lt hk
    rcases hne with hne | hne
    · rw [he k hkn hne] at ha
      rw [he (par k) (by omega) hpk] at hb
      exact h k a b hk (by omega) ha hb
    · exact absurd rfl hne
  · have h1 := par_lt hk
    have h2 := par_lt h0
    rw [he k hkn (by omega)] at ha
    rw [he (par i) (by omega) (by omega)] at hb
    have hx : q0[i]? = some q0[i] := List.getElem?_eq_getElem (by omega)
    have h3 := h k a _ hk (by omega) ha (by rw [hpk]; exact hx)
    have h4 := h i _ b h0 (by omega) hx hb
    unfold L at h3 h4 ⊢
    omega
theorem take_last {q : List QE} {n : Nat} {e : QE} (hl : q.length = n + 1) (h : q[n]? = some e) : q = q.take n ++ [e] := by
  have := List.take_append_drop n q
  rw [List.drop_eq_getElem_cons (by omega), List.drop_eq_nil_of_le (by omega)] at this
  rw [List.getElem?_eq_getElem (by omega)] at h
  cases h
  exact this.symm
theorem heap_take {n : Nat} {q : List QE} (h : Heap n q) (hl : n ≤ q.length) : Heap (q.take n).length (q.take n) := fun k a b hk hkn ha hb => by
  rw [List.length_take, Nat.min_eq_left hl] at hkn
  have := par_lt hk
  rw [List.getElem?_take_of_lt hkn] at ha
  rw [List.getElem?_take_of_lt (by omega)] at hb
  exact h k a b hk hkn ha hb
set_option maxRecDepth 100000 in
theorem heap_pop {g : Nat} {v : Value} {mo : Option Nat} {q : List QE} {n : Nat} {e : QE} (hl : q.length = n + 1) (hn : n < 999999) (hh : Heap q.length q) (he : q[0]? = some e) : FSpec Try.prog 54 [hI g] (qC g v mo q)
    fun a cs => ∃ v' q', (q' ++ [e]).Perm q ∧ Heap q'.length q' ∧ a = .ifc 99 (.d (.v (ptrB e.b))) ∧ cs = qC g v' mo q' ++ [entC q'.length e] := by
  have h0 : 0 < q.length := by omega
  have hnl : n < q.length := by omega
  refine FSpec.weak (R := fun a cs => ∃ v' q', (q' ++ [e]).Perm q ∧ Heap q'.length q' ∧ a = .ifc 99 (.d (.v (ptrB e.b))) ∧ Ent cs (qC g v' mo q' ++ [entC q'.length e])) ?_ fun a cs hR => ?_
  rotate_left
  · obtain ⟨v', q', h1, h2, h3, h4⟩ := hR
    exact ⟨a, qC g v' mo q' ++ [entC q'.length e], [], Fit.refl _, h4, v', q', h1, h2, h3, rfl⟩
  refine a_enter hT [hI g] [10, 30, 32] Try.func54 rfl rfl rfl ⟨⟨rfl, rfl⟩, trivial⟩ fun c => ?_
  refine a_invV hT (.row v 30) rfl rfl rfl rfl iLen (by kernel_rfl) rfl rfl rfl (qlen_spec (h := 30) (v := v) (q := q)) [30] [30] ⟨rfl, trivial⟩ rfl ⟨⟨rfl, rfl, rfl, rfl⟩, trivial⟩ ?_
  rintro _ _ ⟨rfl, rfl⟩
  have hw : IntKind.i64.wrap ((q.length : Int) - 1) = (n : Int) := by
    rw [wrap64 (by omega) (by omega)]
    omega
  refine a_invV hT (.row v 30) rfl rfl rfl rfl iSwap (by kernel_rfl) rfl rfl rfl (swap_any (h := 30) (h1 := 0) (h2 := 0) (v := v) (q := q) h0 hnl) [30, 32] [30, 32] ⟨rfl, rfl, by show Value.int .i64 (IntKind.i64.wrap ((q.length : Int) - 1)) = .int .i64 (n : Int); rw [hw], trivial⟩ rfl ⟨⟨rfl, rfl, rfl, rfl⟩, rfl, trivial⟩ ?_
  rintro _ _ rfl
  have he0 : q[0] = e := by rw [List.getElem?_eq_getElem h0] at he; cases he; rfl
  have hp1 := perm_any h0 hnl
  have gs := fun k => get_swap (q := q) (i := 0) (j := n) (a := q[0]) (b := q[n]) h0 hnl k
  have hl1 := swap_len q 0 n q[0] q[n]
  generalize swapQ q 0 n q[0] q[n] = q1 at hp1 gs hl1
  have hd : DnI n q1 0 0 := dn_of_heap (m := n + 1) (q0 := q) (by omega) (by rw [← hl]; exact hh) (by omega) fun k hk hne => by rw [gs, if_neg (by omega), if_neg hne]
  refine a_callF hT rfl rfl rfl (by kernel_rfl) (down_spec (g := g) (h1 := 0) (h2 := 0) (v := v) (mo := mo) (q := q1) (n := n) (i0 := 0) (by omega) (by omega) (by omega) hd) [10, 30, 32] [10, 30, 32] ⟨⟨rfl, rfl⟩, rfl, by show Value.int .i64 (IntKind.i64.wrap ((q.length : Int) - 1)) = .int .i64 (n : Int); rw [hw], trivial⟩ rfl ⟨⟨rfl, rfl, rfl, rfl, trivial⟩, ⟨rfl, rfl, rfl, rfl⟩, rfl, trivial⟩ ?_
  rintro a _ ⟨q2, hp2, hr2, hres, rfl⟩
  have hh2 : Heap n q2 := by
    rcases hres with ⟨_, h⟩ | ⟨_, h⟩
    · exact h
    · exact up_end h fun a b h => absurd h (by omega)
  have hl2 : q2.length = n + 1 := by rw [hp2.length_eq, hl1, hl]
  have hlast : q2[n]? = some e := by rw [hr2 n (Nat.le_refl _), gs, if_pos rfl, he0]
  have hq2 := take_last hl2 hlast
  generalize hq' : q2.take n = q' at hq2
  have hlq' : q'.length = n := by rw [← hq', List.length_take]; omega
  have hh' : Heap q'.length q' := by rw [← hq']; exact heap_take hh2 (by omega)
  subst hq2
  refine a_invP hT rfl rfl rfl rfl iPop (by kernel_rfl) (qpop_spec (h := 10) (g := g) (v := v) (mo := mo) (q := q') (e := e) (by omega)) [10, 30] [10, 30] ⟨rfl, trivial⟩ rfl ⟨⟨rfl, rfl, rfl, rfl, trivial⟩, ⟨rfl, rfl, rfl, rfl⟩, trivial⟩ ?_
  rintro _ _ ⟨v', rfl, rfl⟩
  refine a_ret hT [10, 30, 32] rfl rfl rfl rfl rfl rfl ⟨v', q', hp2.trans hp1, hh', rfl, Ent.cons _ (Ent.cons _ (ents_unsnoc q' e))⟩
end Go.Proofs.Ytepjnmocepkfjaa
end

section
/- container/heap's Fix and Remove on layer 17's queue. -/
set_option linter.unusedVariables false
set_option linter.unusedSimpArgs false
namespace Go.Proofs.Ytepjnmocepkfjaa
open V A
set_option maxRecDepth 100000 in
theorem heap_fix {g h1 : Nat} {v : Value} {mo : Option Nat} {q : List QE} {i : Nat} (hl : q.length < 1000000) (hi : i < q.length) (hd : DnI q.length q i i) : FSpec Try.prog 50 [hI g, .v (.int .i64 i) h1] (qC g v mo q)
    fun _ cs => ∃ q', q'.Perm q ∧ Heap q'.length q' ∧ cs = qC g v mo q' := by
  refine a_enter hT [hI g, nA i] [10, 30, 32] Try.func50 rfl rfl rfl ⟨⟨rfl, rfl⟩, rfl, trivial⟩ fun c => ?_
  refine a_invV hT (.row v 30) rfl rfl rfl rfl iLen (by kernel_rfl) rfl rfl rfl (qlen_spec (h := 30) (v := v) (q := q)) [30] [30] ⟨rfl, trivial⟩ rfl ⟨⟨rfl, rfl, rfl, rfl⟩, trivial⟩ ?_
  rintro _ _ ⟨rfl, rfl⟩
  refine a_callF hT rfl rfl rfl (by kernel_rfl) (down_spec (g := g) (h1 := 0) (h2 := 0) (v := v) (mo := mo) (q := q) (n := q.length) (i0 := i) (Nat.le_refl _) hl (Nat.le_of_lt hi) hd) [10, 30, 32] [10, 30, 32] ⟨⟨rfl, rfl⟩, rfl, rfl, trivial⟩ rfl ⟨⟨rfl, rfl, rfl, rfl, trivial⟩, ⟨rfl, rfl, rfl, rfl⟩, rfl, trivial⟩ ?_
  rintro a _ ⟨q2, hp2, _, ⟨rfl, hh⟩ | ⟨rfl, hu⟩, rfl⟩
  · refine a_f hT rfl rfl rfl ?_
    exact a_end hT [10, 30, 32] rfl rfl rfl rfl rfl rfl ⟨q2, hp2, by rw [hp2.length_eq]; exact hh, rfl⟩
  · refine a_t hT rfl rfl rfl ?_
    have hl2 := hp2.length_eq
    refine a_callF hT rfl rfl rfl (by kernel_rfl) (up_spec (g := g) (h1 := 0) (v := v) (mo := mo) (q := q2) (n := q.length) (j := i) (by omega) (by omega) hi hu) [10, 30, 32] [10, 30, 32] ⟨⟨rfl, rfl⟩, rfl, trivial⟩ rfl ⟨⟨rfl, rfl, rfl, rfl, trivial⟩, ⟨rfl, rfl, rfl, rfl⟩, rfl, trivial⟩ ?_
    rintro _ _ ⟨q3, hp3, hh3, _, rfl⟩
    exact a_end hT [10, 30, 32] rfl rfl rfl rfl rfl rfl ⟨q3, hp3.trans hp2, by rw [hp3.length_eq, hl2]; exact hh3, rfl⟩
set_option maxRecDepth 100000 in
theorem heap_remove {g h1 : Nat} {v : Value} {mo : Option Nat} {q : List QE} {n i : Nat} {e : QE} (hl : q.length = n + 1) (hn : n < 999999) (hh : Heap q.length q) (he : q[i]? = some e) : FSpec Try.prog 67 [hI g, .v (.int .i64 i) h1] (qC g v mo q)
    fun a cs => ∃ v' q', (q' ++ [e]).Perm q ∧ Heap q'.length q' ∧ a = .ifc 99 (.d (.v (ptrB e.b))) ∧ cs = qC g v' mo q' ++ [entC q'.length e] := by
  have hil : i < q.length := (List.getElem?_eq_some_iff.1 he).1
  have hnl : n < q.length := by omega
  refine FSpec.weak (R := fun a cs => ∃ v' q', (q' ++ [e]).Perm q ∧ Heap q'.length q' ∧ a = .ifc 99 (.d (.v (ptrB e.b))) ∧ Ent cs (qC g v' mo q' ++ [entC q'.length e])) ?_ fun a cs hR => ?_
  rotate_left
  · obtain ⟨v', q', h1, h2, h3, h4⟩ := hR
    exact ⟨a, qC g v' mo q' ++ [entC q'.length e], [], Fit.refl _, h4, v', q', h1, h2, h3, rfl⟩
  refine a_enter hT [hI g, nA i] [10, 30, 32] Try.func67 rfl rfl rfl ⟨⟨rfl, rfl⟩, rfl, trivial⟩ fun c => ?_
  refine a_invV hT (.row v 30) rfl rfl rfl rfl iLen (by kernel_rfl) rfl rfl rfl (qlen_spec (h := 30) (v := v) (q := q)) [30] [30] ⟨rfl, trivial⟩ rfl ⟨⟨rfl, rfl, rfl, rfl⟩, trivial⟩ ?_
  rintro _ _ ⟨rfl, rfl⟩
  have hw : IntKind.i64.wrap ((q.length : Int) - 1) = (n : Int) := by
    rw [wrap64 (by omega) (by omega)]
    omega
  -- the part that is left
  refine a_cutM hT [0] (fun q2 : List QE => [hI g]) (fun q2 => qS g v mo q2) (fun q2 => q2.Perm q ∧ Heap n q2 ∧ q2[n]? = some e) 4 rfl rfl ?_ ?_
  · refine a_as 5 (b := nA n) rfl (by show Value.int .i64 (IntKind.i64.wrap ((q.length : Int) - 1)) = .int .i64 (n : Int); rw [hw]) ?_
    refine a_if hT rfl rfl (fun hb => ?_) (fun hb => ?_)
    · have hne : n ≠ i := by
        have : ¬ (n : Int) = i := by simpa using hb
        omega
      refine a_invV hT (.row v 30) rfl rfl rfl rfl iSwap (by kernel_rfl) rfl rfl rfl (swap_any (h := 30) (h1 := 0) (h2 := 0) (v := v) (q := q) hil hnl) [30, 32] [30, 32] ⟨rfl, rfl, rfl, trivial⟩ rfl ⟨⟨rfl, rfl, rfl, rfl⟩, rfl, trivial⟩ ?_
      rintro _ _ rfl
      have he0 : q[i] = e := by rw [List.getElem?_eq_getElem hil] at he; cases he; rfl
      have hp1 := perm_any hil hnl
      have gs := fun k => get_swap (q := q) (i := i) (j := n) (a := q[i]) (b := q[n]) hil hnl k
      have hl1 := swap_len q i n q[i] q[n]
      generalize swapQ q i n q[i] q[n] = q1 at hp1 gs hl1
      have hd : DnI n q1 i i := dn_of_heap (m := n + 1) (q0 := q) (by omega) (by rw [← hl]; exact hh) (by omega) fun k hk hne => by rw [gs, if_neg (by omega), if_neg hne]
      refine a_callF hT rfl rfl rfl (by kernel_rfl) (down_spec (g := g) (h1 := 0) (h2 := 0) (v := v) (mo := mo) (q := q1) (n := n) (i0 := i) (by omega) (by omega) (by omega) hd) [10, 30, 32] [10, 30, 32] ⟨⟨rfl, rfl⟩, rfl, rfl, trivial⟩ rfl ⟨⟨rfl, rfl, rfl, rfl, trivial⟩, ⟨rfl, rfl, rfl, rfl⟩, rfl, trivial⟩ ?_
      rintro a _ ⟨q2, hp2, hr2, ⟨rfl, hh2⟩ | ⟨rfl, hu2⟩, rfl⟩
      · refine a_f hT rfl rfl rfl ?_
        exact a_next hT q2 [10, 30, 32] rfl rfl ⟨hp2.trans hp1, hh2, by rw [hr2 n (Nat.le_refl _), gs, if_pos rfl, he0]⟩ ⟨⟨rfl, rfl⟩, trivial⟩ rfl ⟨⟨rfl, rfl, rfl, rfl, trivial⟩, ⟨rfl, rfl, rfl, rfl⟩, rfl, trivial⟩
      · refine a_t hT rfl rfl rfl ?_
        have hl2 := hp2.length_eq
        refine a_callF hT rfl rfl rfl (by kernel_rfl) (up_spec (g := g) (h1 := 0) (v := v) (mo := mo) (q := q2) (n := n) (j := i) (by omega) (by omega) (by omega) hu2) [10, 30, 32] [10, 30, 32] ⟨⟨rfl, rfl⟩, rfl, trivial⟩ rfl ⟨⟨rfl, rfl, rfl, rfl, trivial⟩, ⟨rfl, rfl, rfl, rfl⟩, rfl, trivial⟩ ?_
        rintro _ _ ⟨q3, hp3, hh3, hr3, rfl⟩
        exact a_next hT q3 [10, 30, 32] rfl rfl ⟨(hp3.trans hp2).trans hp1, hh3, by rw [hr3 n (Nat.le_refl _), hr2 n (Nat.le_refl _), gs, if_pos rfl, he0]⟩ ⟨⟨rfl, rfl⟩, trivial⟩ rfl ⟨⟨rfl, rfl, rfl, rfl, trivial⟩, ⟨rfl, rfl, rfl, rfl⟩, rfl, trivial⟩
    · have hne : n = i := by
        have : (n : Int) = i := by simpa using hb
        omega
      refine a_next hT q [10, 30, 32] rfl rfl ⟨List.Perm.refl _, fun k a b hk hkn => hh k a b hk (by omega), by rw [hne]; exact he⟩ ⟨⟨rfl, rfl⟩, trivial⟩ rfl ⟨⟨rfl, rfl, rfl, rfl, trivial⟩, ⟨rfl, rfl, rfl, rfl⟩, rfl, trivial⟩
  · rintro q2 ⟨hp2, hh2, hlast⟩
    have hl2 : q2.length = n + 1 := by rw [hp2.length_eq, hl]
    have hq2 := take_last hl2 hlast
    generalize hq' : q2.take n = q' at hq2
    have hlq' : q'.length = n := by rw [← hq', List.length_take]; omega
    have hh' : Heap q'.length q' := by rw [← hq']; exact heap_take hh2 (by omega)
    subst hq2
    refine a_invP hT rfl rfl rfl rfl iPop (by kernel_rfl) (qpop_spec (h := 10) (g := g) (v := v) (mo := mo) (q := q') (e := e) (by omega)) [10, 30] [10, 30] ⟨rfl, trivial⟩ rfl ⟨⟨rfl, rfl, rfl, rfl, trivial⟩, ⟨rfl, rfl, rfl, rfl⟩, trivial⟩ ?_
    rintro _ _ ⟨v', rfl, rfl⟩
    refine a_ret hT [10, 30, 32] rfl rfl rfl rfl rfl rfl ⟨v', q', hp2, hh', rfl, Ent.cons _ (Ent.cons _ (ents_unsnoc q' e))⟩
end Go.Proofs.Ytepjnmocepkfjaa
end

section
/- Layer 17's timers: what they are; New, Len, Set. -/
set_option linter.unusedVariables false
set_option linter.unusedSimpArgs false
namespace Go.Proofs.Ytepjnmocepkfjaa
open V A
/-- A timer: its key, and when it is due. -/
abbrev TS := List (Int × Int)
def kd (e : QE) : Int × Int := (e.key, e.due)
def kb (e : QE) : Int × Nat := (e.key, e.b)
def filt {β : Type} (k : Int) (l : List (Int × β)) : List (Int × β) := l.filter fun p => decide (p.1 ≠ k)
theorem filt_perm {β : Type} {k : Int} {l l' : List (Int × β)} (h : l.Perm l') : (filt k l).Perm (filt k l') := h.filter _
theorem filt_self {β : Type} {k : Int} {v : β} {l : List (Int × β)} : filt k ((k, v) :: l) = filt k l := by unfold filt; simp
theorem filt_no {β : Type} {k : Int} {l : List (Int × β)} (h : k ∉ l.map (·.1)) : filt k l = l := by
  unfold filt
  rw [List.filter_eq_self]
  intro p hp
  simp only [decide_eq_true_eq]
  exact fun e => h (by rw [← e]; exact List.mem_map.2 ⟨p, hp, rfl⟩)
/-- One of many, by its key. -/
theorem filt_one {β : Type} {k : Int} {v : β} {l r : List (Int × β)} (hp : l.Perm ((k, v) :: r)) (hn : (l.map (·.1)).Nodup) : (filt k l).Perm r ∧ k ∉ r.map (·.1) := by
  have h1 : (((k, v) :: r).map (·.1)).Nodup := (hp.map _).nodup_iff.1 hn
  rw [List.map_cons, List.nodup_cons] at h1
  have h2 := filt_perm (k := k) hp
  rw [filt_self, filt_no h1.1] at h2
  exact ⟨h2, h1.1⟩
theorem adel_filt {β : Type} : ∀ {l : List (Int × β)} {k : Int}, (l.map (·.1)).Nodup → adel l k = filt k l
  | [], k, h => rfl
  | (j, u) :: l, k, h => by
    rw [List.map_cons, List.nodup_cons] at h
    unfold adel filt
    by_cases e : j = k
    · subst e
      rw [if_pos rfl, List.filter_cons, if_neg (by simp)]
      exact (filt_no h.1).symm
    · rw [if_neg e, List.filter_cons, if_pos (by simp [e]), adel_filt h.2]
      rfl
theorem aget_of_mem {β : Type} : ∀ {l : List (Int × β)} {k : Int} {v : β}, (l.map (·.1)).Nodup → (k, v) ∈ l → aget l k = some v
  | [], k, v, h, hm => by simp at hm
  | (j, u) :: l, k, v, h, hm => by
    rw [List.map_cons, List.nodup_cons] at h
    unfold aget
    rcases List.mem_cons.1 hm with e | hm
    · cases e; rw [if_pos rfl]
    · rw [if_neg fun e => h.1 (by rw [e]; exact List.mem_map.2 ⟨_, hm, rfl⟩)]
      exact aget_of_mem h.2 hm
def bV (b : Nat) : AV := ptrA b 40
def mapB (mo : Option Nat) (ents : List (Int × Nat)) : Chunk := match mo with
  | none => .ext (listA [])
  | some m => .map m (mapG kU bV ents)
structure TX where
  v : Value
  mo : Option Nat
  q : List QE
  ents : List (Int × Nat)
structure TX.ok (x : TX) (S : TS) : Prop where
  s : (x.q.map kd).Perm S
  h : Heap x.q.length x.q
  e : (x.q.map kb).Perm x.ents
  n : x.mo = none → x.q = []
def TX.cs (g : Nat) (x : TX) : List Chunk := qC g x.v x.mo x.q ++ [mapB x.mo x.ents]
def tmA (g : Nat) (S : TS) : Asrt := exA (fun x : TX => x.ok S) (TX.cs g)
theorem tm_pack {g : Nat} {S : TS} {x : TX} (h : x.ok S) : Ent (x.cs g) [.ext (tmA g S)] := ent_pack (f := TX.cs g) x h
theorem tm_unpack (g : Nat) (S : TS) : EntX [.ext (tmA g S)] (fun x : TX => x.ok S) (TX.cs g) := ent_unpack _ _
theorem tm_perm {g : Nat} {S S' : TS} (h : S.Perm S') : Ent [.ext (tmA g S)] [.ext (tmA g S')] := fun M w U hh => by
  obtain ⟨x, hx, h1⟩ := tm_unpack g S M w U hh
  exact tm_pack (x := x) ⟨hx.s.trans h, hx.h, hx.e, hx.n⟩ M w U h1
theorem tm_spec {f : FuncId} {args : List AV} {g : Nat} {S : TS} {R : AV → TS → Prop} (h : ∀ x : TX, x.ok S → FSpec Try.prog f args (x.cs g) fun a cs => ∃ S', R a S' ∧ Ent cs [.ext (tmA g S')]) : FSpec Try.prog f args [.ext (tmA g S)] fun a cs => ∃ S', R a S' ∧ cs = [.ext (tmA g S')] := by
  refine FSpec.entX (tm_unpack g S) fun x hx => ?_
  exact (h x hx).weak fun a cs ⟨S', h1, h2⟩ => ⟨a, [.ext (tmA g S')], [], Fit.refl _, h2, S', h1, rfl⟩
theorem mtB : mapT Try.prog 96 25 99 = true := by kernel_rfl
theorem zeroB : (Try.prog.info? 99).map (·.zero) = some (some (.pointer none)) := by kernel_rfl
/-- New. -/
theorem tnew_spec : FSpec Try.prog 26 [] [] fun a cs => ∃ g, a = ptrA g 10 ∧ cs = [.ext (tmA g [])] := by
  refine FSpec.weak (R := fun a cs => ∃ g, a = ptrA g 10 ∧ cs = [.blk g 98 [.v (.slice none 0 0) 0, .v (.map none) 0]]) ?_ fun a cs hR => ?_
  · refine a_enter hT [] [] Try.func26 rfl rfl rfl trivial fun c => ?_
    refine a_build hT hZ [.v (.slice none 0 0) 0, .v (.map none) 0] rfl rfl rfl rfl rfl rfl ?_
    refine a_box hT 10 rfl rfl rfl rfl fun g => ?_
    exact a_ret hT [10] rfl rfl rfl rfl rfl rfl ⟨g, rfl, rfl⟩
  · obtain ⟨g, rfl, rfl⟩ := hR
    refine ⟨_, [.ext (tmA g [])], [], Fit.refl _, ?_, g, rfl, rfl⟩
    have e1 : Ent [.blk g 98 [.v (.slice none 0 0) 0, .v (.map none) 0]] [tmBlk g (.slice none 0 0) none] := fun M w U hh => by
      refine holds_one.2 ?_
      obtain ⟨hS, xs, hb, hr, h1⟩ := holds_one.1 hh
      refine ⟨hS, xs, hb, ?_, h1⟩
      unfold Reps at hr
      obtain ⟨x, r, rfl, hx, hr⟩ := hr
      have := rep_v hx
      subst this
      exact Reps.cons (by unfold Rep; exact ⟨rfl, rfl⟩) (Fits.reps (show Fits [.v (.map none) 0] [.v (.map none) 11] from ⟨rfl, trivial⟩) hr)
    have e2 : Ent [] [rowP (.slice none 0 0) []] := fun M w U hh => holds_one.2 (by
      have h := row_nil (M := M) (w := w) 99 1
      exact ⟨fun b => ⟨fun hb => (hh b hb).elim, fun hb => ((h.1 b).2 hb).elim⟩, h.2⟩)
    exact (e1.trans (Ent.cons _ (Ent.app e2 (Ent.app (ent_shut []) (ent_shut []))))).trans (tm_pack (x := ⟨.slice none 0 0, none, [], []⟩) ⟨List.Perm.nil, fun k a b _ hk => absurd hk (by simp), List.Perm.nil, fun _ => rfl⟩)
end Go.Proofs.Ytepjnmocepkfjaa
end

section
/- Layer 17's timers: Len, Set. -/
set_option linter.unusedVariables false
set_option linter.unusedSimpArgs false
namespace Go.Proofs.Ytepjnmocepkfjaa
open V A
theorem TX.ok.len {x : TX} {S : TS} (h : x.ok S) : x.q.length = S.length := by have := h.s.length_eq; simpa using this
theorem tlen_spec {g h : Nat} {S : TS} : FSpec Try.prog 64 [ptrA g h] [.ext (tmA g S)] fun a cs => ∃ S', (a = nA S.length ∧ S' = S) ∧ cs = [.ext (tmA g S')] := by
  refine tm_spec fun x hx => ?_
  refine a_enter hT [ptrA g 10] [10, 30, 32, 11] Try.func64 rfl rfl rfl ⟨rfl, trivial⟩ fun c => ?_
  refine a_f hT rfl rfl rfl ?_
  refine a_ret hT [10, 30, 32, 11] rfl rfl rfl rfl rfl rfl ⟨S, ⟨?_, rfl⟩, tm_pack hx⟩
  show AV.v (.int .i64 ((x.q.map pB).length : Int)) 0 = .v (.int .i64 (S.length : Int)) 0
  rw [List.length_map, hx.len]
theorem kb_keys (q : List QE) : (q.map kb).map (·.1) = q.map (·.key) := by rw [List.map_map]; rfl
theorem kd_keys (q : List QE) : (q.map kd).map (·.1) = q.map (·.key) := by rw [List.map_map]; rfl
/-- The keys are apart. -/
theorem TX.ok.nd {x : TX} {S : TS} (h : x.ok S) (hS : (S.map (·.1)).Nodup) : (x.q.map (·.key)).Nodup ∧ (x.ents.map (·.1)).Nodup := by
  have h1 := (h.s.map (·.1)).nodup_iff.2 hS
  rw [kd_keys] at h1
  have h2 := (h.e.map (·.1)).nodup_iff.1 (by rw [kb_keys]; exact h1)
  exact ⟨h1, h2⟩
/-- What the map tells is in the queue. -/
theorem TX.ok.find {x : TX} {S : TS} (h : x.ok S) {k : Int} {b : Nat} (hg : aget x.ents k = some b) : ∃ (i : Nat) (hi : i < x.q.length), x.q[i].key = k ∧ x.q[i].b = b := by
  have hm := h.e.mem_iff.2 (aget_mem hg)
  obtain ⟨e, he, hk⟩ := List.mem_map.1 hm
  obtain ⟨i, hi, rfl⟩ := List.getElem_of_mem he
  unfold kb at hk
  cases hk
  exact ⟨i, hi, rfl, rfl⟩
theorem TX.ok.none {x : TX} {S : TS} (h : x.ok S) {k : Int} (hg : aget x.ents k = none) : k ∉ S.map (·.1) := by
  have h1 := aget_nomem hg
  rw [← ((h.s.map (·.1)).mem_iff), kd_keys, ← kb_keys, (h.e.map (·.1)).mem_iff]
  exact h1
def setP (S : TS) (k d : Int) : TS := (k, d) :: filt k S
theorem set_new {x : TX} {S : TS} (hx : x.ok S) {k d : Int} {b : Nat} (hg : aget x.ents k = none) {q' : List QE} (hp : q'.Perm (x.q ++ [⟨b, k, d⟩])) : (q'.map kd).Perm (setP S k d) := by
  unfold setP
  rw [filt_no (hx.none hg)]
  have h1 := hp.map kd
  rw [List.map_append] at h1
  exact (h1.trans List.perm_append_comm).trans (List.Perm.cons _ hx.s)
theorem eraseIdx_perm {q : List QE} {i : Nat} (hi : i < q.length) : q.Perm (q[i] :: q.eraseIdx i) := by
  have h := perm_set q i q[i] hi
  rw [set_same (List.getElem?_eq_getElem hi)] at h
  exact h
theorem set_old {x : TX} {S : TS} (hx : x.ok S) (hS : (S.map (·.1)).Nodup) {k d : Int} {b i : Nat} (hi : i < x.q.length) (hk : x.q[i].key = k) {q' : List QE} (hp : q'.Perm (x.q.set i ⟨b, k, d⟩)) : (q'.map kd).Perm (setP S k d) := by
  have h1 := (hp.trans (perm_set x.q i ⟨b, k, d⟩ hi)).map kd
  have h2 := hx.s.symm.trans ((eraseIdx_perm hi).map kd)
  rw [List.map_cons] at h1 h2
  have e : kd x.q[i] = (k, x.q[i].due) := by unfold kd; rw [hk]
  rw [e] at h2
  have h3 := (filt_one h2 hS).1
  unfold setP
  exact h1.trans (List.Perm.cons _ h3.symm)
theorem hIe (g : Nat) : AV.ifc 104 (.v (.pointer (some ((⟨g, 0, none⟩ : Addr).add 0))) 10) = hI g := rfl
set_option maxRecDepth 100000 in
theorem tset_spec {g h h1 h2 : Nat} {S : TS} {k d : Int} (hS : (S.map (·.1)).Nodup) (hl : S.length < 999999) : FSpec Try.prog 29 [ptrA g h, .v (kU k) h1, .v (kI d) h2] [.ext (tmA g S)] fun _ cs => ∃ S', (S' = setP S k d) ∧ cs = [.ext (tmA g S')] := by
  refine tm_spec (R := fun _ S' => S' = setP S k d) fun x hx => ?_
  obtain ⟨v, mo, q, ents⟩ := x
  have hlen := hx.len
  obtain ⟨hnq, hne⟩ := hx.nd hS
  refine a_enter hT [ptrA g 10, .v (kU k) 0, .v (kI d) 0] [10, 30, 32, 11] Try.func29 rfl rfl rfl ⟨rfl, rfl, rfl, trivial⟩ fun c => ?_
  refine a_f hT rfl rfl rfl ?_
  cases mo with
  | none =>
    have hq : q = [] := hx.n rfl
    subst hq
    have he : ents = [] := List.Perm.eq_nil hx.e.symm
    subst he
    refine a_lookN hT k rfl rfl rfl mtB kU_ok zeroB rfl rfl ?_
    refine a_f hT rfl rfl rfl ?_
    refine a_t hT rfl rfl rfl ?_
    refine a_mkmap hT 11 rfl rfl rfl fun m => ?_
    refine a_build hT hZ [.v (kU k) 0, .v (kI d) 0, .v (.int .i64 0) 0] rfl rfl rfl rfl rfl rfl ?_
    refine a_box hT 40 rfl rfl rfl rfl fun b => ?_
    refine a_mputG hT (kv := kU) (va := bV) [] k b rfl rfl rfl mtB kU_ok rfl rfl rfl rfl rfl rfl ?_
    refine a_callF hT rfl rfl rfl (by kernel_rfl) (heap_push (g := g) (h2 := 0) (v := v) (mo := some m) (q := []) (e := ⟨b, k, d⟩) (x := .int .i64 0) (by decide) hx.h) [10, 30, 32, 40] [10, 30, 32] ⟨⟨rfl, rfl⟩, ⟨rfl, rfl⟩, trivial⟩ rfl ⟨⟨rfl, rfl, rfl, rfl, trivial⟩, ⟨rfl, rfl, rfl, rfl⟩, rfl, ⟨rfl, rfl, rfl, rfl, rfl, trivial⟩, trivial⟩ ?_
    rintro _ _ ⟨v', q', hp, hh, rfl⟩
    refine a_end hT [10, 30, 32, 11] rfl rfl rfl rfl rfl rfl ⟨_, rfl, tm_pack (x := ⟨v', some m, q', [(k, b)]⟩) ⟨?_, hh, hp.map kb, by simp⟩⟩
    exact set_new hx rfl hp
  | some m =>
    cases hres : aget ents k with
    | none =>
      refine a_lookG hT (kv := kU) (va := bV) ents k none rfl rfl rfl mtB kU_ok zeroB rfl rfl rfl rfl rfl hres ?_
      refine a_f hT rfl rfl rfl ?_
      refine a_f hT rfl rfl rfl ?_
      refine a_build hT hZ [.v (kU k) 0, .v (kI d) 0, .v (.int .i64 0) 0] rfl rfl rfl rfl rfl rfl ?_
      refine a_box hT 40 rfl rfl rfl rfl fun b => ?_
      refine a_mputG hT (kv := kU) (va := bV) ents k b rfl rfl rfl mtB kU_ok rfl rfl rfl rfl rfl rfl ?_
      refine a_callF hT rfl rfl rfl (by kernel_rfl) (heap_push (g := g) (h2 := 0) (v := v) (mo := some m) (q := q) (e := ⟨b, k, d⟩) (x := .int .i64 0) (by have : q.length = S.length := hlen; omega) hx.h) [10, 30, 32, 40] [10, 30, 32] ⟨⟨rfl, rfl⟩, ⟨rfl, rfl⟩, trivial⟩ rfl ⟨⟨rfl, rfl, rfl, rfl, trivial⟩, ⟨rfl, rfl, rfl, rfl⟩, rfl, ⟨rfl, rfl, rfl, rfl, rfl, trivial⟩, trivial⟩ ?_
      rintro _ _ ⟨v', q', hp, hh, rfl⟩
      refine a_end hT [10, 30, 32, 11] rfl rfl rfl rfl rfl rfl ⟨_, rfl, tm_pack (x := ⟨v', some m, q', aput ents k b⟩) ⟨set_new hx hres hp, hh, ?_, by simp⟩⟩
      have h1 := hp.map kb
      rw [List.map_append] at h1
      show (q'.map kb).Perm (aput ents k b)
      rw [aput_new hres]
      exact h1.trans (List.Perm.append hx.e (List.Perm.refl _))
    | some b =>
      obtain ⟨i, hi, hk, hb⟩ := hx.find hres
      have hi : i < q.length := hi
      have hk : q[i].key = k := hk
      have hb : q[i].b = b := hb
      subst hb
      refine a_lookG hT (kv := kU) (va := bV) ents k (some q[i].b) rfl rfl rfl mtB kU_ok zeroB rfl rfl rfl rfl rfl hres ?_
      refine a_t hT rfl rfl rfl ?_
      obtain ⟨r, ho, hs⟩ := ents_one hi
      refine a_ent [32] [40, 32] _ rfl rfl ho ?_
      refine a_draw hT [] true [(0, false), (4, false), (1, false), (5, false), (2, false), (6, false), (3, false), (7, false), (8, true)] rfl rfl (by kernel_rfl) (by kernel_rfl) rfl ?_
      have hd : DnI (q.set i ⟨q[i].b, q[i].key, d⟩).length (q.set i ⟨q[i].b, q[i].key, d⟩) i i := by
        rw [List.length_set]
        exact dn_of_heap (m := q.length) (q0 := q) (Nat.le_refl _) hx.h (Nat.le_refl _) fun k hk hne => List.getElem?_set_ne (Ne.symm hne)
      have hrow : rowP v (q.set i ⟨q[i].b, q[i].key, d⟩) = rowP v q := by
        unfold rowP
        rw [List.map_set, set_same (by rw [List.getElem?_map, List.getElem?_eq_getElem hi]; rfl)]
      have hent : Ent [tmBlk g v (some m), rowP v q, entC i ⟨q[i].b, q[i].key, d⟩, .ext (listA r)] (qC g v (some m) (q.set i ⟨q[i].b, q[i].key, d⟩)) := by
        unfold qC
        rw [hrow]
        exact Ent.cons _ (Ent.cons _ (hs ⟨q[i].b, q[i].key, d⟩))
      refine a_callF hT rfl rfl rfl (by kernel_rfl) ((heap_fix (g := g) (h1 := 0) (v := v) (mo := some m) (q := q.set i ⟨q[i].b, q[i].key, d⟩) (i := i) (by rw [List.length_set]; have : q.length = S.length := hlen; omega) (by rw [List.length_set]; exact hi) hd).ent hent) [10, 30, 40, 32] [10, 30, 32] ⟨⟨rfl, rfl⟩, rfl, trivial⟩ rfl ⟨⟨rfl, rfl, rfl, rfl, trivial⟩, ⟨rfl, rfl, rfl, rfl⟩, ⟨rfl, rfl, rfl, rfl, rfl, trivial⟩, rfl, trivial⟩ ?_
      rintro _ _ ⟨q', hp, hh, rfl⟩
      refine a_ret hT [10, 30, 32, 11] rfl rfl rfl rfl rfl rfl ⟨_, rfl, tm_pack (x := ⟨v, some m, q', ents⟩) ⟨set_old (b := q[i].b) (i := i) hx hS hi hk (by rw [← hk]; exact hp), hh, ?_, by simp⟩⟩
      have h1 := hp.map kb
      rw [List.map_set, set_same (by rw [List.getElem?_map, List.getElem?_eq_getElem hi]; rfl)] at h1
      exact h1.trans hx.e
end Go.Proofs.Ytepjnmocepkfjaa
end

section
/- Layer 17's timers: Stop, Due, First, Next. -/
set_option linter.unusedVariables false
set_option linter.unusedSimpArgs false
namespace Go.Proofs.Ytepjnmocepkfjaa
open V A
theorem TX.ok.due {x : TX} {S : TS} (h : x.ok S) (hS : (S.map (·.1)).Nodup) {i : Nat} (hi : i < x.q.length) : aget S x.q[i].key = some x.q[i].due := by
  refine aget_of_mem hS (h.s.mem_iff.1 (List.mem_map.2 ⟨x.q[i], List.getElem_mem hi, rfl⟩))
theorem aget_none {β : Type} : ∀ {l : List (Int × β)} {k : Int}, k ∉ l.map (·.1) → aget l k = none
  | [], k, h => rfl
  | (j, u) :: l, k, h => by
    rw [List.map_cons, List.mem_cons, not_or] at h
    unfold aget
    rw [if_neg fun e => h.1 e.symm, aget_none h.2]
set_option maxRecDepth 100000 in
theorem tstop_spec {g h h1 : Nat} {S : TS} {k : Int} (hS : (S.map (·.1)).Nodup) (hl : S.length < 999999) : FSpec Try.prog 53 [ptrA g h, .v (kU k) h1] [.ext (tmA g S)] fun a cs => ∃ S', (a = .v (.bool (aget S k).isSome) 0 ∧ S' = filt k S) ∧ cs = [.ext (tmA g S')] := by
  refine tm_spec fun x hx => ?_
  obtain ⟨v, mo, q, ents⟩ := x
  have hlen := hx.len
  have hlen : q.length = S.length := hlen
  obtain ⟨hnq, hne⟩ := hx.nd hS
  refine a_enter hT [ptrA g 10, .v (kU k) 0] [10, 30, 32, 11] Try.func53 rfl rfl rfl ⟨rfl, rfl, trivial⟩ fun c => ?_
  refine a_f hT rfl rfl rfl ?_
  cases mo with
  | none =>
    have hq : q = [] := hx.n rfl
    subst hq
    have hs : S = [] := List.Perm.eq_nil hx.s.symm
    refine a_lookN hT k rfl rfl rfl mtB kU_ok zeroB rfl rfl ?_
    refine a_f hT rfl rfl rfl ?_
    exact a_ret hT [10, 30, 32, 11] rfl rfl rfl rfl rfl rfl ⟨filt k S, ⟨by rw [hs]; rfl, rfl⟩, by rw [show filt k S = S by rw [hs]; rfl]; exact tm_pack hx⟩
  | some m =>
    cases hres : aget ents k with
    | none =>
      refine a_lookG hT (kv := kU) (va := bV) ents k none rfl rfl rfl mtB kU_ok zeroB rfl rfl rfl rfl rfl hres ?_
      refine a_f hT rfl rfl rfl ?_
      exact a_ret hT [10, 30, 32, 11] rfl rfl rfl rfl rfl rfl ⟨filt k S, ⟨by rw [aget_none (hx.none hres)]; rfl, rfl⟩, by rw [filt_no (hx.none hres)]; exact tm_pack hx⟩
    | some b =>
      obtain ⟨i, hi, hk, hb⟩ := hx.find hres
      have hdue := hx.due hS hi
      have hi : i < q.length := hi
      have hk : q[i].key = k := hk
      have hb : q[i].b = b := hb
      have hdue : aget S q[i].key = some q[i].due := hdue
      subst hb
      refine a_lookG hT (kv := kU) (va := bV) ents k (some q[i].b) rfl rfl rfl mtB kU_ok zeroB rfl rfl rfl rfl rfl hres ?_
      refine a_t hT rfl rfl rfl ?_
      obtain ⟨r, ho, hs⟩ := ents_one hi
      have hs := hs q[i]
      rw [set_same (List.getElem?_eq_getElem hi)] at hs
      refine a_ent [32] [40, 32] _ rfl rfl ho ?_
      refine a_draw hT [] true [(0, false), (4, false), (1, false), (5, false), (2, false), (6, false), (3, false), (7, false), (8, true)] rfl rfl (by kernel_rfl) (by kernel_rfl) rfl ?_
      have hent : Ent [tmBlk g v (some m), rowP v q, entC i q[i], .ext (listA r)] (qC g v (some m) q) := Ent.cons _ (Ent.cons _ hs)
      obtain ⟨n, hn⟩ : ∃ n, q.length = n + 1 := ⟨q.length - 1, by omega⟩
      refine a_callF hT rfl rfl rfl (by kernel_rfl) ((heap_remove (g := g) (h1 := 0) (v := v) (mo := some m) (q := q) (n := n) (i := i) (e := q[i]) hn (by omega) hx.h (List.getElem?_eq_getElem hi)).ent hent) [10, 30, 40, 32] [10, 30, 32, 40] ⟨⟨rfl, rfl⟩, rfl, trivial⟩ rfl ⟨⟨rfl, rfl, rfl, rfl, trivial⟩, ⟨rfl, rfl, rfl, rfl⟩, ⟨rfl, rfl, rfl, rfl, rfl, trivial⟩, rfl, trivial⟩ ?_
      rintro _ _ ⟨v', q', hp, hh, rfl, rfl⟩
      refine a_mdelG hT (kv := kU) (va := bV) ents k rfl rfl rfl rfl mtB kU_ok rfl rfl rfl rfl rfl ?_
      have hp' := (List.perm_append_comm (l₁ := [q[i]]) (l₂ := q')).trans hp
      refine a_ret hT [10, 30, 32, 11] rfl rfl rfl rfl rfl rfl ⟨filt k S, ⟨by rw [← hk, hdue]; rfl, rfl⟩, tm_pack (x := ⟨v', some m, q', adel ents k⟩) ⟨?_, hh, ?_, by simp⟩⟩
      · have h1 := hx.s.symm.trans (hp'.symm.map kd)
        have h1 : S.Perm ((k, q[i].due) :: q'.map kd) := by rw [← hk]; exact h1
        exact (filt_one h1 hS).1.symm
      · have h1 := hx.e.symm.trans (hp'.symm.map kb)
        have h1 : ents.Perm ((k, q[i].b) :: q'.map kb) := by rw [← hk]; exact h1
        show (q'.map kb).Perm (adel ents k)
        rw [adel_filt hne]
        exact (filt_one h1 hne).1.symm
end Go.Proofs.Ytepjnmocepkfjaa
end

section
/- Layer 17's timers: First, Next. -/
set_option linter.unusedVariables false
set_option linter.unusedSimpArgs false
namespace Go.Proofs.Ytepjnmocepkfjaa
open V A
def LK (p q : Int × Int) : Prop := p.2 < q.2 ∨ (p.2 = q.2 ∧ p.1 < q.1)
structure IsMin (S : TS) (p : Int × Int) : Prop where
  m : p ∈ S
  l : ∀ r ∈ S, ¬ LK r p
theorem IsMin.eq {S : TS} {p p' : Int × Int} (h : IsMin S p) (h' : IsMin S p') : p = p' := by
  have h1 := h.l p' h'.m
  have h2 := h'.l p h.m
  unfold LK at h1 h2
  obtain ⟨a, b⟩ := p
  obtain ⟨c, d⟩ := p'
  simp only at h1 h2
  have : a = c := by omega
  have : b = d := by omega
  subst_vars
  rfl
theorem TX.ok.min {x : TX} {S : TS} (h : x.ok S) {e : QE} (he : x.q[0]? = some e) : IsMin S (kd e) := by
  refine ⟨h.s.mem_iff.1 (List.mem_map.2 ⟨e, List.mem_of_getElem? he, rfl⟩), fun r hr => ?_⟩
  obtain ⟨y, hy, rfl⟩ := List.mem_map.1 (h.s.mem_iff.2 hr)
  obtain ⟨i, hi, rfl⟩ := List.getElem_of_mem hy
  exact heap_min (Nat.le_refl _) h.h he i _ hi (List.getElem?_eq_getElem hi)
theorem tlenx_spec {g h : Nat} {x : TX} : FSpec Try.prog 64 [ptrA g h] (x.cs g) fun a cs => a = nA x.q.length ∧ cs = x.cs g := by
  refine a_enter hT [ptrA g 10] [10, 30, 32, 11] Try.func64 rfl rfl rfl ⟨rfl, trivial⟩ fun c => ?_
  refine a_f hT rfl rfl rfl ?_
  refine a_ret hT [10, 30, 32, 11] rfl rfl rfl rfl rfl rfl ⟨?_, rfl⟩
  show AV.v (.int .i64 ((x.q.map pB).length : Int)) 0 = .v (.int .i64 (x.q.length : Int)) 0
  rw [List.length_map]
theorem firstx_spec {g h : Nat} {x : TX} : FSpec Try.prog 49 [ptrA g h] (x.cs g) fun a cs => ((x.q = [] ∧ a = .tup [.v (kI 0) 0, .v (.bool false) 0]) ∨ ∃ e, x.q[0]? = some e ∧ a = .tup [.v (kI e.due) 0, .v (.bool true) 0]) ∧ cs = x.cs g := by
  obtain ⟨v, mo, q, ents⟩ := x
  refine FSpec.weak (R := fun a cs => ((q = [] ∧ a = .tup [.v (kI 0) 0, .v (.bool false) 0]) ∨ ∃ e, q[0]? = some e ∧ a = .tup [.v (kI e.due) 0, .v (.bool true) 0]) ∧ Ent cs (TX.cs g ⟨v, mo, q, ents⟩)) ?_ fun a cs hR => ⟨a, TX.cs g ⟨v, mo, q, ents⟩, [], Fit.refl _, hR.2, hR.1, rfl⟩
  refine a_enter hT [ptrA g 10] [10, 30, 32, 11] Try.func49 rfl rfl rfl ⟨rfl, trivial⟩ fun c => ?_
  refine a_call hT rfl rfl rfl (by kernel_rfl) (tlenx_spec (x := ⟨v, mo, q, ents⟩)) [10, 30, 32, 11] [10, 30, 32, 11] rfl rfl ?_
  rintro _ _ ⟨rfl, rfl⟩
  by_cases hq : q = []
  · subst hq
    refine a_t hT rfl rfl rfl ?_
    exact a_ret hT [10, 30, 32, 11] rfl rfl rfl rfl rfl rfl ⟨.inl ⟨rfl, rfl⟩, Ent.refl _⟩
  · have hi : 0 < q.length := List.length_pos_iff.2 hq
    refine a_f hT rfl rfl (by show ((q.length : Int) == 0) = false; simp; exact hq) ?_
    obtain ⟨r, ho, hs⟩ := ents_one hi
    have hs := hs q[0]
    rw [set_same (List.getElem?_eq_getElem hi)] at hs
    refine a_rowfact 30 rfl rfl fun hf => ?_
    rcases hf with ⟨_, hf⟩ | ⟨gr, cap, hv⟩
    · simp at hf; exact absurd hf hq
    have hv : v = .slice (some ⟨gr, 0, none⟩) (q.map pB).length cap := hv
    subst hv
    refine a_ent [32] [40, 32] _ rfl rfl ho ?_
    have ei : (q.map pB)[0]? = some (pB q[0]) := by rw [List.getElem?_map, List.getElem?_eq_getElem hi]; rfl
    refine a_rix hT 0 rfl rfl rfl rfl rfl rfl rfl (by simpa using hi) ?_
    refine a_rld hT 0 0 (pB q[0]) (.d (.v (ptrB q[0].b))) rfl rfl rfl rfl rfl rfl (by omega) ei rfl ?_
    refine a_as 12 (b := .v (ptrB q[0].b) 40) rfl rfl ?_
    exact a_ret hT [10, 30, 40, 32, 11] rfl rfl rfl rfl rfl rfl ⟨.inr ⟨q[0], List.getElem?_eq_getElem hi, rfl⟩, Ent.cons _ (Ent.cons _ (Ent.app hs (Ent.refl [mapB mo ents])))⟩
theorem tfirst_spec {g h : Nat} {S : TS} : FSpec Try.prog 49 [ptrA g h] [.ext (tmA g S)] fun a cs => ∃ S', (((S = [] ∧ a = .tup [.v (kI 0) 0, .v (.bool false) 0]) ∨ ∃ p, IsMin S p ∧ a = .tup [.v (kI p.2) 0, .v (.bool true) 0]) ∧ S' = S) ∧ cs = [.ext (tmA g S')] := by
  refine tm_spec fun x hx => ?_
  refine (firstx_spec (x := x)).mono fun a cs ⟨h1, h2⟩ => ⟨S, ⟨?_, rfl⟩, by rw [h2]; exact tm_pack hx⟩
  rcases h1 with ⟨hq, ha⟩ | ⟨e, he, ha⟩
  · left
    refine ⟨?_, ha⟩
    have := hx.s
    rw [hq] at this
    exact List.Perm.eq_nil this.symm
  · exact .inr ⟨kd e, hx.min he, ha⟩
def NextR (S : TS) (now : Int) (a : AV) (S' : TS) : Prop :=
  ((S = [] ∨ ∃ p, IsMin S p ∧ p.2 > now) ∧ S' = S ∧ a = .tup [.v (kU 0) 0, .v (.bool false) 0]) ∨ ∃ p, IsMin S p ∧ p.2 ≤ now ∧ S' = filt p.1 S ∧ a = .tup [.v (kU p.1) 0, .v (.bool true) 0]
set_option maxRecDepth 100000 in
theorem tnext_spec {g h h1 : Nat} {S : TS} {now : Int} (hS : (S.map (·.1)).Nodup) (hl : S.length < 999999) : FSpec Try.prog 33 [ptrA g h, .v (kI now) h1] [.ext (tmA g S)] fun a cs => ∃ S', NextR S now a S' ∧ cs = [.ext (tmA g S')] := by
  refine tm_spec fun x hx => ?_
  obtain ⟨v, mo, q, ents⟩ := x
  have hlen := hx.len
  have hlen : q.length = S.length := hlen
  obtain ⟨hnq, hne⟩ := hx.nd hS
  refine a_enter hT [ptrA g 10, .v (kI now) 0] [10, 30, 32, 11] Try.func33 rfl rfl rfl ⟨rfl, rfl, trivial⟩ fun c => ?_
  refine a_call hT rfl rfl rfl (by kernel_rfl) (firstx_spec (x := ⟨v, mo, q, ents⟩)) [10, 30, 32, 11] [10, 30, 32, 11] rfl rfl ?_
  rintro _ _ ⟨⟨hq, rfl⟩ | ⟨e, he, rfl⟩, rfl⟩
  · have hq : q = [] := hq
    subst hq
    have hs : S = [] := List.Perm.eq_nil hx.s.symm
    refine a_gt hT rfl rfl rfl rfl ?_
    refine a_t hT rfl rfl rfl ?_
    exact a_ret hT [10, 30, 32, 11] rfl rfl rfl rfl rfl rfl ⟨S, .inl ⟨.inl hs, rfl, rfl⟩, tm_pack hx⟩
  · have he : q[0]? = some e := he
    have hmin := hx.min he
    refine a_gf hT rfl rfl rfl rfl ?_
    refine a_if hT rfl rfl (fun hb => ?_) (fun hb => ?_)
    · have hb' : e.due > now := of_decide_eq_true hb
      exact a_ret hT [10, 30, 32, 11] rfl rfl rfl rfl rfl rfl ⟨S, .inl ⟨.inr ⟨kd e, hmin, hb'⟩, rfl, rfl⟩, tm_pack hx⟩
    · have hb' : ¬ e.due > now := of_decide_eq_false hb
      have hi := (List.getElem?_eq_some_iff.1 he).1
      obtain ⟨n, hn⟩ : ∃ n, q.length = n + 1 := ⟨q.length - 1, by omega⟩
      refine a_callF hT rfl rfl rfl (by kernel_rfl) (heap_pop (g := g) (v := v) (mo := mo) (q := q) (n := n) (e := e) hn (by omega) hx.h he) [10, 30, 32] [10, 30, 32, 40] ⟨⟨rfl, rfl⟩, trivial⟩ rfl ⟨⟨rfl, rfl, rfl, rfl, trivial⟩, ⟨rfl, rfl, rfl, rfl⟩, rfl, trivial⟩ ?_
      rintro _ _ ⟨v', q', hp, hh, rfl, rfl⟩
      cases mo with
      | none => have hq : q = [] := hx.n rfl; subst hq; simp at hi
      | some m =>
        refine a_run hT 2 rfl rfl ?_
        refine a_as 8 (b := .v (ptrB e.b) 40) rfl rfl ?_
        refine a_draw hT [] true [(0, false), (4, false), (1, false), (5, false), (2, false), (6, false), (3, false), (7, false), (8, true)] rfl rfl (by kernel_rfl) (by kernel_rfl) rfl ?_
        refine a_mdelG hT (kv := kU) (va := bV) ents e.key rfl rfl rfl rfl mtB kU_ok rfl rfl rfl rfl rfl ?_
        have hp' := (List.perm_append_comm (l₁ := [e]) (l₂ := q')).trans hp
        refine a_ret hT [10, 30, 32, 11] rfl rfl rfl rfl rfl rfl ⟨filt e.key S, .inr ⟨kd e, hmin, by show e.due ≤ now; omega, rfl, rfl⟩, tm_pack (x := ⟨v', some m, q', adel ents e.key⟩) ⟨?_, hh, ?_, by simp⟩⟩
        · exact (filt_one (hx.s.symm.trans (hp'.symm.map kd)) hS).1.symm
        · show (q'.map kb).Perm (adel ents e.key)
          rw [adel_filt hne]
          exact (filt_one (hx.e.symm.trans (hp'.symm.map kb)) hne).1.symm
end Go.Proofs.Ytepjnmocepkfjaa
end

section
/- Layer 16's delay, layer 15's frames that are formed. -/
set_option linter.unusedVariables false
set_option linter.unusedSimpArgs false
namespace Go.Proofs.Ytepjnmocepkfjaa
open V A
def bA (b : Bool) : AV := .v (.bool b) 0
theorem bA_t {p : Prop} [Decidable p] {cs : List Chunk} (h : p) : AV.v (.bool true) 0 = bA (decide p) ∧ cs = cs := ⟨by rw [decide_eq_true h]; rfl, rfl⟩
theorem bA_f {p : Prop} [Decidable p] {cs : List Chunk} (h : ¬ p) : AV.v (.bool false) 0 = bA (decide p) ∧ cs = cs := ⟨by rw [decide_eq_false h]; rfl, rfl⟩
theorem numb_spec {n : Int} {h : Nat} : FSpec Try.prog 59 [.v (kI n) h] [] fun a cs => a = bA (decide (0 ≤ n) && decide (n ≤ 2147483647)) ∧ cs = [] := by
  refine a_enter hT [.v (kI n) 0] [] Try.func59 rfl rfl rfl ⟨rfl, trivial⟩ fun c => ?_
  refine a_g hT rfl rfl rfl (fun h1 => ?_) (fun h1 => ?_)
  · have h1 := of_decide_eq_true h1
    refine a_ret hT [] rfl rfl rfl rfl rfl rfl ?_
    exact ⟨by simp [*]; rfl, rfl⟩
  · have h1 := of_decide_eq_false h1
    refine a_ret hT [] rfl rfl rfl rfl rfl rfl ?_
    exact ⟨by simp [*]; rfl, rfl⟩
def delayP (k : Int) : Int := if k < 0 ∨ k ≥ 6 then 0 else if k = 0 then 4 else if k = 1 then 8 else if k = 2 then 16 else 32
theorem delay_spec {k : Int} {h : Nat} : FSpec Try.prog 52 [.v (kI k) h] [] fun a cs => a = .v (kI (delayP k)) 0 ∧ cs = [] := by
  refine a_enter hT [.v (kI k) 0] [] Try.func52 rfl rfl rfl ⟨rfl, trivial⟩ fun c => ?_
  by_cases hk : k = 0 ∨ k = 1 ∨ k = 2 ∨ k = 3 ∨ k = 4 ∨ k = 5
  · rcases hk with rfl | rfl | rfl | rfl | rfl | rfl
    · refine a_gf hT rfl rfl rfl rfl ?_
      refine a_f hT rfl rfl rfl ?_
      refine a_bin hT _ rfl rfl rfl (by decide) rfl rfl (fun w => (bin_shl (by omega) w)) ?_
      refine a_ret hT [] rfl rfl rfl rfl rfl rfl ?_
      first | exact ⟨rfl, rfl⟩ | rfl
    · refine a_gf hT rfl rfl rfl rfl ?_
      refine a_f hT rfl rfl rfl ?_
      refine a_bin hT _ rfl rfl rfl (by decide) rfl rfl (fun w => (bin_shl (by omega) w)) ?_
      refine a_ret hT [] rfl rfl rfl rfl rfl rfl ?_
      first | exact ⟨rfl, rfl⟩ | rfl
    · refine a_gf hT rfl rfl rfl rfl ?_
      refine a_f hT rfl rfl rfl ?_
      refine a_bin hT _ rfl rfl rfl (by decide) rfl rfl (fun w => (bin_shl (by omega) w)) ?_
      refine a_ret hT [] rfl rfl rfl rfl rfl rfl ?_
      first | exact ⟨rfl, rfl⟩ | rfl
    · refine a_gf hT rfl rfl rfl rfl ?_
      refine a_f hT rfl rfl rfl ?_
      refine a_bin hT _ rfl rfl rfl (by decide) rfl rfl (fun w => (bin_shl (by omega) w)) ?_
      refine a_ret hT [] rfl rfl rfl rfl rfl rfl ?_
      first | exact ⟨rfl, rfl⟩ | rfl
    · refine a_gf hT rfl rfl rfl rfl ?_
      refine a_f hT rfl rfl rfl ?_
      refine a_bin hT _ rfl rfl rfl (by decide) rfl rfl (fun w => (bin_shl (by omega) w)) ?_
      refine a_ret hT [] rfl rfl rfl rfl rfl rfl ?_
      first | exact ⟨rfl, rfl⟩ | rfl
    · refine a_gf hT rfl rfl rfl rfl ?_
      refine a_f hT rfl rfl rfl ?_
      refine a_bin hT _ rfl rfl rfl (by decide) rfl rfl (fun w => (bin_shl (by omega) w)) ?_
      refine a_ret hT [] rfl rfl rfl rfl rfl rfl ?_
      first | exact ⟨rfl, rfl⟩ | rfl
  · refine a_g hT rfl rfl rfl (fun h1 => ?_) (fun h1 => ?_)
    · have h1 := of_decide_eq_true h1
      refine a_t hT rfl rfl rfl ?_
      refine a_ret hT [] rfl rfl rfl rfl rfl rfl ?_
      first | exact ⟨by unfold delayP; rw [if_pos (by omega)]; rfl, rfl⟩ | exact absurd (by omega) hk
    · have h1 := of_decide_eq_false h1
      refine a_if hT rfl rfl (fun h2 => ?_) (fun h2 => ?_)
      · have h2 := of_decide_eq_true h2
        refine a_ret hT [] rfl rfl rfl rfl rfl rfl ?_
        first | exact ⟨by unfold delayP; rw [if_pos (by omega)]; rfl, rfl⟩ | exact absurd (by omega) hk
      · have h2 := of_decide_eq_false h2
        refine a_bin hT _ rfl rfl rfl (by decide) rfl rfl (fun w => (bin_shl (by omega) w)) ?_
        refine a_ret hT [] rfl rfl rfl rfl rfl rfl ?_
        first | exact ⟨by unfold delayP; rw [if_pos (by omega)]; rfl, rfl⟩ | exact absurd (by omega) hk
/-- A frame. -/
structure Fr where
  kind : Int
  client : Int
  token : Int
  attempt : Int
  floor : Int
  method : Int
  deadline : Int
  status : Int
  pay : List UInt8
def frA (f : Fr) : AV := .agg [.v (kI f.kind) 0, .v (kI f.client) 0, .v (kU f.token) 0, .v (kI f.attempt) 0, .v (kU f.floor) 0, .v (kI f.method) 0, .v (kI f.deadline) 0, .v (kI f.status) 0, .d (A.bytesD f.pay)]
def formed (f : Fr) : Prop := (1 ≤ f.kind ∧ f.kind ≤ 3) ∧ (1 ≤ f.client ∧ f.client ≤ 2147483647 ∧ 0 ≤ f.method ∧ f.method ≤ 2147483647) ∧ (f.floor ≠ 0 ∧ f.floor ≤ f.token) ∧ (0 ≤ f.attempt ∧ f.attempt < 6) ∧ (0 ≤ f.deadline ∧ f.deadline ≤ 1099511627776) ∧ (0 ≤ f.status ∧ f.status ≤ 255 ∧ (f.status > 0 → f.kind = 2)) ∧ f.pay.length ≤ 4096 ∧ (f.kind = 3 → f.pay.length = 0)
instance (f : Fr) : Decidable (formed f) := by unfold formed; infer_instance
theorem formed_spec {f : Fr} : FSpec Try.prog 39 [frA f] [] fun a cs => a = bA (decide (formed f)) ∧ cs = [] := by
  have hl : ((f.pay.map eB).length : Int) = f.pay.length := by rw [List.length_map]
  refine a_enter hT [frA f] [] Try.func39 rfl rfl rfl ⟨⟨rfl, rfl, rfl, rfl, rfl, rfl, rfl, rfl, rfl, trivial⟩, trivial⟩ fun c => ?_
  refine a_box hT 20 rfl rfl rfl rfl fun g => ?_
  refine a_g hT rfl rfl rfl (fun h => ?_) (fun h => ?_)
  · have h := of_decide_eq_true h
    refine a_t hT rfl rfl rfl ?_
    refine a_t hT rfl rfl rfl ?_
    refine a_ret hT [] rfl rfl rfl rfl rfl rfl ?_
    first | exact bA_f (by unfold formed; omega) | exact bA_t (by unfold formed; omega)
  · have h := of_decide_eq_false h
    refine a_if hT rfl rfl (fun h1 => ?_) (fun h1 => ?_)
    · have h1 := of_decide_eq_true h1
      refine a_if hT rfl rfl (fun h2 => ?_) (fun h2 => ?_)
      · have h2 := of_decide_eq_true h2
        refine a_ret hT [] rfl rfl rfl rfl rfl rfl ?_
        first | exact bA_f (by unfold formed; omega) | exact bA_t (by unfold formed; omega)
      · have h2 := of_decide_eq_false h2
        refine a_ret hT [] rfl rfl rfl rfl rfl rfl ?_
        first | exact bA_f (by unfold formed; omega) | exact bA_t (by unfold formed; omega)
    · have h1 := of_decide_eq_false h1
      refine a_call hT rfl rfl rfl (by kernel_rfl) numb_spec [] [] rfl rfl ?_
      rintro _ _ ⟨rfl, rfl⟩
      refine a_g hT rfl rfl rfl (fun h2 => ?_) (fun h2 => ?_)
      · simp at h2
        refine a_gt hT rfl rfl rfl rfl ?_
        refine a_t hT rfl rfl rfl ?_
        refine a_t hT rfl rfl rfl ?_
        refine a_ret hT [] rfl rfl rfl rfl rfl rfl ?_
        first | exact bA_f (by unfold formed; omega) | exact bA_t (by unfold formed; omega)
      · simp at h2
        refine a_g hT rfl rfl rfl (fun h3 => ?_) (fun h3 => ?_)
        · have h3 := eq_of_beq h3
          refine a_t hT rfl rfl rfl ?_
          refine a_t hT rfl rfl rfl ?_
          refine a_ret hT [] rfl rfl rfl rfl rfl rfl ?_
          first | exact bA_f (by unfold formed; omega) | exact bA_t (by unfold formed; omega)
        · have h3 := ne_of_beq_false h3
          refine a_call hT rfl rfl rfl (by kernel_rfl) numb_spec [] [] rfl rfl ?_
          rintro _ _ ⟨rfl, rfl⟩
          refine a_if hT rfl rfl (fun h4 => ?_) (fun h4 => ?_)
          · simp at h4
            refine a_if hT rfl rfl (fun h5 => ?_) (fun h5 => ?_)
            · simp at h5
              refine a_ret hT [] rfl rfl rfl rfl rfl rfl ?_
              first | exact bA_f (by unfold formed; omega) | exact bA_t (by unfold formed; omega)
            · simp at h5
              refine a_ret hT [] rfl rfl rfl rfl rfl rfl ?_
              first | exact bA_f (by unfold formed; omega) | exact bA_t (by unfold formed; omega)
          · simp at h4
            refine a_g hT rfl rfl rfl (fun h5 => ?_) (fun h5 => ?_)
            · have h5 := eq_of_beq h5
              refine a_t hT rfl rfl rfl ?_
              refine a_t hT rfl rfl rfl ?_
              refine a_ret hT [] rfl rfl rfl rfl rfl rfl ?_
              first | exact bA_f (by unfold formed; omega) | exact bA_t (by unfold formed; omega)
            · have h5 := ne_of_beq_false h5
              refine a_if hT rfl rfl (fun h6 => ?_) (fun h6 => ?_)
              · have h6 := of_decide_eq_true h6
                refine a_if hT rfl rfl (fun h7 => ?_) (fun h7 => ?_)
                · have h7 := of_decide_eq_true h7
                  refine a_ret hT [] rfl rfl rfl rfl rfl rfl ?_
                  first | exact bA_f (by unfold formed; omega) | exact bA_t (by unfold formed; omega)
                · have h7 := of_decide_eq_false h7
                  refine a_ret hT [] rfl rfl rfl rfl rfl rfl ?_
                  first | exact bA_f (by unfold formed; omega) | exact bA_t (by unfold formed; omega)
              · have h6 := of_decide_eq_false h6
                refine a_g hT rfl rfl rfl (fun h7 => ?_) (fun h7 => ?_)
                · have h7 := of_decide_eq_true h7
                  refine a_t hT rfl rfl rfl ?_
                  refine a_t hT rfl rfl rfl ?_
                  refine a_ret hT [] rfl rfl rfl rfl rfl rfl ?_
                  first | exact bA_f (by unfold formed; omega) | exact bA_t (by unfold formed; omega)
                · have h7 := of_decide_eq_false h7
                  refine a_if hT rfl rfl (fun h8 => ?_) (fun h8 => ?_)
                  · have h8 := of_decide_eq_true h8
                    refine a_if hT rfl rfl (fun h9 => ?_) (fun h9 => ?_)
                    · have h9 := of_decide_eq_true h9
                      refine a_ret hT [] rfl rfl rfl rfl rfl rfl ?_
                      first | exact bA_f (by unfold formed; omega) | exact bA_t (by unfold formed; omega)
                    · have h9 := of_decide_eq_false h9
                      refine a_ret hT [] rfl rfl rfl rfl rfl rfl ?_
                      first | exact bA_f (by unfold formed; omega) | exact bA_t (by unfold formed; omega)
                  · have h8 := of_decide_eq_false h8
                    refine a_g hT rfl rfl rfl (fun h9 => ?_) (fun h9 => ?_)
                    · have h9 := of_decide_eq_true h9
                      refine a_t hT rfl rfl rfl ?_
                      refine a_t hT rfl rfl rfl ?_
                      refine a_ret hT [] rfl rfl rfl rfl rfl rfl ?_
                      first | exact bA_f (by unfold formed; omega) | exact bA_t (by unfold formed; omega)
                    · have h9 := of_decide_eq_false h9
                      refine a_if hT rfl rfl (fun h10 => ?_) (fun h10 => ?_)
                      · have h10 := of_decide_eq_true h10
                        refine a_if hT rfl rfl (fun h11 => ?_) (fun h11 => ?_)
                        · have h11 := of_decide_eq_true h11
                          refine a_ret hT [] rfl rfl rfl rfl rfl rfl ?_
                          first | exact bA_f (by unfold formed; omega) | exact bA_t (by unfold formed; omega)
                        · have h11 := of_decide_eq_false h11
                          refine a_ret hT [] rfl rfl rfl rfl rfl rfl ?_
                          first | exact bA_f (by unfold formed; omega) | exact bA_t (by unfold formed; omega)
                      · have h10 := of_decide_eq_false h10
                        refine a_g hT rfl rfl rfl (fun h11 => ?_) (fun h11 => ?_)
                        · have h11 := of_decide_eq_true h11
                          refine a_gt hT rfl rfl rfl rfl ?_
                          refine a_t hT rfl rfl rfl ?_
                          refine a_t hT rfl rfl rfl ?_
                          refine a_ret hT [] rfl rfl rfl rfl rfl rfl ?_
                          first | exact bA_f (by unfold formed; omega) | exact bA_t (by unfold formed; omega)
                        · have h11 := of_decide_eq_false h11
                          refine a_g hT rfl rfl rfl (fun h12 => ?_) (fun h12 => ?_)
                          · have h12 := of_decide_eq_true h12
                            refine a_t hT rfl rfl rfl ?_
                            refine a_t hT rfl rfl rfl ?_
                            refine a_ret hT [] rfl rfl rfl rfl rfl rfl ?_
                            first | exact bA_f (by unfold formed; omega) | exact bA_t (by unfold formed; omega)
                          · have h12 := of_decide_eq_false h12
                            refine a_g hT rfl rfl rfl (fun h13 => ?_) (fun h13 => ?_)
                            · have h13 := of_decide_eq_true h13
                              refine a_if hT rfl rfl (fun h14 => ?_) (fun h14 => ?_)
                              · have h14 := bne_iff_ne.1 h14
                                refine a_if hT rfl rfl (fun h15 => ?_) (fun h15 => ?_)
                                · have h15 := bne_iff_ne.1 h15
                                  refine a_ret hT [] rfl rfl rfl rfl rfl rfl ?_
                                  first | exact bA_f (by unfold formed; omega) | exact bA_t (by unfold formed; omega)
                                · simp at h15
                                  refine a_ret hT [] rfl rfl rfl rfl rfl rfl ?_
                                  first | exact bA_f (by unfold formed; omega) | exact bA_t (by unfold formed; omega)
                              · simp at h14
                                refine a_g hT rfl rfl rfl (fun h15 => ?_) (fun h15 => ?_)
                                · have h15 := of_decide_eq_true h15
                                  refine a_t hT rfl rfl rfl ?_
                                  refine a_ret hT [] rfl rfl rfl rfl rfl rfl ?_
                                  first | exact bA_f (by unfold formed; omega) | exact bA_t (by unfold formed; omega)
                                · have h15 := of_decide_eq_false h15
                                  refine a_g hT rfl rfl rfl (fun h16 => ?_) (fun h16 => ?_)
                                  · have h16 := of_decide_eq_true h16
                                    refine a_if hT rfl rfl (fun h17 => ?_) (fun h17 => ?_)
                                    · have h17 := eq_of_beq h17
                                      refine a_ret hT [] rfl rfl rfl rfl rfl rfl ?_
                                      first | exact bA_f (by unfold formed; omega) | exact bA_t (by unfold formed; omega)
                                    · have h17 := ne_of_beq_false h17
                                      refine a_ret hT [] rfl rfl rfl rfl rfl rfl ?_
                                      first | exact bA_f (by unfold formed; omega) | exact bA_t (by unfold formed; omega)
                                  · have h16 := of_decide_eq_false h16
                                    refine a_f hT rfl rfl rfl ?_
                                    refine a_ret hT [] rfl rfl rfl rfl rfl rfl ?_
                                    first | exact bA_f (by unfold formed; omega) | exact bA_t (by unfold formed; omega)
                            · have h13 := of_decide_eq_false h13
                              refine a_f hT rfl rfl rfl ?_
                              refine a_g hT rfl rfl rfl (fun h14 => ?_) (fun h14 => ?_)
                              · have h14 := of_decide_eq_true h14
                                refine a_t hT rfl rfl rfl ?_
                                refine a_ret hT [] rfl rfl rfl rfl rfl rfl ?_
                                first | exact bA_f (by unfold formed; omega) | exact bA_t (by unfold formed; omega)
                              · have h14 := of_decide_eq_false h14
                                refine a_g hT rfl rfl rfl (fun h15 => ?_) (fun h15 => ?_)
                                · have h15 := of_decide_eq_true h15
                                  refine a_if hT rfl rfl (fun h16 => ?_) (fun h16 => ?_)
                                  · have h16 := eq_of_beq h16
                                    refine a_ret hT [] rfl rfl rfl rfl rfl rfl ?_
                                    first | exact bA_f (by unfold formed; omega) | exact bA_t (by unfold formed; omega)
                                  · have h16 := ne_of_beq_false h16
                                    refine a_ret hT [] rfl rfl rfl rfl rfl rfl ?_
                                    first | exact bA_f (by unfold formed; omega) | exact bA_t (by unfold formed; omega)
                                · have h15 := of_decide_eq_false h15
                                  refine a_f hT rfl rfl rfl ?_
                                  refine a_ret hT [] rfl rfl rfl rfl rfl rfl ?_
                                  first | exact bA_f (by unfold formed; omega) | exact bA_t (by unfold formed; omega)
end Go.Proofs.Ytepjnmocepkfjaa
end

section
/- slices.Clone of bytes. -/
set_option linter.unusedVariables false
set_option linter.unusedSimpArgs false
namespace Go.Proofs.Ytepjnmocepkfjaa
open V A
theorem el8 : elemOk Try.prog 5 1 = true := by kernel_rfl
/-- A copy of bytes is memory of its own. -/
theorem cloneB {l : List UInt8} (hl : l.length ≤ lim) : FSpec Try.prog 28 [.d (A.bytesD l)] [] fun a cs => ∃ x, a = .row x 1 ∧ cs = [.row x 5 1 (l.map eB)] := by
  refine a_enter hT [.d (A.bytesD l)] [] Try.func28 rfl rfl rfl ⟨rfl, trivial⟩ fun c => ?_
  refine a_isnil hT rfl rfl rfl rfl rfl rfl fun b hb => ?_
  refine a_if hT rfl rfl (fun h => ?_) (fun h => ?_)
  · refine a_run hT 4 rfl rfl ?_
    refine a_nilrow 2 1 5 1 rfl rfl ?_
    refine a_ret hT [1] rfl rfl rfl rfl rfl rfl ⟨_, rfl, ?_⟩
    rw [hb h]
  · refine a_lit hT 1 rfl rfl rfl rfl el8 rfl rfl rfl rfl fun x => ?_
    refine a_app hT 1 (l.map eB) rfl rfl rfl rfl el8 rfl rfl rfl rfl rfl rfl (by simpa using hl) fun x => ?_
    refine a_ret hT [1] rfl rfl rfl rfl rfl rfl ⟨x, rfl, rfl⟩
/-- .. frozen. -/
theorem cloneF {l : List UInt8} (hl : l.length ≤ lim) : FSpec Try.prog 28 [.d (A.bytesD l)] [] fun a cs => a = .d (A.bytesD l) ∧ cs = [] := (cloneB hl).freeze
end Go.Proofs.Ytepjnmocepkfjaa
end

section
/- Blocks of one's own, lent: a function that only reads them is called; it takes them as frozen. It holds of any program. -/
set_option linter.unusedVariables false
set_option linter.unusedSectionVars false
set_option linter.unusedSimpArgs false
namespace Go.Proofs.Ytepjnmocepkfjaa.A
open V

def memN (l : List Nat) (k : Nat) : Bool := match l with | [] => false | x :: r => match Nat.beq x k with | true => true | false => memN r k
/-- Pointers to lent blocks, and lent rows, as what lies frozen. -/
def lendK (τ : Store) (ls : List Nat) : List AV → Option (List AV × Obs)
  | [] => some ([], [])
  | a :: axs => match lendK τ ls axs with
    | none => none
    | some (bs, o) => match a with
      | .v (.pointer (some ⟨g, 0, none⟩)) k => match memN ls k with
        | true => match look τ k with
          | some (.blk g' _ cs) => match datsK cs with
            | some ds => some (.d (.p ds) :: bs, (ptrV g none, ptrV g' none) :: o)
            | none => none
          | _ => none
        | false => some (.v (.pointer (some ⟨g, 0, none⟩)) k :: bs, o)
      | .row x k => match memN ls k with
        | true => match look τ k with
          | some (.row x' _ kk es) => some (.d (.sl kk es) :: bs, (x, x') :: o)
          | _ => none
        | false => some (.row x k :: bs, o)
      | a => some (a :: bs, o)
def Lent (τ : Store) (ls : List Nat) (b : Nat) : Prop := ∃ k, memN ls k = true ∧ ((∃ t cs, look τ k = some (.blk b t cs)) ∨ ∃ x e kk es, look τ k = some (.row x e kk es) ∧ V.ob x b)
theorem look_take {M : Nat → Prop} {w : World} {τ : Store} {S : Nat → Prop} {k : Nat} {c : Chunk} (h : Holds M w τ S) (hl : look τ k = some c) : ∃ S1, (∀ b, S1 b → S b) ∧ CRep M w c S1 := by
  obtain ⟨S1, S2, h1, h2, h3, h4⟩ := h.take hl
  exact ⟨S1, fun b hb => (h1 b).2 (.inl hb), h3⟩
theorem row_lent {M M' : Nat → Prop} {S1 : Nat → Prop} {w : World} {x : Value} {e k : Nat} {es : List (List Dat)} (hc : CRep M w (.row x e k es) S1) (hm : ∀ b, M' b → M b ∧ ¬ V.ob x b) : DRep M' w (.sl k es) x := by
  obtain ⟨hS1, hk, xs, ho, hv⟩ := hc
  have hlen := hv.len
  unfold DRep
  rcases ho.2 with ⟨rfl, h0⟩ | ⟨g, cap, cur, rfl, hb, hh, hn, hcl, hs, ht⟩
  · have : es = [] := List.eq_nil_of_length_eq_zero h0
    subst this
    exact ⟨none, 0, rfl, by simp, by simp, by simp⟩
  · refine ⟨_, cap, rfl, hn, hk, fun hne => ⟨_, rfl, fun h => (hm _ h).2 rfl, (Array.getElem?_eq_some_iff.1 hh).1, SRep.flat.2 (LRep.mk fun j d hj => ?_)⟩⟩
    obtain ⟨y, hy, hr⟩ := hv.get j d hj
    rw [Nat.zero_add]
    exact ⟨y, ho.cells (g := g) rfl j y hy, hr.ev (Ev.refl no w) fun b _ h => h.elim (fun h => h.elim) fun h => (hm b h).1⟩
theorem lend_rep {M M' : Nat → Prop} {w : World} {τ : Store} {S : Nat → Prop} {ls : List Nat} (h : Holds M w τ S) (hm : ∀ b, M' b → M b ∧ ¬ Lent τ ls b) :
    ∀ {axs bs : List AV} {o : Obs} {xs : List Value}, lendK τ ls axs = some (bs, o) → o.map (·.1) = o.map (·.2) → Reps M w axs xs → Reps M' w bs xs
  | [], bs, o, xs, hl, ho, hr => by
    simp [lendK] at hl
    obtain ⟨rfl, rfl⟩ := hl
    unfold Reps at hr ⊢
    exact hr
  | a :: axs, bs, o, xs, hl, ho, hr => by
    unfold lendK at hl
    unfold Reps at hr
    obtain ⟨x, r, rfl, hx, hr⟩ := hr
    cases hk : lendK τ ls axs with
    | none => rw [hk] at hl; cases hl
    | some p =>
      obtain ⟨bs', o'⟩ := p
      rw [hk] at hl
      simp only at hl
      have old : ∀ (hl : some (a :: bs', o') = some (bs, o)), Reps M' w bs (x :: r) := fun hl => by
        simp only [Option.some.injEq, Prod.mk.injEq] at hl
        obtain ⟨rfl, rfl⟩ := hl
        exact Reps.cons (hx.of fun b _ hb => (hm b hb).1) (lend_rep h hm hk ho hr)
      split at hl
      · rename_i g k
        split at hl
        · rename_i hmem
          split at hl
          · rename_i g' t cs hlook
            split at hl
            · rename_i ds hds
              simp only [Option.some.injEq, Prod.mk.injEq] at hl
              obtain ⟨rfl, rfl⟩ := hl
              simp only [List.map_cons, List.cons.injEq, ptrV, Value.pointer.injEq, Option.some.injEq, Addr.mk.injEq] at ho
              obtain ⟨⟨rfl, _⟩, ho⟩ := ho
              refine Reps.cons ?_ (lend_rep h hm hk ho hr)
              obtain ⟨S1, hS1, hS, xs', hb, hrs, h1⟩ := look_take h hlook
              have hv := datsK_rep hds hrs
              unfold Rep at hx
              subst hx
              unfold Rep DRep
              have hlt := hb.lt
              refine ⟨⟨g, 0, none⟩, rfl, fun hb' => (hm _ hb').2 ⟨k, hmem, .inl ⟨t, cs, hlook⟩⟩, hlt, LRep.mk fun j d hd => ?_⟩
              obtain ⟨y, hy, hyr⟩ := hv.get j d hd
              refine ⟨y, ?_, hyr.ev (Ev.refl no w) fun b hb h => h.elim (fun h => h.elim) fun h => (hm b h).1⟩
              have := hb.cell j hy
              rw [add_off]
              simpa using this
            · cases hl
          · cases hl
        · exact old hl
      · rename_i x0 k
        split at hl
        · rename_i hmem
          split at hl
          · rename_i x' e kk es hlook
            simp only [Option.some.injEq, Prod.mk.injEq] at hl
            obtain ⟨rfl, rfl⟩ := hl
            simp only [List.map_cons, List.cons.injEq] at ho
            obtain ⟨rfl, ho⟩ := ho
            refine Reps.cons ?_ (lend_rep h hm hk ho hr)
            obtain ⟨S1, hS1, hc⟩ := look_take h hlook
            unfold Rep at hx
            obtain ⟨rfl, _⟩ := hx
            unfold Rep
            exact row_lent hc fun b hb => ⟨(hm b hb).1, fun ho' => (hm b hb).2 ⟨k, hmem, .inr ⟨_, e, kk, es, hlook, ho'⟩⟩⟩
          · cases hl
        · exact old hl
      · exact old hl
/-- What doesn't hang on who owns what. -/
class FreeA (a : AV) : Prop where
  out : ∀ (M M' : Nat → Prop) (w : World) (v : Value), Rep M w a v → Rep M' w a v
class FreeAs (axs : List AV) : Prop where
  out : ∀ (M M' : Nat → Prop) (w : World) (vs : List Value), Reps M w axs vs → Reps M' w axs vs
class FreeC (c : Chunk) : Prop where
  out : ∀ (M M' : Nat → Prop) (w : World) (S : Nat → Prop), CRep M w c S → CRep M' w c S
class FreeCs (cs : List Chunk) : Prop where
  out : ∀ c ∈ cs, FreeC c
instance FreeA.v (x : Value) (h : Nat) : FreeA (.v x h) := ⟨fun M M' w v hr => by unfold Rep at hr ⊢; exact hr⟩
instance FreeA.row (x : Value) (h : Nat) : FreeA (.row x h) := ⟨fun M M' w v hr => by unfold Rep at hr ⊢; exact hr⟩
instance FreeA.dv (x : Value) : FreeA (.d (.v x)) := ⟨fun M M' w v hr => by unfold Rep DRep at hr ⊢; exact hr⟩
instance FreeAs.nil : FreeAs [] := ⟨fun M M' w v hr => by unfold Reps at hr ⊢; exact hr⟩
instance FreeAs.cons {a : AV} {axs : List AV} [h : FreeA a] [h2 : FreeAs axs] : FreeAs (a :: axs) := ⟨fun M M' w v hr => by
  unfold Reps at hr
  obtain ⟨x, r, rfl, h3, h4⟩ := hr
  exact Reps.cons (h.out M M' w x h3) (h2.out M M' w r h4)⟩
instance FreeA.agg {axs : List AV} [h : FreeAs axs] : FreeA (.agg axs) := ⟨fun M M' w v hr => by
  unfold Rep at hr ⊢
  obtain ⟨ys, e, h1, h2⟩ := hr
  exact ⟨ys, e, h.out M M' w ys h1, h2⟩⟩
instance FreeA.tup {axs : List AV} [h : FreeAs axs] : FreeA (.tup axs) := ⟨fun M M' w v hr => by
  unfold Rep at hr ⊢
  obtain ⟨ys, e, h1⟩ := hr
  exact ⟨ys, e, h.out M M' w ys h1⟩⟩
instance FreeC.blk {g : Nat} {t : TypeId} {cs : List AV} [h : FreeAs cs] : FreeC (.blk g t cs) := ⟨fun M M' w S ⟨h1, xs, h2, h3, h4⟩ => ⟨h1, xs, h2, h.out M M' w xs h3, h4⟩⟩
theorem bytes_free {M M' : Nat → Prop} {w : World} : ∀ (l : List UInt8) {xs : List Value}, VRep M w (l.map fun b => .v (byV b)) xs → VRep M' w (l.map fun b => .v (byV b)) xs
  | [], xs, h => by unfold VRep at h ⊢; exact h
  | b :: l, xs, h => by
    simp only [List.map_cons] at h ⊢
    unfold VRep at h
    obtain ⟨x, r, rfl, h1, h2⟩ := h
    refine VRep.cons ?_ (bytes_free l h2)
    unfold DRep at h1 ⊢
    exact h1
instance FreeC.rowB (x : Value) (e : TypeId) (l : List UInt8) : FreeC (.row x e 1 (l.map eB)) := ⟨fun M M' w S ⟨h1, h2, xs, h3, h4⟩ => by
  refine ⟨h1, h2, xs, h3, ?_⟩
  rw [flat_eB] at h4 ⊢
  exact bytes_free l h4⟩
theorem ents_free {β : Type} {kv : Int → Value} {va : β → AV} {M M' : Nat → Prop} {w : World} (hv : ∀ b, FreeA (va b)) : ∀ (l : List (Int × β)) {es : List MapEntry}, EntsRep M w (mapG kv va l) es → EntsRep M' w (mapG kv va l) es
  | [], es, h => h
  | p :: l, es, ⟨e, r', h1, h5, h6⟩ => ⟨e, r', h1, ⟨h5.1, (hv p.2).out M M' w _ h5.2⟩, ents_free hv l h6⟩
instance FreeC.map {β : Type} {kv : Int → Value} {va : β → AV} (r : Nat) (l : List (Int × β)) [hv : ∀ b, FreeA (va b)] : FreeC (.map r (mapG kv va l)) := ⟨fun M M' w S ⟨h1, ents, clock, h2, h3, h4⟩ => by
  refine ⟨h1, ents, clock, h2, ?_, h4⟩
  exact ents_free hv l h3⟩
instance FreeCs.nil : FreeCs [] := ⟨fun c h => by simp at h⟩
instance FreeCs.cons {c : Chunk} {cs : List Chunk} [h : FreeC c] [h2 : FreeCs cs] : FreeCs (c :: cs) := ⟨fun d hd => by
  rcases List.mem_cons.1 hd with rfl | hd
  · exact h
  · exact h2.out d hd⟩
theorem FreeCs.holds {M M' : Nat → Prop} {w : World} : ∀ {cs : List Chunk} {S : Nat → Prop}, FreeCs cs → HoldsL M w cs S → HoldsL M' w cs S
  | [], S, h, hr => hr
  | c :: cs, S, h, ⟨S1, S2, h1, h2, h3, h4⟩ => ⟨S1, S2, h1, h2, (h.out c (by simp)).out _ _ _ _ h3, FreeCs.holds ⟨fun d hd => h.out d (by simp [hd])⟩ h4⟩
section
variable {P : Program} {L : List TD} {n : Nat} {Q : Exit → Act → World → Prop} {c : Ctx}
variable {s : AMS} {f f' : AEnv} {σ σ' : Store} {ob : Obs} {κ : List Kt} {all : Array Oper} {dec : List Nat} {o : Oper} {al : Bool} {rest : List (Oper × Bool)} {m : Mode}
/-- An operation that does something to one's own memory; what is left alone is known. -/
theorem a_effP (hT : TOk P L) (R : AV → Store → Prop) (h : machA L n fuel s f σ [] = ⟨.op m κ all dec o true rest, f', σ', ob⟩) (hob : ob.map (·.1) = ob.map (·.2))
    (he : ∀ (Y Su Sp : Nat → Prop) (w : World) (fc : Env), (∀ b, Su b → ¬ Y b) → (∀ b, Y b → b < w.heap.size) → Holds (or2 Su Y) w σ' Su → Holds (or2 Su Y) w (spOf m) Sp → (∀ b, Sp b → Y b) → EnvRep (or2 Su Y) w f' fc → Does P Y Su w R ((execOp (ev n fc) o).run P w))
    (hk : ∀ a σ1, R a σ1 → DenA c P n Q (.ops (m.hap true) κ all dec rest) (putA f' o.dst a) σ1) : DenA c P n Q s f σ := by
  refine a_go hT h hob fun hok w S fc Sg hs hh => ?_
  have haa : (act n fc).eval = ev n fc := funext (act_eval n fc)
  have hcon : conM Sg (m.hap true) = conM Sg m := by cases m <;> rfl
  have hok' : (AMS.ops (m.hap true) κ all dec rest).ok := by
    cases m with
    | last ex => obtain ⟨h1, h2, h3⟩ := hok; exact ⟨h1, .inr h3⟩
    | _ => trivial
  obtain ⟨Sp, Su, hp, hu, hall, hdis, hstep⟩ := hh.step
  have hY : ∀ b, or2 Sp c.X b → b < w.heap.size := fun b hb => hb.elim (fun hb => hp.lt b hb) fun hb => Nat.lt_of_lt_of_le (c.old b hb) hs.ev.size
  have hdisX : ∀ b, S b → ¬ c.X b := fun b hb hx => (hs.sub b hb).elim (fun h => c.dis b h hx) fun h => Nat.lt_irrefl _ (Nat.lt_of_le_of_lt h (c.old b hx))
  have hd : ∀ b, Su b → ¬ or2 Sp c.X b := fun b hb h => h.elim (fun h => hdis b h hb) (hdisX b ((hall b).2 (.inr hb)))
  have hM1 : ∀ b, or2 Su (or2 Sp c.X) b → or2 S c.X b := fun b h => h.elim (fun h => .inl ((hall b).2 (.inr h))) fun h => h.elim (fun h => .inl ((hall b).2 (.inl h))) .inr
  have hdo := he (or2 Sp c.X) Su Sp w fc hd hY (hu.of fun b _ h => hM1 b h) (hp.of fun b _ h => hM1 b h) (fun b hb => .inl hb) (hs.env.of fun b _ h => hM1 b h)
  have next : ∀ v w1, After (or2 Sp c.X) Su w R v w1 → Keep (conM Sg m) rest.isEmpty w1 ∧ OR P (conM Sg m) all (post P Q κ) rest ((act n fc).put o.dst v) w1 := by
    rintro v w1 ⟨a, σ1, Su', hR, hrep, hh1, hev, hsub⟩
    have hM2 : ∀ b, or2 (or2 Sp Su') c.X b → or2 Su' (or2 Sp c.X) b := fun b h => h.elim (fun h => h.elim (fun h => .inr (.inl h)) .inl) fun h => .inr (.inr h)
    have hm : ∀ b, b < w.heap.size → Su b ∨ or2 (or2 Sp Su') c.X b → or2 S c.X b := fun b hb h => by
      rcases h with h | (h | h) | h
      · exact .inl ((hall b).2 (.inr h))
      · exact .inl ((hall b).2 (.inl h))
      · rcases hsub b h with h | h
        · exact .inl ((hall b).2 (.inr h))
        · omega
      · exact .inr h
    obtain ⟨hsg, hh2⟩ := hstep (or2 (or2 Sp Su') c.X) Su' w1 σ1 hev hm (hh1.of fun b _ h => hM2 b h) hsub
    refine ⟨?_, ?_⟩
    · cases m with
      | plain => trivial
      | rest => exact .inr trivial
      | last ex => obtain ⟨h1, _, h3⟩ := hok; exact .inl (by rw [h1, h3]; rfl)
      | reg pre σp ex => exact .inr (hsg _ _ _ rfl)
    · rw [act_put, ← hcon]
      refine (hk a σ1 hR).out hok' w1 (or2 Sp Su') (put fc o.dst v) Sg ⟨?_, ?_, ?_⟩ hh2
      · exact EnvRep.put (hs.env.pass hev hm) o.dst (hrep.of fun b _ h => hM2 b h)
      · exact hs.ev.then hev fun b hb h => (hs.sub b ((hall b).2 (.inr h))).elim id fun h => by omega
      · rintro b (h | h)
        · exact hs.sub b ((hall b).2 (.inl h))
        · rcases hsub b h with h | h
          · exact hs.sub b ((hall b).2 (.inr h))
          · exact .inr (Nat.le_trans hs.ev.size h)
  refine .inr ⟨rfl, .inl ?_⟩
  unfold Oper.wp
  rw [haa]
  revert hdo
  generalize (execOp (ev n fc) o).run P w = res
  intro hdo
  cases res with
  | halt _ _ => exact hdo.elim
  | ok nx w1 =>
    cases nx with
    | value v => exact next v w1 hdo
    | skip => exact next undef w1 hdo
    | enter k args =>
      refine Calls.mono hdo fun e w2 ⟨v, he, hv⟩ => ?_
      subst he
      exact next v w2 hv
    | _ => exact hdo.elim
/-- A function is called that reads blocks of one's own: ls: their keys. ks: the keys of the memory that it gets; ks': the keys of what it leaves. -/
theorem a_callZ (hT : TOk P L) {g : FuncId} {xs : Array Operand} {ts : Array TypeId} {args0 args : List AV} {cs cs0 : List Chunk} {σr : Store} {R : AV → List Chunk → Prop} {o2 : Obs} (h : machA L n fuel s f σ [] = ⟨.op m κ all dec o true rest, f', σ', ob⟩) (hob : ob.map (·.1) = ob.map (·.2)) (ho : o.op = .call ⟨.value (.func g), xs, ts⟩) (hb : callOk P g = true)
    (spec : FSpec P g args cs R) (ls ks ks' : List Nat) (ht : takes σ' ks = some (cs0, σr)) (hl : lendK (spOf m ++ σr) ls (evAs n f' xs.toList) = some (args0, o2)) (ho2 : o2.map (·.1) = o2.map (·.2)) (ha : Fits args0 args) (hc : CFits cs0 cs) (hfree : ∀ a cs', R a cs' → FreeA a ∧ FreeCs cs')
    (hk : ∀ a cs', R a cs' → rekK ks' cs' σr fun σ1 => DenA c P n Q (.ops (m.hap true) κ all dec rest) (putA f' o.dst a) σ1) : DenA c P n Q s f σ := by
  refine a_effP hT (fun a σ1 => ∃ cs', R a cs' ∧ σ1 = zipk ks' cs' ++ σr) h hob (fun Y Su Sp w fc hd hY hh hp hSp he => ?_) (fun a σ1 ⟨cs', hR, hs⟩ => by subst hs; have := hk a cs' hR; rwa [rekK_eq] at this)
  have hr := he.evals (n := n) xs.toList
  have hrun : (execOp (ev n fc) o).run P w = .ok (.enter g (xs.toList.map (ev n fc)).toArray) w := by
    have : xs.map (ev n fc) = (xs.toList.map (ev n fc)).toArray := by obtain ⟨xs⟩ := xs; simp
    simp [execOp, ho, resolve, invoke, ev, evK, Deferred.ofValue, run_callFunc hb, this]
  rw [hrun]
  show Calls P g _ w _
  obtain ⟨S1, S2, h1, h2, hS, hdis⟩ := hh.takes ht
  -- what is lent
  have hτ : Holds (or2 Su Y) w (spOf m ++ σr) (or2 Sp S2) := Holds.append hp h2 (fun b hb h => hd b ((hS b).2 (.inr h)) (hSp b hb)) (fun b => Iff.rfl)
  have hlent : ∀ b, Lent (spOf m ++ σr) ls b → or2 Sp S2 b := fun b ⟨k, _, hk⟩ => by
    rcases hk with ⟨t, cs, hk⟩ | ⟨x, e, kk, es, hk, hob'⟩
    · obtain ⟨T1, hT1, hc1⟩ := look_take hτ hk
      exact hT1 b ((hc1.1 b).2 rfl)
    · obtain ⟨T1, hT1, hc1⟩ := look_take hτ hk
      exact hT1 b ((hc1.1 b).2 hob')
  have hl1 : ∀ b, S1 b → ¬ Lent (spOf m ++ σr) ls b := fun b hb hl => (hlent b hl).elim (fun h => hd b ((hS b).2 (.inl hb)) (hSp b h)) (hdis b hb)
  have hX : ∀ b, (or2 S2 Y b ∧ ¬ Lent (spOf m ++ σr) ls b) → or2 Su Y b := fun b h => h.1.elim (fun h => .inl ((hS b).2 (.inr h))) .inr
  have hM : ∀ b, or2 S1 (fun b => or2 S2 Y b ∧ ¬ Lent (spOf m ++ σr) ls b) b → or2 Su Y b ∧ ¬ Lent (spOf m ++ σr) ls b := fun b h => h.elim (fun h => ⟨.inl ((hS b).2 (.inl h)), hl1 b h⟩) fun h => ⟨hX b h, h.2⟩
  have hargs := ha.reps (lend_rep hτ hM hl ho2 hr)
  refine (spec.out (fun b => or2 S2 Y b ∧ ¬ Lent (spOf m ++ σr) ls b) S1 w _ (fun b hb h => h.1.elim (hdis b hb) (hd b ((hS b).2 (.inl hb)))) (fun b h => h.1.elim (h2.lt b) (hY b)) (hc.holds (Holds.of h1 fun b _ h => (hM b h).1)) hargs).mono ?_
  rintro e w1 ⟨v, a, cs', S', rfl, hR, hrep, hh', hev, hsub⟩
  obtain ⟨hf1, hf2⟩ := hfree a cs' hR
  have hm : ∀ b, b < w.heap.size → S1 b ∨ or2 (or2 S' S2) Y b → or2 Su Y b := fun b hb h => by
    rcases h with h | (h | h) | h
    · exact .inl ((hS b).2 (.inl h))
    · rcases hsub b h with h | h
      · exact .inl ((hS b).2 (.inl h))
      · omega
    · exact .inl ((hS b).2 (.inr h))
    · exact .inr h
  refine ⟨v, rfl, a, zipk ks' cs' ++ σr, or2 S' S2, ⟨cs', hR, rfl⟩, hf1.out _ _ _ _ hrep, Holds.append (HoldsL.zip (hf2.holds hh') ks') (h2.ev hev hm fun b hb h => hdis b h hb) (fun b hb h => ?_) (fun b => Iff.rfl), hev.mono fun b _ h => (hS b).2 (.inl h), fun b hb => ?_⟩
  · rcases hsub b hb with h' | h'
    · exact hdis b h' h
    · have := h2.lt b h; omega
  · rcases hb with h | h
    · exact (hsub b h).imp (fun h => (hS b).2 (.inl h)) id
    · exact .inl ((hS b).2 (.inr h))
/-- A drawn region, up to operation x (the last of ord), which all wait for or which waits for all: behind it nothing need be left alone; then a_rest. -/
theorem a_drawX (hT : TOk P L) {fn : Func} {R : Ending → World → Prop} {id : Nat} {ops : Array Oper} {cu : List Chunk} {σp : Store} (us : List Nat) (x : Nat) (ord : List (Nat × Bool)) (h : machA L n fuel s f σ [] = ⟨.draw κ id ops, f', σ', ob⟩) (hob : ob.map (·.1) = ob.map (·.2)) (hm : P.follows .mixedOrders = true)
    (ho : (Nat.ble ord.length ops.size && Region.noSelect ops && (ordTo ops (Array.replicate ops.size false) ord).isSome && (!(Nat.blt x ops.size) || waitsAll .any ops x) && xOk x ord && Nat.beq (lastI ord) x) = true) (ht : takes σ' us = some (cu, σp))
    (hk : DenA c P n (bodyPost P fn R) (.ops (.reg true σp ⟨true, some (x, ops.size - ord.length, (ordTo ops (Array.replicate ops.size false) ord).getD #[])⟩) κ ops [] (selK ops.toList ord)) f' (zipk us cu)) : DenA c P n (bodyPost P fn R) s f σ := by
  simp only [Bool.and_eq_true] at ho
  refine a_go hT h hob fun hok w S fc Sg hs hh => ?_
  obtain ⟨Sg', hg, hs', hh'⟩ := reg_begin (ex := ⟨true, some (x, ops.size - ord.length, (ordTo ops (Array.replicate ops.size false) ord).getD #[])⟩) hs hh ht
  show (Code.region id ops true).wp P (post P (bodyPost P fn R) κ) (act n fc) w
  refine wp_region_tree (S := Sg') (x := x) ord hm (Nat.le_of_ble_eq_true ho.1.1.1.1.1) ho.1.1.1.1.2 ho.1.1.1.2 (fun hlt => ?_) ho.1.2 ?_ hg true (fun _ _ => Nat.eq_of_beq_eq_true ho.2) (hk.out trivial w.drew S fc Sg' hs' hh')
  · have h2 := ho.1.1.2
    rw [Bool.or_eq_true, Bool.not_eq_true'] at h2
    rcases h2 with h2 | h2
    · rw [show Nat.blt x ops.size = true by simpa [Nat.blt_eq] using hlt] at h2; cases h2
    · exact h2
  intro cc a d v w hp
  rw [post_panic] at hp ⊢
  exact ⟨by simpa [Act.put] using (show (a.put d v).defers = [] from hp.1) |> fun h => by cases d <;> simpa [Act.put] using h, hp.2⟩
theorem a_rest (hT : TOk P L) {fn : Func} {R : Ending → World → Prop} {b : Bool} {x q : Nat} {listed : Array Bool} (ord : List (Nat × Bool)) (h : machA L n fuel s f σ [] = ⟨.st (.ops (.last ⟨b, some (x, q, listed)⟩) κ all dec []), f', σ', ob⟩) (hob : ob.map (·.1) = ob.map (·.2))
    (ho : (Nat.beq ord.length q && Region.noSelect all && ordOk all listed ord && listed.getD x false && Nat.beq listed.size all.size && xOk all.size ord) = true)
    (hk : DenA c P n (bodyPost P fn R) (.ops .rest κ all dec (selK all.toList ord)) f' σ') : DenA c P n (bodyPost P fn R) s f σ := by
  simp only [Bool.and_eq_true] at ho
  refine a_go hT h hob fun hok w S fc Sg hs hh => ?_
  show ClosedL .any all listed → _
  intro hcl
  refine OR_rest ho.1.1.1.1.1 ho.1.1.1.1.2 ho.1.1.1.2 ho.1.1.2 ho.1.2 ho.2 (fun c a d v w hp => ?_) hcl (hk.out trivial w S fc Sg hs hh)
  rw [post_panic] at hp ⊢
  exact ⟨by simpa [Act.put] using (show (a.put d v).defers = [] from hp.1) |> fun h => by cases d <;> simpa [Act.put] using h, hp.2⟩
/-- A cut, where what follows stands behind already. -/
theorem a_cutK (hT : TOk P L) {X : Type} (l : List Nat) (vs : X → List AV) (sg : X → Store) (φ : X → Prop) {cd d : Code} (q : Nat) (h : machA L n q s f σ [] = ⟨.st (.code (.seq d :: κ) cd), f', σ', ob⟩) (hob : ob.map (·.1) = ob.map (·.2))
    (h1 : DenA c P n Q (.code (.inv (InvA c n l vs sg φ) :: κ) cd) f' σ') (h2 : ∀ x, φ x → DenA c P n Q (.code κ d) (overA l (vs x)) (sg x)) : DenA c P n Q s f σ := by
  have key : DenA c P n Q (.code (.seq d :: κ) cd) f' σ' := by
    refine ⟨fun hok w S fc Sg hs hh => ?_⟩
    show cd.wp P (post P Q (.seq d :: κ)) (act n fc) w
    refine wp_mono (h1.out trivial w S fc Sg hs hh) ?_
    intro e a' w' hq
    cases e with
    | normal =>
      obtain ⟨x', fc', S', rfl, hx', hs', hh'⟩ := hq
      exact (h2 x' hx').out trivial w' S' fc' (fun _ => True) hs' hh'
    | exit id => exact hq
    | goto l => exact hq
    | ret => exact hq
    | panic ch => exact hq
    | outgrown => exact hq
  exact ⟨machA_sound hT q s f σ [] (by rw [h]; exact OT.of hob) (by rw [h]; exact key.out)⟩
end
end Go.Proofs.Ytepjnmocepkfjaa.A
end

section
/- Layer 23's client: what it is; wake, none, Floor, frame. -/
set_option linter.unusedVariables false
set_option linter.unusedSimpArgs false
namespace Go.Proofs.Ytepjnmocepkfjaa
open V A
/-- A call that hasn't completed. -/
structure CP where
  tok : Int
  meth : Int
  arg : List UInt8
  dl : Int
  att : Int
  made : Int
def mnI (p q : Int) : Int := if q < p then q else p
def wakeP (x : CP) : Int := mnI x.dl (x.made + delayP x.att)
structure CP.ok (x : CP) (last : Int) : Prop where
  t1 : 1 ≤ x.tok
  t2 : x.tok ≤ last
  m1 : 0 ≤ x.meth
  m2 : x.meth ≤ 2147483647
  a : x.arg.length ≤ 4096
  d : x.dl ≤ 1099511627776
  m : 0 ≤ x.made
  md : x.made < x.dl
  a1 : 0 ≤ x.att
  a2 : x.att < 6
theorem delayP_le (k : Int) : 0 ≤ delayP k ∧ delayP k ≤ 32 := by
  unfold delayP
  split
  · omega
  split
  · omega
  split
  · omega
  split <;> omega
abbrev callBlk (b : Nat) (x : CP) : Chunk := .blk b 72 [.v (kU x.tok) 0, .v (kI x.meth) 0, .d (A.bytesD x.arg), .v (kI x.dl) 0, .v (kI x.att) 0, .v (kI x.made) 0]
theorem w64 {x : Int} (h1 : -9223372036854775808 ≤ x) (h2 : x < 9223372036854775808) : IntKind.i64.wrap x = x := by
  unfold IntKind.wrap
  simp [IntKind.bits, IntKind.signed]
  omega
theorem wrapU {x : Int} (h1 : 0 ≤ x) (h2 : x < 18446744073709551616) : IntKind.u64.wrap x = x := by
  unfold IntKind.wrap
  simp [IntKind.bits, IntKind.signed]
  omega
/-- A call, as it lies still. -/
def callD (x : CP) : AV := .d (.p [.v (kU x.tok), .v (kI x.meth), A.bytesD x.arg, .v (kI x.dl), .v (kI x.att), .v (kI x.made)])
theorem cwake_spec {x : CP} (h1 : 0 ≤ x.made) (h2 : x.made ≤ 1099511627776) : FSpec Try.prog 30 [callD x] [] fun a cs => a = .v (kI (wakeP x)) 0 ∧ cs = [] := by
  have hd := delayP_le x.att
  have hw : IntKind.i64.wrap (x.made + delayP x.att) = x.made + delayP x.att := w64 (by omega) (by omega)
  refine a_enter hT [callD x] [] Try.func30 rfl rfl rfl ⟨rfl, trivial⟩ fun c => ?_
  refine a_draw hT [] false [(0, false), (1, false), (2, false), (3, false), (4, false), (5, false), (6, false), (7, false), (8, false), (9, false), (10, false), (11, false), (12, true), (13, false), (14, false), (15, true)] rfl rfl (by kernel_rfl) (by kernel_rfl) rfl ?_
  refine a_call hT rfl rfl rfl (by kernel_rfl) delay_spec [] [] rfl rfl ?_
  rintro _ _ ⟨rfl, rfl⟩
  refine a_ret hT [] rfl rfl rfl rfl rfl rfl ?_
  refine ⟨?_, rfl⟩
  show AV.v (.int .i64 (if _ < _ then _ else _)) 0 = _
  rw [hw]; rfl
abbrev cliBlk (g : Nat) (num last : Int) (gm gt : Nat) : Chunk := .blk g 68 [.v (kI num) 0, .v (kU last) 0, .v (.map (some gm)) 11, ptrA gt 13]
/-- A client, as it lies still. -/
def cliD (num last : Int) (gm gt : Nat) : AV := .d (.p [.v (kI num), .v (kU last), .v (.map (some gm)), .v (.pointer (some ⟨gt, 0, none⟩))])
theorem none_spec {num last : Int} {gm gt : Nat} : FSpec Try.prog 27 [cliD num last gm gt] [] fun a cs => a = bA (num == 0) ∧ cs = [] := by
  refine a_enter hT [cliD num last gm gt] [] Try.func27 rfl rfl rfl ⟨rfl, trivial⟩ fun c => ?_
  refine a_gf hT rfl rfl rfl rfl ?_
  refine a_ret hT [] rfl rfl rfl rfl rfl rfl ?_
  first | exact ⟨rfl, rfl⟩ | rfl
theorem none_nil {h : Nat} : FSpec Try.prog 27 [.v (.pointer none) h] [] fun a cs => a = bA true ∧ cs = [] := by
  refine a_enter hT [.v (.pointer none) 0] [] Try.func27 rfl rfl rfl ⟨rfl, trivial⟩ fun c => ?_
  refine a_gt hT rfl rfl rfl rfl ?_
  refine a_ret hT [] rfl rfl rfl rfl rfl rfl ?_
  first | exact ⟨rfl, rfl⟩ | rfl
def bV40 (b : Nat) : AV := ptrA b 40
instance (b : Nat) : FreeA (bV40 b) := FreeA.v _ _
instance (b : Bool) : FreeA (bA b) := FreeA.v _ _
def cmap (L : List (Nat × CP)) : List (Int × Nat) := L.map fun p => (p.2.tok, p.1)
abbrev cmapC (gm : Nat) (L : List (Nat × CP)) : Chunk := .map gm (mapG kU bV40 (cmap L))
theorem mtK : mapT Try.prog 64 25 69 = true := by kernel_rfl
theorem zeroK : (Try.prog.info? 69).map (·.zero) = some (some (.pointer none)) := by kernel_rfl
def floorP (last : Int) (L : List (Nat × CP)) : Int := match L with | [] => last + 1 | p :: _ => p.2.tok
theorem floor_min {last m : Int} {L : List (Nat × CP)} (hs : (L.map (·.2.tok)).Pairwise (· < ·)) (hl : ∀ p ∈ L, p.2.tok ≤ last) (h3 : ∀ t, (∃ b, (t, b) ∈ cmap L) → m ≤ t) (h2 : m ≤ last + 1) (h4 : m = last + 1 ∨ ∃ b, (m, b) ∈ cmap L) : m = floorP last L := by
  unfold floorP
  cases L with
  | nil =>
    rcases h4 with h | ⟨b, h⟩
    · exact h
    · simp [cmap] at h
  | cons p L =>
    have e1 : m ≤ p.2.tok := h3 _ ⟨p.1, by simp [cmap]⟩
    have e2 := hl p (by simp)
    rcases h4 with h | ⟨b, h⟩
    · show m = p.2.tok; omega
    · obtain ⟨q, hq, e⟩ := List.mem_map.1 h
      cases e
      rcases List.mem_cons.1 hq with rfl | hq
      · rfl
      · rw [List.map_cons, List.pairwise_cons] at hs
        have := hs.1 _ (List.mem_map.2 ⟨q, hq, rfl⟩)
        show q.2.tok = p.2.tok
        omega
theorem cfloor_spec {num last : Int} {gm gt : Nat} {L : List (Nat × CP)} (hn : num ≠ 0) (hs : (L.map (·.2.tok)).Pairwise (· < ·)) (hl : ∀ p ∈ L, p.2.tok ≤ last) (hl0 : 0 ≤ last) (hl1 : last < 1000000) : FSpec Try.prog 13 [cliD num last gm gt] [cmapC gm L] fun a cs => a = .v (kU (floorP last L)) 0 ∧ cs = [cmapC gm L] := by
  refine a_enter hT [cliD num last gm gt] [0] Try.func13 rfl rfl rfl ⟨rfl, trivial⟩ fun c => ?_
  refine a_call hT rfl rfl rfl (by kernel_rfl) none_spec [] [] rfl rfl ?_
  rintro _ _ ⟨rfl, rfl⟩
  refine a_f hT rfl rfl (by simpa using hn) ?_
  refine a_rangeG hT (kv := kU) (va := bV40) (h0 := 0) (cmap L) rfl rfl rfl mtK rfl rfl rfl rfl fun it => ?_
  have hw : IntKind.u64.wrap (last + 1) = last + 1 := wrapU (by omega) (by omega)
  refine a_loop hT [3, 16] (fun x : List (Bool × (Int × Nat)) × Option (Value × AV) × Int => [.v (kU x.2.2) 0, .v (.pointer (some ⟨it, 0, none⟩)) 0]) (fun x => [(0, .ext (iterA gm it (iterG kU bV40 x.1) x.2.1))])
    (fun x => x.1.map (·.2) = cmap L ∧ x.2.2 ≤ last + 1 ∧ (∀ q ∈ x.1, q.1 = true → x.2.2 ≤ q.2.1) ∧ (x.2.2 = last + 1 ∨ ∃ q ∈ x.1, x.2.2 = q.2.1)) (fun x => left x.1) ((cmap L).map fun p => (false, p), none, last + 1) [0] rfl rfl ⟨by simp [List.map_map, Function.comp_def], Int.le_refl _, by simp, .inl rfl⟩ ⟨by rw [hw]; rfl, rfl, trivial⟩ rfl ⟨rfl, trivial⟩ ?_
  rintro ⟨l, cur, m⟩ ⟨h1, h2, h3, h4⟩
  refine a_inextG hT (kv := kU) (va := bV40) l rfl rfl rfl rfl rfl rfl rfl (fun hq => ?_) (fun i k b hi => ?_)
  · refine a_f hT rfl rfl rfl ?_
    refine a_iendG 0 (kv := kU) (va := bV40) l rfl rfl rfl ?_
    have h1' : l.map (·.2) = cmap L := h1
    refine a_ret hT [0] rfl rfl rfl rfl rfl rfl ⟨?_, by rw [h1']⟩
    refine congrArg (fun x => AV.v (kU x) 0) (floor_min hs hl (fun t ht => ?_) h2 ?_)
    · obtain ⟨b, hb⟩ := ht
      rw [← h1'] at hb
      obtain ⟨q, hq', e⟩ := List.mem_map.1 hb
      have := h3 q hq' (hq q hq')
      rw [e] at this
      exact this
    · refine h4.imp id fun ⟨q, hq', e⟩ => ⟨q.2.2, ?_⟩
      rw [← h1']
      exact List.mem_map.2 ⟨q, hq', by rw [show m = q.2.1 from e]⟩
  · refine a_t hT rfl rfl rfl ?_
    refine a_ientry hT rfl rfl rfl rfl rfl rfl ?_
    have hset := (List.getElem?_eq_some_iff.1 hi).1
    have e2 : (l.set i (true, (k, b))).map (·.2) = l.map (·.2) := map_set_same (y := (true, (k, b))) _ hi rfl
    refine a_next hT (l.set i (true, (k, b)), some (kU k, bV40 b), if k < m then k else m) [0] rfl rfl ⟨⟨?_, ?_, ?_, ?_⟩, ?_⟩ ⟨rfl, rfl, trivial⟩ rfl ⟨rfl, trivial⟩
    · show (l.set i (true, (k, b))).map (·.2) = cmap L
      rw [e2]; exact h1
    · show (if k < m then k else m) ≤ last + 1
      have : m ≤ last + 1 := h2
      split <;> omega
    · intro q hq hq1
      show (if k < m then k else m) ≤ q.2.1
      rcases List.mem_or_eq_of_mem_set hq with hq | rfl
      · have : m ≤ q.2.1 := h3 q hq hq1
        split <;> omega
      · show (if k < m then k else m) ≤ k
        split <;> omega
    · show (if k < m then k else m) = last + 1 ∨ ∃ q ∈ l.set i (true, (k, b)), (if k < m then k else m) = q.2.1
      split
      · exact .inr ⟨(true, (k, b)), List.mem_set hset _, rfl⟩
      · refine h4.imp id fun ⟨q, hq', e⟩ => ?_
        have hm : q.2 ∈ (l.set i (true, (k, b))).map (·.2) := by rw [e2]; exact List.mem_map.2 ⟨q, hq', rfl⟩
        obtain ⟨q2, hq2, e3⟩ := List.mem_map.1 hm
        exact ⟨q2, hq2, by rw [e3]; exact e⟩
    · show left (l.set i (true, (k, b))) < left l
      have := left_set hi (k, b)
      omega
end Go.Proofs.Ytepjnmocepkfjaa
end

section
/- Layer 23's client: frame, complete. -/
set_option linter.unusedVariables false
set_option linter.unusedSimpArgs false
set_option maxRecDepth 100000
namespace Go.Proofs.Ytepjnmocepkfjaa
open V A
/-- What a contract leaves, told by what fits. -/
theorem spec_fit {f : FuncId} {args : List AV} {cs : List Chunk} {R : AV → List Chunk → Prop} (h : FSpec Try.prog f args cs fun a cs' => ∃ a' cs1 cs2, Fit a a' ∧ Ent cs' (cs1 ++ cs2) ∧ R a' cs1) : FSpec Try.prog f args cs R := h.weak fun a cs h => h
/-- Something that happened. -/
structure Evt where
  kind : Int
  client : Int
  token : Int
  method : Int
  status : Int
  bytes : List UInt8
def evtA (e : Evt) : AV := .agg [.v (kI e.kind) 0, .v (kI e.client) 0, .v (kU e.token) 0, .v (kI e.method) 0, .v (kI e.status) 0, .d (A.bytesD e.bytes)]
def nofr : Fr := ⟨0, 0, 0, 0, 0, 0, 0, 0, []⟩
def noev : Evt := ⟨0, 0, 0, 0, 0, []⟩
def frameP (num last : Int) (L : List (Nat × CP)) (x : CP) : Fr := ⟨1, num, x.tok, x.att, floorP last L, x.meth, x.dl, 0, x.arg⟩
theorem cframe_spec {num last : Int} {gm gt : Nat} {L : List (Nat × CP)} {x : CP} (hn : num ≠ 0) (hs : (L.map (·.2.tok)).Pairwise (· < ·)) (hl : ∀ p ∈ L, p.2.tok ≤ last) (hl0 : 0 ≤ last) (hl1 : last < 1000000) (hx : x.arg.length ≤ lim) : FSpec Try.prog 31 [cliD num last gm gt, callD x] [cmapC gm L]
    fun a cs => ∃ v, a = .agg [.v (kI 1) 0, .v (kI num) 0, .v (kU x.tok) 0, .v (kI x.att) 0, .v (kU (floorP last L)) 0, .v (kI x.meth) 0, .v (kI x.dl) 0, .v (kI 0) 0, .row v 1] ∧ cs = [cmapC gm L, .row v 5 1 (x.arg.map eB)] := by
  refine a_enter hT [cliD num last gm gt, callD x] [11] Try.func31 rfl rfl rfl ⟨rfl, rfl, trivial⟩ fun c => ?_
  refine a_new hT hZ 20 rfl rfl rfl rfl fun g => ?_
  refine a_draw hT [11] true [(0, false), (1, false), (2, false), (3, false), (4, false), (5, false), (6, false), (7, false), (8, false), (9, false), (10, false), (11, false), (12, false), (14, false), (15, false), (16, false), (17, false), (18, false), (19, false), (20, false), (21, false), (22, false), (23, false), (24, false), (25, false), (13, true), (26, true), (27, false), (28, true)] rfl rfl (by kernel_rfl) (by kernel_rfl) rfl ?_
  refine a_call hT rfl rfl rfl (by kernel_rfl) (cfloor_spec hn hs hl hl0 hl1) [11] [11] rfl rfl ?_
  rintro _ _ ⟨rfl, rfl⟩
  refine a_call hT rfl rfl rfl (by kernel_rfl) (cloneB (by first | assumption | rfl | decide | omega)) [] [1] rfl rfl ?_
  rintro _ _ ⟨x1, rfl, rfl⟩
  refine a_build hT hZ [.v (Value.int IntKind.i64 1) 0, .v (kI num) 0, .v (kU (CP.tok x)) 0, .v (kI (CP.att x)) 0, .v (kU (floorP last L)) 0, .v (kI (CP.meth x)) 0, .v (kI (CP.dl x)) 0, .v (Value.int IntKind.i64 0) 0, .row x1 1] rfl rfl rfl rfl rfl rfl ?_
  refine a_ret hT [11, 1] rfl rfl rfl rfl rfl rfl ?_
  exact ⟨_, rfl, rfl⟩
theorem ccomplete_spec {g h b h2 h3 : Nat} {num last st : Int} {gm gt : Nat} {L : List (Nat × CP)} {x : CP} {S : TS} {bs : List UInt8} (hS : (S.map (·.1)).Nodup) (hl : S.length < 999999) (hb : bs.length ≤ lim) : FSpec Try.prog 32 [ptrA g h, ptrA b h2, .v (kI st) h3, .d (A.bytesD bs)] [cliBlk g num last gm gt, cmapC gm L, callBlk b x, .ext (tmA gt S)]
    fun a cs => a = evtA ⟨3, num, x.tok, x.meth, st, bs⟩ ∧ cs = [cliBlk g num last gm gt, .map gm (mapG kU bV40 (adel (cmap L) x.tok)), callBlk b x, .ext (tmA gt (filt x.tok S))] := by
  refine a_enter hT [ptrA g 10, ptrA b 12, .v (kI st) 0, .d (A.bytesD bs)] [10, 11, 12, 13] Try.func32 rfl rfl rfl ⟨rfl, rfl, rfl, rfl, trivial⟩ fun c => ?_
  refine a_new hT hZ 20 rfl rfl rfl rfl fun g1 => ?_
  refine a_draw hT [] true [(0, false), (1, false), (2, false), (3, false), (4, false), (5, false), (6, false), (7, false), (8, true)] rfl rfl (by kernel_rfl) (by kernel_rfl) rfl ?_
  refine a_mdelG hT (kv := kU) (va := bV40) _ _ rfl rfl rfl rfl mtK kU_ok rfl rfl rfl rfl rfl ?_
  refine a_draw hT [] true [(0, false), (1, false), (2, false), (3, false), (4, false), (5, false), (6, false), (7, false), (8, true)] rfl rfl (by kernel_rfl) (by kernel_rfl) rfl ?_
  refine a_call hT rfl rfl rfl (by kernel_rfl) (tstop_spec hS hl) [13] [13] rfl rfl ?_
  rintro _ _ ⟨S', ⟨rfl, rfl⟩, rfl⟩
  refine a_draw hT [] true [(0, false), (1, false), (2, false), (3, false), (4, false), (5, false), (6, false), (7, false), (8, false), (9, false), (10, false), (11, false), (12, false), (13, false), (14, true), (15, false), (16, true)] rfl rfl (by kernel_rfl) (by kernel_rfl) rfl ?_
  refine a_call hT rfl rfl rfl (by kernel_rfl) (cloneF (by first | assumption | rfl | decide | omega)) [] [] rfl rfl ?_
  rintro _ _ ⟨rfl, rfl⟩
  refine a_build hT hZ [.v (Value.int IntKind.i64 3) 0, .v (kI num) 0, .v (kU (CP.tok x)) 0, .v (kI (CP.meth x)) 0, .v (kI st) 0, .d (A.bytesD bs)] rfl rfl rfl rfl rfl rfl ?_
  refine a_ret hT [10, 11, 12, 13] rfl rfl rfl rfl rfl rfl ?_
  first | exact ⟨rfl, rfl⟩ | rfl
end Go.Proofs.Ytepjnmocepkfjaa
end

section
/- Layer 23's client as a whole: New, Call. -/
set_option linter.unusedVariables false
set_option linter.unusedSimpArgs false
set_option maxRecDepth 100000
namespace Go.Proofs.Ytepjnmocepkfjaa
open V A
/-- A client: its number, the last token, the calls that haven't completed. -/
structure CS where
  num : Int
  last : Int
  calls : List CP
structure CS.ok (C : CS) : Prop where
  n0 : C.num ≠ 0
  s : (C.calls.map (·.tok)).Pairwise (· < ·)
  c : ∀ x ∈ C.calls, x.ok C.last
  l0 : 0 ≤ C.last
  l1 : C.last < 1000000
structure CX where
  gm : Nat
  gt : Nat
  L : List (Nat × CP)
def due (l : List CP) : TS := l.map fun x => (x.tok, wakeP x)
def callsC (L : List (Nat × CP)) : List Chunk := L.map fun p => callBlk p.1 p.2
def CX.cs (g : Nat) (C : CS) (y : CX) : List Chunk := [cliBlk g C.num C.last y.gm y.gt, cmapC y.gm y.L, .ext (listA (callsC y.L)), .ext (tmA y.gt (due C.calls))]
def cliA (g : Nat) (C : CS) : Asrt := exA (fun y : CX => y.L.map (·.2) = C.calls) (CX.cs g C)
theorem cl_pack {g : Nat} {C : CS} {y : CX} (h : y.L.map (·.2) = C.calls) : Ent (y.cs g C) [.ext (cliA g C)] := ent_pack (f := CX.cs g C) y h
theorem cl_unpack (g : Nat) (C : CS) : EntX [.ext (cliA g C)] (fun y : CX => y.L.map (·.2) = C.calls) (CX.cs g C) := ent_unpack _ _
theorem toks {L : List (Nat × CP)} {C : CS} (h : L.map (·.2) = C.calls) : L.map (·.2.tok) = C.calls.map (·.tok) := by rw [← h, List.map_map]; rfl
theorem CS.ok.pw {C : CS} {L : List (Nat × CP)} (hC : C.ok) (h : L.map (·.2) = C.calls) : (L.map (·.2.tok)).Pairwise (· < ·) := by rw [toks h]; exact hC.s
theorem CS.ok.le {C : CS} {L : List (Nat × CP)} (hC : C.ok) (h : L.map (·.2) = C.calls) : ∀ p ∈ L, p.2.tok ≤ C.last := fun p hp => (hC.c p.2 (by rw [← h]; exact List.mem_map.2 ⟨p, hp, rfl⟩)).t2
theorem nodup_of_lt {l : List Int} (h : l.Pairwise (· < ·)) : l.Nodup := h.imp fun h e => by omega
theorem CS.ok.dn {C : CS} (hC : C.ok) : ((due C.calls).map (·.1)).Nodup := by
  unfold due
  rw [List.map_map]
  exact nodup_of_lt hC.s
theorem CS.ok.cn {C : CS} {L : List (Nat × CP)} (hC : C.ok) (h : L.map (·.2) = C.calls) : ((cmap L).map (·.1)).Nodup := by
  unfold cmap
  rw [List.map_map]
  exact nodup_of_lt (hC.pw h)
/-- Tokens rise from 1 to last: so many there are at most. -/
theorem rise_len : ∀ {l : List Int} {a b : Int}, l.Pairwise (· < ·) → (∀ x ∈ l, a < x ∧ x ≤ b) → (l.length : Int) ≤ b - a ∨ l = []
  | [], a, b, _, _ => .inr rfl
  | x :: l, a, b, h, hx => by
    rw [List.pairwise_cons] at h
    have h1 := hx x (by simp)
    left
    rcases rise_len (a := x) (b := b) h.2 (fun y hy => ⟨h.1 y hy, (hx y (by simp [hy])).2⟩) with h2 | rfl
    · simp; omega
    · simp; omega
theorem CS.ok.len1 {C : CS} (hC : C.ok) {b : Int} (h1 : C.last < b) : (C.calls.length : Int) ≤ b := by
  have hl0 := hC.l0
  have := rise_len (a := 0) (b := C.last) hC.s (fun x hx => by obtain ⟨y, hy, rfl⟩ := List.mem_map.1 hx; have := hC.c y hy; exact ⟨by have := this.t1; omega, this.t2⟩)
  rcases this with h | h
  · rw [List.length_map] at h; omega
  · have : C.calls = [] := by simpa using h
    rw [this]; simp; omega
def CS.fl (C : CS) : Int := match C.calls with | [] => C.last + 1 | x :: _ => x.tok
theorem CS.fl_eq {C : CS} {L : List (Nat × CP)} (h : L.map (·.2) = C.calls) : floorP C.last L = C.fl := by
  unfold CS.fl
  rw [← h]
  cases L <;> rfl
theorem cl_spec {f : FuncId} {args : List AV} {g : Nat} {C : CS} {R : AV → CS → Prop} (h : ∀ y : CX, y.L.map (·.2) = C.calls → FSpec Try.prog f args (y.cs g C) fun a cs => ∃ a' cs1 C', Fit a a' ∧ Ent cs cs1 ∧ Ent cs1 [.ext (cliA g C')] ∧ R a' C') : FSpec Try.prog f args [.ext (cliA g C)] fun a cs => ∃ C', R a C' ∧ cs = [.ext (cliA g C')] := by
  refine FSpec.entX (cl_unpack g C) fun y hy => ?_
  exact (h y hy).weak fun a cs ⟨a', cs1, C', h1, h2, h3, h4⟩ => ⟨a', [.ext (cliA g C')], [], h1, by rw [List.append_nil]; exact h2.trans h3, C', h4, rfl⟩
/-- Call. -/
def CS.bad (C : CS) (meth : Int) (arg : List UInt8) : Prop := meth < 0 ∨ meth > 2147483647 ∨ arg.length > 4096
def callP (C : CS) (meth : Int) (arg : List UInt8) (dl now : Int) : CS × Evt × Fr × Int :=
  if meth < 0 ∨ meth > 2147483647 ∨ arg.length > 4096 then (C, noev, nofr, 1)
  else if now < 0 ∨ dl ≤ now ∨ dl > 1099511627776 then (C, noev, nofr, 3)
  else if C.last + 1 - C.fl ≥ 16 then (C, noev, nofr, 14)
  else
    let x : CP := ⟨C.last + 1, meth, arg, dl, 0, now⟩
    let C' : CS := ⟨C.num, C.last + 1, C.calls ++ [x]⟩
    (C', ⟨1, C.num, x.tok, meth, 0, arg⟩, ⟨1, C.num, x.tok, 0, C'.fl, meth, dl, 0, arg⟩, 0)
abbrev newC (C : CS) (meth : Int) (arg : List UInt8) (dl now : Int) : CP := ⟨C.last + 1, meth, arg, dl, 0, now⟩
theorem CS.ok.fl1 {C : CS} (hC : C.ok) : 1 ≤ C.fl ∧ C.fl ≤ C.last + 1 := by
  have := hC.l0
  unfold CS.fl
  cases h : C.calls with
  | nil => simp only; omega
  | cons x l =>
    have h1 := hC.c x (by rw [h]; simp)
    have := h1.t1
    have := h1.t2
    simp only
    omega
theorem call_e {g : Nat} {C : CS} {meth dl now : Int} {arg : List UInt8} {y : CX} (e : Int) (hy : y.L.map (·.2) = C.calls) (he : callP C meth arg dl now = (C, noev, nofr, e)) {a : AV} (hf : Fit a (.tup [evtA noev, frA nofr, .v (kI e) 0])) :
    ∃ a' cs1 C', Fit a a' ∧ Ent (y.cs g C) cs1 ∧ Ent cs1 [.ext (cliA g C')] ∧ C' = (callP C meth arg dl now).1 ∧ a' = .tup [evtA (callP C meth arg dl now).2.1, frA (callP C meth arg dl now).2.2.1, .v (kI (callP C meth arg dl now).2.2.2) 0] := by
  rw [he]
  exact ⟨_, _, C, hf, Ent.refl _, cl_pack hy, rfl, rfl⟩
def newS (C : CS) (x : CP) : CS := ⟨C.num, C.last + 1, C.calls ++ [x]⟩
theorem pw_new {C : CS} {L : List (Nat × CP)} {x : CP} {g3 : Nat} (hC : C.ok) (hy : L.map (·.2) = C.calls) (h0 : ∀ p ∈ L, p.2.tok < x.tok) : ((L ++ [(g3, x)]).map (·.2.tok)).Pairwise (· < ·) := by
  rw [List.map_append, List.pairwise_append]
  refine ⟨hC.pw hy, by simp, fun a ha b hb => ?_⟩
  obtain ⟨p, hp, rfl⟩ := List.mem_map.1 ha
  simp at hb
  subst hb
  exact h0 p hp
theorem le_new {last : Int} {L : List (Nat × CP)} {x : CP} {g3 : Nat} {C : CS} (hy : L.map (·.2) = C.calls) (h0 : ∀ p ∈ L, p.2.tok < x.tok) (hx : x.tok = last := by rfl) : ∀ p ∈ L ++ [(g3, x)], p.2.tok ≤ last := fun p hp => by
  rcases List.mem_append.1 hp with hp | hp
  · have := h0 p hp; omega
  · simp at hp; subst hp; show x.tok ≤ last; omega
theorem call_n {g g3 : Nat} {C : CS} {meth dl now : Int} {arg : List UInt8} {y : CX} (hC : C.ok) (hy : y.L.map (·.2) = C.calls) (h0 : ∀ p ∈ y.L, p.2.tok < C.last + 1)
    (he : callP C meth arg dl now = (newS C (newC C meth arg dl now), ⟨1, C.num, C.last + 1, meth, 0, arg⟩, ⟨1, C.num, C.last + 1, 0, (newS C (newC C meth arg dl now)).fl, meth, dl, 0, arg⟩, 0)) :
    ∃ a' cs1 C', Fit (.tup [evtA ⟨1, C.num, C.last + 1, meth, 0, arg⟩, frA ⟨1, C.num, C.last + 1, 0, floorP (C.last + 1) (y.L ++ [(g3, newC C meth arg dl now)]), meth, dl, 0, arg⟩, .v (kI 0) 0]) a' ∧
      Ent [cliBlk g C.num (C.last + 1) y.gm y.gt, cmapC y.gm (y.L ++ [(g3, newC C meth arg dl now)]), callBlk g3 (newC C meth arg dl now), .ext (listA (callsC y.L)), .ext (tmA y.gt (setP (due C.calls) (C.last + 1) (wakeP (newC C meth arg dl now))))] cs1 ∧ Ent cs1 [.ext (cliA g C')] ∧
      C' = (callP C meth arg dl now).1 ∧ a' = .tup [evtA (callP C meth arg dl now).2.1, frA (callP C meth arg dl now).2.2.1, .v (kI (callP C meth arg dl now).2.2.2) 0] := by
  have hy' : (y.L ++ [(g3, newC C meth arg dl now)]).map (·.2) = (newS C (newC C meth arg dl now)).calls := by rw [List.map_append, hy]; rfl
  have hfl := CS.fl_eq (C := newS C (newC C meth arg dl now)) hy'
  have hfl : floorP (C.last + 1) (y.L ++ [(g3, newC C meth arg dl now)]) = _ := hfl
  rw [he, hfl]
  refine ⟨_, CX.cs g (newS C (newC C meth arg dl now)) ⟨y.gm, y.gt, y.L ++ [(g3, newC C meth arg dl now)]⟩, newS C (newC C meth arg dl now), Fit.refl _, Ent.cons _ (Ent.cons _ ?_), cl_pack hy', rfl, rfl⟩
  have e1 := ent_unfocus (callsC y.L) [callBlk g3 (newC C meth arg dl now)] []
  rw [List.append_nil, List.append_nil] at e1
  have e2 : callsC y.L ++ [callBlk g3 (newC C meth arg dl now)] = callsC (y.L ++ [(g3, newC C meth arg dl now)]) := by unfold callsC; rw [List.map_append]; rfl
  rw [e2] at e1
  refine Ent.app e1 (tm_perm ?_)
  have hno : C.last + 1 ∉ (due C.calls).map (·.1) := fun h => by
    unfold due at h
    rw [List.map_map] at h
    obtain ⟨x, hx, e⟩ := List.mem_map.1 h
    rw [← hy] at hx
    obtain ⟨p, hp, rfl⟩ := List.mem_map.1 hx
    have := h0 p hp
    have e : p.2.tok = C.last + 1 := e
    omega
  unfold setP
  rw [filt_no hno]
  show (((C.last + 1, wakeP (newC C meth arg dl now)) : Int × Int) :: due C.calls).Perm (due (C.calls ++ [newC C meth arg dl now]))
  unfold due
  rw [List.map_append]
  exact (List.perm_append_comm (l₁ := [_]))
theorem ccall_spec {g h h1 h2 h3 : Nat} {C : CS} {meth dl now : Int} {arg : List UInt8} (hC : C.ok) (ha : arg.length ≤ lim) (hl1 : C.last < 900000) : FSpec Try.prog 11 [ptrA g h, .v (kI meth) h1, .d (A.bytesD arg), .v (kI dl) h2, .v (kI now) h3] [.ext (cliA g C)]
    fun a cs => ∃ C', (C' = (callP C meth arg dl now).1 ∧ a = .tup [evtA (callP C meth arg dl now).2.1, frA (callP C meth arg dl now).2.2.1, .v (kI (callP C meth arg dl now).2.2.2) 0]) ∧ cs = [.ext (cliA g C')] := by
  refine cl_spec (R := fun a C' => C' = (callP C meth arg dl now).1 ∧ a = .tup [evtA (callP C meth arg dl now).2.1, frA (callP C meth arg dl now).2.2.1, .v (kI (callP C meth arg dl now).2.2.2) 0]) fun y hy => ?_
  have hL : ((arg.map eB).length : Int) = arg.length := by rw [List.length_map]
  have hn0 := hC.n0
  have hl0 := hC.l0
  have hl2 := hC.l1
  have hfl := hC.fl1
  have hw1 : IntKind.u64.wrap (C.last + 1) = C.last + 1 := wrapU (by omega) (by omega)
  have hw2 : IntKind.u64.wrap (IntKind.u64.wrap (C.last + 1) - floorP C.last y.L) = C.last + 1 - C.fl := by rw [hw1, CS.fl_eq hy]; exact wrapU (by omega) (by omega)
  refine a_enter hT [ptrA g 10, .v (kI meth) 0, .d (A.bytesD arg), .v (kI dl) 0, .v (kI now) 0] [10, 11, 14, 13] Try.func11 rfl rfl rfl ⟨rfl, rfl, rfl, rfl, rfl, trivial⟩ fun c => ?_
  have h0 : ∀ p ∈ y.L, p.2.tok < C.last + 1 := fun p hp => by have := hC.le hy p hp; omega
  have hput : ∀ g3, aput (cmap y.L) (C.last + 1) g3 = cmap (y.L ++ [(g3, newC C meth arg dl now)]) := fun g3 => by
    rw [aput_new (aget_none fun h => ?_)]
    · unfold cmap; rw [List.map_append]; rfl
    · unfold cmap at h
      rw [List.map_map] at h
      obtain ⟨p, hp, e⟩ := List.mem_map.1 h
      have := h0 p hp
      have e : p.2.tok = C.last + 1 := e
      omega
  refine a_new hT hZ 20 rfl rfl rfl rfl fun g1 => ?_
  refine a_new hT hZ 21 rfl rfl rfl rfl fun g2 => ?_
  refine a_callZ hT rfl rfl rfl (by kernel_rfl) none_spec [10] [] [] rfl rfl rfl ⟨rfl, trivial⟩ trivial (by rintro _ _ ⟨rfl, rfl⟩; exact ⟨inferInstance, inferInstance⟩) ?_
  rintro _ _ ⟨rfl, rfl⟩
  refine a_g hT rfl rfl rfl (fun h4 => ?_) (fun h4 => ?_)
  · have h4 := eq_of_beq h4
    refine a_gt hT rfl rfl rfl rfl ?_
    refine a_gt hT rfl rfl rfl rfl ?_
    refine a_t hT rfl rfl rfl ?_
    refine a_build hT hZ [.v (Value.int IntKind.i64 0) 0, .v (Value.int IntKind.i64 0) 0, .v (Value.int IntKind.u64 0) 0, .v (Value.int IntKind.i64 0) 0, .v (Value.int IntKind.i64 0) 0, .v (Value.slice none 0 0) 0] rfl rfl rfl rfl rfl rfl ?_
    refine a_build hT hZ [.v (Value.int IntKind.i64 0) 0, .v (Value.int IntKind.i64 0) 0, .v (Value.int IntKind.u64 0) 0, .v (Value.int IntKind.i64 0) 0, .v (Value.int IntKind.u64 0) 0, .v (Value.int IntKind.i64 0) 0, .v (Value.int IntKind.i64 0) 0, .v (Value.int IntKind.i64 0) 0, .v (Value.slice none 0 0) 0] rfl rfl rfl rfl rfl rfl ?_
    refine a_ret hT [10, 11, 14, 13] rfl rfl rfl rfl rfl rfl ?_
    first | exact call_e 1 hy (by unfold callP; rw [if_pos (by omega)]) ⟨⟨rfl, rfl, rfl, rfl, rfl, ⟨rfl, rfl⟩, trivial⟩, ⟨rfl, rfl, rfl, rfl, rfl, rfl, rfl, rfl, ⟨rfl, rfl⟩, trivial⟩, rfl, trivial⟩ | exact call_e 3 hy (by unfold callP; rw [if_neg (by omega), if_pos (by omega)]) ⟨⟨rfl, rfl, rfl, rfl, rfl, ⟨rfl, rfl⟩, trivial⟩, ⟨rfl, rfl, rfl, rfl, rfl, rfl, rfl, rfl, ⟨rfl, rfl⟩, trivial⟩, rfl, trivial⟩ | exact call_e 14 hy (by unfold callP; rw [if_neg (by omega), if_neg (by omega), if_pos (by omega)]) ⟨⟨rfl, rfl, rfl, rfl, rfl, ⟨rfl, rfl⟩, trivial⟩, ⟨rfl, rfl, rfl, rfl, rfl, rfl, rfl, rfl, ⟨rfl, rfl⟩, trivial⟩, rfl, trivial⟩
  · have h4 := ne_of_beq_false h4
    refine a_g hT rfl rfl rfl (fun h5 => ?_) (fun h5 => ?_)
    · have h5 := of_decide_eq_true h5
      refine a_gt hT rfl rfl rfl rfl ?_
      refine a_t hT rfl rfl rfl ?_
      refine a_build hT hZ [.v (Value.int IntKind.i64 0) 0, .v (Value.int IntKind.i64 0) 0, .v (Value.int IntKind.u64 0) 0, .v (Value.int IntKind.i64 0) 0, .v (Value.int IntKind.i64 0) 0, .v (Value.slice none 0 0) 0] rfl rfl rfl rfl rfl rfl ?_
      refine a_build hT hZ [.v (Value.int IntKind.i64 0) 0, .v (Value.int IntKind.i64 0) 0, .v (Value.int IntKind.u64 0) 0, .v (Value.int IntKind.i64 0) 0, .v (Value.int IntKind.u64 0) 0, .v (Value.int IntKind.i64 0) 0, .v (Value.int IntKind.i64 0) 0, .v (Value.int IntKind.i64 0) 0, .v (Value.slice none 0 0) 0] rfl rfl rfl rfl rfl rfl ?_
      refine a_ret hT [10, 11, 14, 13] rfl rfl rfl rfl rfl rfl ?_
      first | exact call_e 1 hy (by unfold callP; rw [if_pos (by omega)]) ⟨⟨rfl, rfl, rfl, rfl, rfl, ⟨rfl, rfl⟩, trivial⟩, ⟨rfl, rfl, rfl, rfl, rfl, rfl, rfl, rfl, ⟨rfl, rfl⟩, trivial⟩, rfl, trivial⟩ | exact call_e 3 hy (by unfold callP; rw [if_neg (by omega), if_pos (by omega)]) ⟨⟨rfl, rfl, rfl, rfl, rfl, ⟨rfl, rfl⟩, trivial⟩, ⟨rfl, rfl, rfl, rfl, rfl, rfl, rfl, rfl, ⟨rfl, rfl⟩, trivial⟩, rfl, trivial⟩ | exact call_e 14 hy (by unfold callP; rw [if_neg (by omega), if_neg (by omega), if_pos (by omega)]) ⟨⟨rfl, rfl, rfl, rfl, rfl, ⟨rfl, rfl⟩, trivial⟩, ⟨rfl, rfl, rfl, rfl, rfl, rfl, rfl, rfl, ⟨rfl, rfl⟩, trivial⟩, rfl, trivial⟩
    · have h5 := of_decide_eq_false h5
      refine a_g hT rfl rfl rfl (fun h6 => ?_) (fun h6 => ?_)
      · have h6 := of_decide_eq_true h6
        refine a_t hT rfl rfl rfl ?_
        refine a_build hT hZ [.v (Value.int IntKind.i64 0) 0, .v (Value.int IntKind.i64 0) 0, .v (Value.int IntKind.u64 0) 0, .v (Value.int IntKind.i64 0) 0, .v (Value.int IntKind.i64 0) 0, .v (Value.slice none 0 0) 0] rfl rfl rfl rfl rfl rfl ?_
        refine a_build hT hZ [.v (Value.int IntKind.i64 0) 0, .v (Value.int IntKind.i64 0) 0, .v (Value.int IntKind.u64 0) 0, .v (Value.int IntKind.i64 0) 0, .v (Value.int IntKind.u64 0) 0, .v (Value.int IntKind.i64 0) 0, .v (Value.int IntKind.i64 0) 0, .v (Value.int IntKind.i64 0) 0, .v (Value.slice none 0 0) 0] rfl rfl rfl rfl rfl rfl ?_
        refine a_ret hT [10, 11, 14, 13] rfl rfl rfl rfl rfl rfl ?_
        first | exact call_e 1 hy (by unfold callP; rw [if_pos (by omega)]) ⟨⟨rfl, rfl, rfl, rfl, rfl, ⟨rfl, rfl⟩, trivial⟩, ⟨rfl, rfl, rfl, rfl, rfl, rfl, rfl, rfl, ⟨rfl, rfl⟩, trivial⟩, rfl, trivial⟩ | exact call_e 3 hy (by unfold callP; rw [if_neg (by omega), if_pos (by omega)]) ⟨⟨rfl, rfl, rfl, rfl, rfl, ⟨rfl, rfl⟩, trivial⟩, ⟨rfl, rfl, rfl, rfl, rfl, rfl, rfl, rfl, ⟨rfl, rfl⟩, trivial⟩, rfl, trivial⟩ | exact call_e 14 hy (by unfold callP; rw [if_neg (by omega), if_neg (by omega), if_pos (by omega)]) ⟨⟨rfl, rfl, rfl, rfl, rfl, ⟨rfl, rfl⟩, trivial⟩, ⟨rfl, rfl, rfl, rfl, rfl, rfl, rfl, rfl, ⟨rfl, rfl⟩, trivial⟩, rfl, trivial⟩
      · have h6 := of_decide_eq_false h6
        refine a_if hT rfl rfl (fun h7 => ?_) (fun h7 => ?_)
        · have h7 := of_decide_eq_true h7
          refine a_build hT hZ [.v (Value.int IntKind.i64 0) 0, .v (Value.int IntKind.i64 0) 0, .v (Value.int IntKind.u64 0) 0, .v (Value.int IntKind.i64 0) 0, .v (Value.int IntKind.i64 0) 0, .v (Value.slice none 0 0) 0] rfl rfl rfl rfl rfl rfl ?_
          refine a_build hT hZ [.v (Value.int IntKind.i64 0) 0, .v (Value.int IntKind.i64 0) 0, .v (Value.int IntKind.u64 0) 0, .v (Value.int IntKind.i64 0) 0, .v (Value.int IntKind.u64 0) 0, .v (Value.int IntKind.i64 0) 0, .v (Value.int IntKind.i64 0) 0, .v (Value.int IntKind.i64 0) 0, .v (Value.slice none 0 0) 0] rfl rfl rfl rfl rfl rfl ?_
          refine a_ret hT [10, 11, 14, 13] rfl rfl rfl rfl rfl rfl ?_
          first | exact call_e 1 hy (by unfold callP; rw [if_pos (by omega)]) ⟨⟨rfl, rfl, rfl, rfl, rfl, ⟨rfl, rfl⟩, trivial⟩, ⟨rfl, rfl, rfl, rfl, rfl, rfl, rfl, rfl, ⟨rfl, rfl⟩, trivial⟩, rfl, trivial⟩ | exact call_e 3 hy (by unfold callP; rw [if_neg (by omega), if_pos (by omega)]) ⟨⟨rfl, rfl, rfl, rfl, rfl, ⟨rfl, rfl⟩, trivial⟩, ⟨rfl, rfl, rfl, rfl, rfl, rfl, rfl, rfl, ⟨rfl, rfl⟩, trivial⟩, rfl, trivial⟩ | exact call_e 14 hy (by unfold callP; rw [if_neg (by omega), if_neg (by omega), if_pos (by omega)]) ⟨⟨rfl, rfl, rfl, rfl, rfl, ⟨rfl, rfl⟩, trivial⟩, ⟨rfl, rfl, rfl, rfl, rfl, rfl, rfl, rfl, ⟨rfl, rfl⟩, trivial⟩, rfl, trivial⟩
        · have h7 := of_decide_eq_false h7
          refine a_g hT rfl rfl rfl (fun h8 => ?_) (fun h8 => ?_)
          · have h8 := of_decide_eq_true h8
            refine a_gt hT rfl rfl rfl rfl ?_
            refine a_t hT rfl rfl rfl ?_
            refine a_build hT hZ [.v (Value.int IntKind.i64 0) 0, .v (Value.int IntKind.i64 0) 0, .v (Value.int IntKind.u64 0) 0, .v (Value.int IntKind.i64 0) 0, .v (Value.int IntKind.i64 0) 0, .v (Value.slice none 0 0) 0] rfl rfl rfl rfl rfl rfl ?_
            refine a_build hT hZ [.v (Value.int IntKind.i64 0) 0, .v (Value.int IntKind.i64 0) 0, .v (Value.int IntKind.u64 0) 0, .v (Value.int IntKind.i64 0) 0, .v (Value.int IntKind.u64 0) 0, .v (Value.int IntKind.i64 0) 0, .v (Value.int IntKind.i64 0) 0, .v (Value.int IntKind.i64 0) 0, .v (Value.slice none 0 0) 0] rfl rfl rfl rfl rfl rfl ?_
            refine a_ret hT [10, 11, 14, 13] rfl rfl rfl rfl rfl rfl ?_
            first | exact call_e 1 hy (by unfold callP; rw [if_pos (by omega)]) ⟨⟨rfl, rfl, rfl, rfl, rfl, ⟨rfl, rfl⟩, trivial⟩, ⟨rfl, rfl, rfl, rfl, rfl, rfl, rfl, rfl, ⟨rfl, rfl⟩, trivial⟩, rfl, trivial⟩ | exact call_e 3 hy (by unfold callP; rw [if_neg (by omega), if_pos (by omega)]) ⟨⟨rfl, rfl, rfl, rfl, rfl, ⟨rfl, rfl⟩, trivial⟩, ⟨rfl, rfl, rfl, rfl, rfl, rfl, rfl, rfl, ⟨rfl, rfl⟩, trivial⟩, rfl, trivial⟩ | exact call_e 14 hy (by unfold callP; rw [if_neg (by omega), if_neg (by omega), if_pos (by omega)]) ⟨⟨rfl, rfl, rfl, rfl, rfl, ⟨rfl, rfl⟩, trivial⟩, ⟨rfl, rfl, rfl, rfl, rfl, rfl, rfl, rfl, ⟨rfl, rfl⟩, trivial⟩, rfl, trivial⟩
          · have h8 := of_decide_eq_false h8
            refine a_g hT rfl rfl rfl (fun h9 => ?_) (fun h9 => ?_)
            · have h9 := of_decide_eq_true h9
              refine a_t hT rfl rfl rfl ?_
              refine a_build hT hZ [.v (Value.int IntKind.i64 0) 0, .v (Value.int IntKind.i64 0) 0, .v (Value.int IntKind.u64 0) 0, .v (Value.int IntKind.i64 0) 0, .v (Value.int IntKind.i64 0) 0, .v (Value.slice none 0 0) 0] rfl rfl rfl rfl rfl rfl ?_
              refine a_build hT hZ [.v (Value.int IntKind.i64 0) 0, .v (Value.int IntKind.i64 0) 0, .v (Value.int IntKind.u64 0) 0, .v (Value.int IntKind.i64 0) 0, .v (Value.int IntKind.u64 0) 0, .v (Value.int IntKind.i64 0) 0, .v (Value.int IntKind.i64 0) 0, .v (Value.int IntKind.i64 0) 0, .v (Value.slice none 0 0) 0] rfl rfl rfl rfl rfl rfl ?_
              refine a_ret hT [10, 11, 14, 13] rfl rfl rfl rfl rfl rfl ?_
              first | exact call_e 1 hy (by unfold callP; rw [if_pos (by omega)]) ⟨⟨rfl, rfl, rfl, rfl, rfl, ⟨rfl, rfl⟩, trivial⟩, ⟨rfl, rfl, rfl, rfl, rfl, rfl, rfl, rfl, ⟨rfl, rfl⟩, trivial⟩, rfl, trivial⟩ | exact call_e 3 hy (by unfold callP; rw [if_neg (by omega), if_pos (by omega)]) ⟨⟨rfl, rfl, rfl, rfl, rfl, ⟨rfl, rfl⟩, trivial⟩, ⟨rfl, rfl, rfl, rfl, rfl, rfl, rfl, rfl, ⟨rfl, rfl⟩, trivial⟩, rfl, trivial⟩ | exact call_e 14 hy (by unfold callP; rw [if_neg (by omega), if_neg (by omega), if_pos (by omega)]) ⟨⟨rfl, rfl, rfl, rfl, rfl, ⟨rfl, rfl⟩, trivial⟩, ⟨rfl, rfl, rfl, rfl, rfl, rfl, rfl, rfl, ⟨rfl, rfl⟩, trivial⟩, rfl, trivial⟩
            · have h9 := of_decide_eq_false h9
              refine a_if hT rfl rfl (fun h10 => ?_) (fun h10 => ?_)
              · have h10 := of_decide_eq_true h10
                refine a_build hT hZ [.v (Value.int IntKind.i64 0) 0, .v (Value.int IntKind.i64 0) 0, .v (Value.int IntKind.u64 0) 0, .v (Value.int IntKind.i64 0) 0, .v (Value.int IntKind.i64 0) 0, .v (Value.slice none 0 0) 0] rfl rfl rfl rfl rfl rfl ?_
                refine a_build hT hZ [.v (Value.int IntKind.i64 0) 0, .v (Value.int IntKind.i64 0) 0, .v (Value.int IntKind.u64 0) 0, .v (Value.int IntKind.i64 0) 0, .v (Value.int IntKind.u64 0) 0, .v (Value.int IntKind.i64 0) 0, .v (Value.int IntKind.i64 0) 0, .v (Value.int IntKind.i64 0) 0, .v (Value.slice none 0 0) 0] rfl rfl rfl rfl rfl rfl ?_
                refine a_ret hT [10, 11, 14, 13] rfl rfl rfl rfl rfl rfl ?_
                first | exact call_e 1 hy (by unfold callP; rw [if_pos (by omega)]) ⟨⟨rfl, rfl, rfl, rfl, rfl, ⟨rfl, rfl⟩, trivial⟩, ⟨rfl, rfl, rfl, rfl, rfl, rfl, rfl, rfl, ⟨rfl, rfl⟩, trivial⟩, rfl, trivial⟩ | exact call_e 3 hy (by unfold callP; rw [if_neg (by omega), if_pos (by omega)]) ⟨⟨rfl, rfl, rfl, rfl, rfl, ⟨rfl, rfl⟩, trivial⟩, ⟨rfl, rfl, rfl, rfl, rfl, rfl, rfl, rfl, ⟨rfl, rfl⟩, trivial⟩, rfl, trivial⟩ | exact call_e 14 hy (by unfold callP; rw [if_neg (by omega), if_neg (by omega), if_pos (by omega)]) ⟨⟨rfl, rfl, rfl, rfl, rfl, ⟨rfl, rfl⟩, trivial⟩, ⟨rfl, rfl, rfl, rfl, rfl, rfl, rfl, rfl, ⟨rfl, rfl⟩, trivial⟩, rfl, trivial⟩
              · have h10 := of_decide_eq_false h10
                refine a_draw hT [11] false [(0, false), (1, false), (2, false), (3, false), (4, false), (5, false), (6, true), (7, false), (8, false), (9, true)] rfl rfl (by kernel_rfl) (by kernel_rfl) rfl ?_
                refine a_callZ hT rfl rfl rfl (by kernel_rfl) (cfloor_spec hn0 (hC.pw hy) (hC.le hy) hC.l0 hC.l1) [10] [11] [11] rfl rfl rfl ⟨rfl, trivial⟩ ⟨⟨rfl, rfl⟩, trivial⟩ (by rintro _ _ ⟨rfl, rfl⟩; exact ⟨inferInstance, inferInstance⟩) ?_
                rintro _ _ ⟨rfl, rfl⟩
                refine a_if hT rfl rfl (fun h11 => ?_) (fun h11 => ?_)
                · have h11 := of_decide_eq_true h11
                  refine a_build hT hZ [.v (Value.int IntKind.i64 0) 0, .v (Value.int IntKind.i64 0) 0, .v (Value.int IntKind.u64 0) 0, .v (Value.int IntKind.i64 0) 0, .v (Value.int IntKind.i64 0) 0, .v (Value.slice none 0 0) 0] rfl rfl rfl rfl rfl rfl ?_
                  refine a_build hT hZ [.v (Value.int IntKind.i64 0) 0, .v (Value.int IntKind.i64 0) 0, .v (Value.int IntKind.u64 0) 0, .v (Value.int IntKind.i64 0) 0, .v (Value.int IntKind.u64 0) 0, .v (Value.int IntKind.i64 0) 0, .v (Value.int IntKind.i64 0) 0, .v (Value.int IntKind.i64 0) 0, .v (Value.slice none 0 0) 0] rfl rfl rfl rfl rfl rfl ?_
                  refine a_ret hT [10, 11, 14, 13] rfl rfl rfl rfl rfl rfl ?_
                  first | exact call_e 1 hy (by unfold callP; rw [if_pos (by omega)]) ⟨⟨rfl, rfl, rfl, rfl, rfl, ⟨rfl, rfl⟩, trivial⟩, ⟨rfl, rfl, rfl, rfl, rfl, rfl, rfl, rfl, ⟨rfl, rfl⟩, trivial⟩, rfl, trivial⟩ | exact call_e 3 hy (by unfold callP; rw [if_neg (by omega), if_pos (by omega)]) ⟨⟨rfl, rfl, rfl, rfl, rfl, ⟨rfl, rfl⟩, trivial⟩, ⟨rfl, rfl, rfl, rfl, rfl, rfl, rfl, rfl, ⟨rfl, rfl⟩, trivial⟩, rfl, trivial⟩ | exact call_e 14 hy (by unfold callP; rw [if_neg (by omega), if_neg (by omega), if_pos (by omega)]) ⟨⟨rfl, rfl, rfl, rfl, rfl, ⟨rfl, rfl⟩, trivial⟩, ⟨rfl, rfl, rfl, rfl, rfl, rfl, rfl, rfl, ⟨rfl, rfl⟩, trivial⟩, rfl, trivial⟩
                · have h11 := of_decide_eq_false h11
                  refine a_draw hT [11] false [(0, false), (1, false), (2, false), (3, false), (4, false), (5, false), (7, false), (8, false), (6, true), (9, false), (10, true), (11, true)] rfl rfl (by kernel_rfl) (by kernel_rfl) rfl ?_
                  refine a_call hT rfl rfl rfl (by kernel_rfl) (cloneF (by first | assumption | rfl | decide | omega | (dsimp only; omega))) [] [] rfl rfl ?_
                  rintro _ _ ⟨rfl, rfl⟩
                  refine a_build hT hZ [.v (Value.int IntKind.u64 (IntKind.wrap IntKind.u64 (CS.last C + 1))) 0, .v (kI meth) 0, .d (A.bytesD arg), .v (kI dl) 0, .v (Value.int IntKind.i64 0) 0, .v (kI now) 0] rfl rfl rfl rfl rfl rfl ?_
                  refine a_box hT 40 rfl rfl rfl rfl fun g3 => ?_
                  refine a_draw hT [11] true [(0, false), (1, false), (2, false), (3, false), (4, false), (5, false), (6, false), (7, false), (8, false), (9, true)] rfl rfl (by kernel_rfl) (by kernel_rfl) rfl ?_
                  refine a_mputG hT (kv := kU) (va := bV40) _ _ _ rfl rfl rfl mtK kU_ok rfl rfl rfl rfl rfl rfl ?_
                  refine a_draw hT [11] true [(0, false), (1, false), (2, false), (3, false), (4, false), (5, false), (6, false), (7, false), (8, false), (9, true), (10, true)] rfl rfl (by kernel_rfl) (by kernel_rfl) rfl ?_
                  refine a_callZ hT rfl rfl rfl (by kernel_rfl) (cwake_spec (x := ⟨IntKind.u64.wrap (C.last + 1), meth, arg, dl, 0, now⟩) (by first | assumption | rfl | decide | omega | (dsimp only; omega)) (by first | assumption | rfl | decide | omega | (dsimp only; omega))) [40] [] [] rfl rfl rfl ⟨rfl, trivial⟩ trivial (by rintro _ _ ⟨rfl, rfl⟩; exact ⟨inferInstance, inferInstance⟩) ?_
                  rintro _ _ ⟨rfl, rfl⟩
                  refine a_call hT rfl rfl rfl (by kernel_rfl) (tset_spec hC.dn (show (due C.calls).length < 999999 by unfold due; rw [List.length_map]; have := hC.len1 hl1; omega)) [13] [13] rfl rfl ?_
                  rintro _ _ ⟨S', rfl, rfl⟩
                  rw [hw1]
                  refine a_ent [11] [11] [cmapC y.gm (y.L ++ [(g3, newC C meth arg dl now)])] rfl rfl (by rw [hput]; exact Ent.refl _) ?_
                  refine a_draw hT [11, 20, 21] false [(0, false), (1, false), (2, false), (3, false), (4, false), (5, false), (6, false), (7, false), (8, false), (9, false), (12, false), (13, false), (10, true), (11, false), (14, true), (15, true), (16, true), (17, true)] rfl rfl (by kernel_rfl) (by kernel_rfl) rfl ?_
                  refine a_call hT rfl rfl rfl (by kernel_rfl) (cloneF (by first | assumption | rfl | decide | omega | (dsimp only; omega))) [] [] rfl rfl ?_
                  rintro _ _ ⟨rfl, rfl⟩
                  refine a_build hT hZ [.v (Value.int IntKind.i64 1) 0, .v (kI (CS.num C)) 0, .v (Value.int IntKind.u64 (CS.last C + 1)) 0, .v (kI meth) 0, .v (Value.int IntKind.i64 0) 0, .d (A.bytesD arg)] rfl rfl rfl rfl rfl rfl ?_
                  refine a_callZ hT rfl rfl rfl (by kernel_rfl) (cframe_spec (last := C.last + 1) (x := newC C meth arg dl now) (L := y.L ++ [(g3, newC C meth arg dl now)]) hn0 (pw_new hC hy h0) (le_new hy h0) (by omega) (by omega) ha) [10, 40] [11] [11, 1] rfl rfl rfl ⟨rfl, rfl, trivial⟩ ⟨⟨rfl, rfl⟩, trivial⟩ (by rintro _ _ ⟨v, rfl, rfl⟩; exact ⟨inferInstance, inferInstance⟩) ?_
                  rintro _ _ ⟨v, rfl, rfl⟩
                  refine a_run hT 5 rfl rfl ?_
                  refine a_freezeB 21 8 1 rfl rfl rfl rfl rfl ?_
                  refine a_ret hT [10, 11, 40, 14, 13] rfl rfl rfl rfl rfl rfl ?_
                  exact call_n hC hy h0 (by unfold callP; rw [if_neg (by omega), if_neg (by omega), if_neg (by omega)]; rfl)
end Go.Proofs.Ytepjnmocepkfjaa
end

section
/- Layer 23's client: slices.Contains of numbers; New, Cancel, Take, Wake. -/
set_option linter.unusedVariables false
set_option linter.unusedSimpArgs false
set_option maxRecDepth 100000
namespace Go.Proofs.Ytepjnmocepkfjaa
open V A
def intsD (l : List Int) : A.Dat := .sl 1 (l.map fun n => [.v (kI n)])
theorem index_spec {l : List Int} {v : Int} {h : Nat} (hl : l.length < 1000000) : FSpec Try.prog 60 [.d (intsD l), .v (kI v) h] [] fun a cs => (∃ i : Int, a = .v (kI i) 0 ∧ (0 ≤ i ↔ v ∈ l)) ∧ cs = [] := by
  have hL : ((l.map fun n => [A.Dat.v (kI n)]).length : Int) = l.length := by rw [List.length_map]
  refine a_enter hT [.d (intsD l), .v (kI v) 0] [] Try.func60 rfl rfl rfl ⟨rfl, rfl, trivial⟩ fun c => ?_
  refine a_loop hT [0, 1, 7, 8] (fun i : Nat => [.d (intsD l), .v (kI v) 0, .v (kI l.length) 0, .v (kI i) 0]) (fun _ => []) (fun i => i ≤ l.length ∧ v ∉ l.take i) (fun i => l.length - i) 0 [] rfl rfl ⟨by omega, by simp⟩ ⟨rfl, rfl, by rw [hL]; rfl, rfl, trivial⟩ rfl trivial ?_
  rintro i ⟨hi, hv⟩
  have hw : IntKind.i64.wrap ((i : Int) + 1) = (i : Int) + 1 := w64 (by omega) (by omega)
  refine a_if hT rfl rfl (fun h1 => ?_) (fun h1 => ?_)
  · have h1 := of_decide_eq_true h1
    have hi' : i < l.length := by omega
    have hd : (l.map fun n => [A.Dat.v (kI n)])[(i : Int).toNat]? = some [A.Dat.v (kI l[i])] := by rw [Int.toNat_natCast, List.getElem?_map, List.getElem?_eq_getElem hi']; rfl
    refine a_ix hT _ rfl rfl rfl rfl rfl rfl (by omega) hd ?_
    refine a_if hT rfl rfl (fun h2 => ?_) (fun h2 => ?_)
    · have h2 := eq_of_beq h2
      refine a_ret hT [] rfl rfl rfl rfl rfl rfl ?_
      exact ⟨⟨i, rfl, ⟨fun _ => by rw [h2]; exact List.getElem_mem hi', fun _ => by omega⟩⟩, rfl⟩
    · have h2 := ne_of_beq_false h2
      refine a_next hT (i + 1) [] rfl rfl ⟨⟨by omega, ?_⟩, by omega⟩ ⟨rfl, rfl, rfl, by rw [hw]; rfl, trivial⟩ rfl trivial
      rw [List.take_add_one, List.getElem?_eq_getElem hi']
      simp only [List.mem_append, not_or]
      exact ⟨hv, by simpa using h2⟩
  · have h1 := of_decide_eq_false h1
    refine a_ret hT [] rfl rfl rfl rfl rfl rfl ?_
    refine ⟨⟨-1, rfl, ⟨fun h => by omega, fun h => ?_⟩⟩, rfl⟩
    rw [List.take_of_length_le (by omega)] at hv
    exact absurd h hv
theorem contains_spec {l : List Int} {v : Int} {h : Nat} (hl : l.length < 1000000) : FSpec Try.prog 40 [.d (intsD l), .v (kI v) h] [] fun a cs => a = bA (decide (v ∈ l)) ∧ cs = [] := by
  refine a_enter hT [.d (intsD l), .v (kI v) 0] [] Try.func40 rfl rfl rfl ⟨rfl, rfl, trivial⟩ fun c => ?_
  refine a_call hT rfl rfl rfl (by kernel_rfl) (index_spec hl) [] [] rfl rfl ?_
  rintro _ _ ⟨⟨i, rfl, hr⟩, rfl⟩
  refine a_ret hT [] rfl rfl rfl rfl rfl rfl ?_
  refine ⟨?_, rfl⟩
  show AV.v (.bool (decide (i ≥ 0))) 0 = bA (decide (v ∈ l))
  rw [show decide (i ≥ 0) = decide (v ∈ l) from decide_eq_decide.2 hr]; rfl
theorem cnew_spec {num : Int} {h : Nat} (h1 : 1 ≤ num) (h2 : num ≤ 2147483647) : FSpec Try.prog 10 [.v (kI num) h] [] fun a cs => ∃ g, a = ptrA g 10 ∧ cs = [.ext (cliA g ⟨num, 0, []⟩)] := by
  refine FSpec.weak (R := fun a cs => ∃ g y h, a = ptrA g h ∧ Ent cs (CX.cs g ⟨num, 0, []⟩ y) ∧ y.L.map (·.2) = []) ?_ fun a cs ⟨g, y, h, h1, h2, h3⟩ => ⟨ptrA g 10, [.ext (cliA g ⟨num, 0, []⟩)], [], by rw [h1]; exact rfl, h2.trans (cl_pack (C := ⟨num, 0, []⟩) h3), g, rfl, rfl⟩
  refine a_enter hT [.v (kI num) 0] [] Try.func10 rfl rfl rfl ⟨rfl, trivial⟩ fun c => ?_
  refine a_g hT rfl rfl rfl (fun h3 => ?_) (fun h3 => ?_)
  · have h3 := of_decide_eq_true h3
    (exfalso; first | omega | contradiction)
  · have h3 := of_decide_eq_false h3
    refine a_if hT rfl rfl (fun h4 => ?_) (fun h4 => ?_)
    · have h4 := of_decide_eq_true h4
      (exfalso; first | omega | contradiction)
    · have h4 := of_decide_eq_false h4
      refine a_mkmap hT 20 rfl rfl rfl fun r => ?_
      refine a_call hT rfl rfl rfl (by kernel_rfl) tnew_spec [] [21] rfl rfl ?_
      rintro _ _ ⟨g, rfl, rfl⟩
      refine a_build hT hZ [.v (kI num) 0, .v (Value.int IntKind.u64 0) 0, .v (Value.map (some r)) 20, .v (Value.pointer (some { block := g, off := 0 })) 10] rfl rfl rfl rfl rfl rfl ?_
      refine a_box hT 22 rfl rfl rfl rfl fun g1 => ?_
      refine a_ret hT [22, 20, 21] rfl rfl rfl rfl rfl rfl ?_
      refine ⟨g1, ⟨r, g, []⟩, _, rfl, (Ent.fits (a := [.blk g1 _ [.v (kI num) 0, .v (kU 0) 0, .v (.map (some r)) 20, ptrA g 10], .map r [], .ext (tmA g [])]) (b := [cliBlk g1 num 0 r g, cmapC r [], .ext (tmA g [])]) ⟨⟨rfl, rfl, ⟨rfl, rfl, rfl, rfl, trivial⟩⟩, ⟨rfl, rfl⟩, rfl, trivial⟩).trans ?_, rfl⟩
      exact Ent.cons _ (Ent.cons _ (Ent.app (ent_shut []) (Ent.refl _)))
theorem cnew_nil {num : Int} {h : Nat} (h1 : num < 1 ∨ num > 2147483647) : FSpec Try.prog 10 [.v (kI num) h] [] fun a cs => a = .v (.pointer none) 0 ∧ cs = [] := by
  refine a_enter hT [.v (kI num) 0] [] Try.func10 rfl rfl rfl ⟨rfl, trivial⟩ fun c => ?_
  refine a_g hT rfl rfl rfl (fun h2 => ?_) (fun h2 => ?_)
  · have h2 := of_decide_eq_true h2
    refine a_t hT rfl rfl rfl ?_
    refine a_ret hT [] rfl rfl rfl rfl rfl rfl ?_
    first | exact ⟨rfl, rfl⟩ | rfl
  · have h2 := of_decide_eq_false h2
    refine a_if hT rfl rfl (fun h3 => ?_) (fun h3 => ?_)
    · have h3 := of_decide_eq_true h3
      refine a_ret hT [] rfl rfl rfl rfl rfl rfl ?_
      first | exact ⟨rfl, rfl⟩ | rfl
    · have h3 := of_decide_eq_false h3
      (exfalso; first | omega | contradiction)
theorem cwakeT_spec {g h : Nat} {C : CS} (hC : C.ok) : FSpec Try.prog 24 [ptrA g h] [.ext (cliA g C)] fun a cs => ∃ C', (((C.calls = [] ∧ a = .tup [.v (kI 0) 0, .v (.bool false) 0]) ∨ ∃ p, IsMin (due C.calls) p ∧ a = .tup [.v (kI p.2) 0, .v (.bool true) 0]) ∧ C' = C) ∧ cs = [.ext (cliA g C')] := by
  have hn0 := hC.n0
  refine cl_spec (R := fun a C' => ((C.calls = [] ∧ a = .tup [.v (kI 0) 0, .v (.bool false) 0]) ∨ ∃ p, IsMin (due C.calls) p ∧ a = .tup [.v (kI p.2) 0, .v (.bool true) 0]) ∧ C' = C) fun y hy => ?_
  refine a_enter hT [ptrA g 10] [10, 11, 14, 13] Try.func24 rfl rfl rfl ⟨rfl, trivial⟩ fun c => ?_
  refine a_callZ hT rfl rfl rfl (by kernel_rfl) none_spec [10] [] [] rfl rfl rfl ⟨rfl, trivial⟩ trivial (by rintro _ _ ⟨rfl, rfl⟩; exact ⟨inferInstance, inferInstance⟩) ?_
  rintro _ _ ⟨rfl, rfl⟩
  refine a_if hT rfl rfl (fun h1 => ?_) (fun h1 => ?_)
  · have h1 := eq_of_beq h1
    (exfalso; first | omega | contradiction)
  · have h1 := ne_of_beq_false h1
    refine a_call hT rfl rfl rfl (by kernel_rfl) tfirst_spec [13] [13] rfl rfl ?_
    rintro _ _ ⟨S', ⟨⟨(⟨hr, rfl⟩ | ⟨p, hr1, rfl⟩), rfl⟩, rfl⟩⟩
    · refine a_ret hT [10, 11, 14, 13] rfl rfl rfl rfl rfl rfl ?_
      exact ⟨_, CX.cs g C y, C, Fit.refl _, Ent.refl _, cl_pack hy, .inl ⟨by unfold due at hr; simpa using hr, rfl⟩, rfl⟩
    · refine a_ret hT [10, 11, 14, 13] rfl rfl rfl rfl rfl rfl ?_
      exact ⟨_, CX.cs g C y, C, Fit.refl _, Ent.refl _, cl_pack hy, .inr ⟨p, hr1, rfl⟩, rfl⟩
end Go.Proofs.Ytepjnmocepkfjaa
end
