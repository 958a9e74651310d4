/- Lists by keys, plain; keys that are numbers. -/
import Derived.Test.YtepjnmocepkfjaaTd
import Derived.Test.YtepjnmocepkfjaaU
set_option linter.unusedVariables false
set_option linter.unusedSimpArgs false
namespace Go.Proofs.Ytepjnmocepkfjaa
open V A
def kU (n : Int) : Value := .int .u64 n
def kI (n : Int) : Value := .int .i64 n
theorem kU_ok : KeyOk Try.prog 25 kU := key_int (by kernel_rfl)
theorem kI_ok : KeyOk Try.prog 3 kI := key_int (by kernel_rfl)
def ptrA (g h : Nat) : AV := .v (.pointer (some ⟨g, 0, none⟩)) h

theorem filter_erase {α : Type} {p : α → Bool} : ∀ {l : List α} {i : Nat} {x : α}, l[i]? = some x → p x = false → (l.eraseIdx i).filter p = l.filter p
  | [], i, x, h, hp => by simp at h
  | y :: l, 0, x, h, hp => by simp at h; subst h; simp [hp]
  | y :: l, i + 1, x, h, hp => by
    have := filter_erase (l := l) (i := i) (by simpa using h) hp
    simp only [List.eraseIdx_cons_succ, List.filter_cons, this]
theorem map_set_same {α β : Type} (g : α → β) {l : List α} {i : Nat} {x y : α} (h : l[i]? = some x) (e : g y = g x) : (l.set i y).map g = l.map g := by
  rw [List.map_set, e]
  apply List.ext_getElem?
  intro j
  rw [List.getElem?_set]
  split
  · rename_i hij; subst hij; have := (List.getElem?_eq_some_iff.1 h).1; rw [List.length_map, if_pos this, List.getElem?_map, h]; rfl
  · rfl
theorem aget_split {β : Type} : ∀ {l : List (Int × β)} {k : Int} {v : β}, aget l k = some v → ∃ a b, l = a ++ (k, v) :: b ∧ ∀ p ∈ a, p.1 ≠ k
  | [], k, v, h => by simp [aget] at h
  | (j, u) :: l, k, v, h => by
    unfold aget at h
    split at h
    · rename_i e
      subst e
      cases h
      exact ⟨[], l, rfl, by simp⟩
    · rename_i e
      obtain ⟨a, b, rfl, hn⟩ := aget_split h
      exact ⟨(j, u) :: a, b, rfl, fun p hp => by rcases List.mem_cons.1 hp with rfl | hp; exact e; exact hn p hp⟩
theorem aput_mid {β : Type} {k : Int} {u v : β} : ∀ {a b : List (Int × β)}, (∀ p ∈ a, p.1 ≠ k) → aput (a ++ (k, u) :: b) k v = a ++ (k, v) :: b
  | [], b, h => by simp [aput]
  | p :: a, b, h => by
    have h1 := h p (by simp)
    rw [List.cons_append, aput, if_neg h1, aput_mid fun q hq => h q (by simp [hq])]
    rfl
theorem aput_new {β : Type} {k : Int} {v : β} : ∀ {a : List (Int × β)}, aget a k = none → aput a k v = a ++ [(k, v)]
  | [], h => rfl
  | (j, u) :: a, h => by
    unfold aget at h
    split at h
    · cases h
    · rename_i e
      rw [aput, if_neg e, aput_new h]
      rfl
theorem aget_mem {β : Type} {l : List (Int × β)} {k : Int} {v : β} (h : aget l k = some v) : (k, v) ∈ l := by
  obtain ⟨a, b, rfl, _⟩ := aget_split h
  simp
theorem aget_nomem {β : Type} : ∀ {l : List (Int × β)} {k : Int}, aget l k = none → k ∉ l.map (·.1)
  | [], k, h => by simp
  | (j, u) :: l, k, h => by
    unfold aget at h
    split at h
    · cases h
    · rename_i e
      rw [List.map_cons, List.mem_cons, not_or]
      exact ⟨fun h => e h.symm, aget_nomem h⟩
theorem mem_aput {β : Type} : ∀ {l : List (Int × β)} {k : Int} {v : β} {p : Int × β}, p ∈ aput l k v → p = (k, v) ∨ p ∈ l
  | [], k, v, p, h => by simp [aput] at h; exact .inl h
  | (j, u) :: l, k, v, p, h => by
    unfold aput at h
    split at h
    · rename_i e
      subst e
      rcases List.mem_cons.1 h with h | h
      · exact .inl h
      · exact .inr (List.mem_cons_of_mem _ h)
    · rcases List.mem_cons.1 h with h | h
      · exact .inr (by rw [h]; simp)
      · exact (mem_aput h).imp id (List.mem_cons_of_mem _)
theorem nodup_aput {β : Type} {l : List (Int × β)} {k : Int} {v : β} (h : (l.map (·.1)).Nodup) : ((aput l k v).map (·.1)).Nodup := by
  cases hg : aget l k with
  | some u =>
    obtain ⟨a, b, rfl, hn⟩ := aget_split hg
    rw [aput_mid hn]
    simpa using h
  | none =>
    rw [aput_new hg, List.map_append, List.nodup_append]
    refine ⟨h, by simp, fun x hx y hy => ?_⟩
    simp at hy
    subst hy
    exact fun e => aget_nomem hg (e ▸ hx)
theorem aput_len_new {β : Type} {l : List (Int × β)} {k : Int} {v : β} (h : aget l k = none) : (aput l k v).length = l.length + 1 := by rw [aput_new h]; simp
theorem aget_aput {β : Type} : ∀ {l : List (Int × β)} {k j : Int} {v : β}, aget (aput l k v) j = if k = j then some v else aget l j
  | [], k, j, v => by simp [aput, aget]
  | (i, u) :: l, k, j, v => by
    unfold aput
    by_cases h : i = k
    · subst h
      rw [if_pos rfl]
      by_cases hj : i = j
      · simp [aget, hj]
      · simp [aget, hj]
    · rw [if_neg h]
      by_cases hj : i = j
      · subst hj
        have : ¬ k = i := fun e => h e.symm
        simp [aget, this]
      · simp only [aget, hj, if_false]
        rw [aget_aput]
theorem aget_filter {β : Type} {p : Int × β → Bool} : ∀ {l : List (Int × β)} {t : Int} {e : β}, aget l t = some e → p (t, e) = true → aget (l.filter p) t = some e
  | [], t, e, h, hp => by simp [aget] at h
  | (i, u) :: l, t, e, h, hp => by
    unfold aget at h
    split at h
    · rename_i hi
      subst hi
      cases h
      rw [List.filter_cons, if_pos hp, aget, if_pos rfl]
    · rename_i hi
      rw [List.filter_cons]
      split
      · rw [aget, if_neg hi]; exact aget_filter h hp
      · exact aget_filter h hp
theorem aput_len_same {β : Type} {l : List (Int × β)} {k : Int} {u v : β} (h : aget l k = some u) : (aput l k v).length = l.length := by
  obtain ⟨a, b, rfl, hn⟩ := aget_split h
  rw [aput_mid hn]
  simp

end Go.Proofs.Ytepjnmocepkfjaa
