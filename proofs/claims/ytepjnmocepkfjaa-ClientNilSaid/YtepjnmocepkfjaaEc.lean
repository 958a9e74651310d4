/- Heaps, plain. -/
import Derived.Test.YtepjnmocepkfjaaEa
set_option linter.unusedVariables false
set_option linter.unusedSimpArgs false
namespace Go.Proofs.Ytepjnmocepkfjaa
open V A
def L (x y : QE) : Prop := x.due < y.due ∨ (x.due = y.due ∧ x.key < y.key)
theorem ltE_iff (x y : QE) : ltE x y = true ↔ L x y := by
  unfold ltE L
  split
  · rw [decide_eq_true_iff]; omega
  · rw [decide_eq_true_iff]; omega
theorem ltE_not (x y : QE) : ltE x y = false ↔ ¬ L x y := by
  rw [← ltE_iff]; simp
def par (k : Nat) : Nat := (k - 1) / 2
theorem par_lt {k : Nat} (h : 0 < k) : par k < k := by unfold par; omega
theorem get_swap {q : List QE} {i j : Nat} {a b : QE} (hi : i < q.length) (hj : j < q.length) (k : Nat) : (swapQ q i j a b)[k]? = if k = j then some a else if k = i then some b else q[k]? := by
  unfold swapQ
  rw [List.getElem?_set, List.getElem?_set]
  simp only [List.length_set]
  by_cases h1 : k = j
  · subst h1; simp [hj]
  · rw [if_neg (fun e => h1 e.symm), if_neg h1]
    by_cases h2 : k = i
    · subst h2; simp [hi]
    · rw [if_neg (fun e => h2 e.symm), if_neg h2]
theorem swap_len (q : List QE) (i j : Nat) (a b : QE) : (swapQ q i j a b).length = q.length := by unfold swapQ; simp
theorem swap_perm {q : List QE} {i j : Nat} {a b : QE} (hne : i ≠ j) (ha : q[i]? = some a) (hb : q[j]? = some b) : (swapQ q i j a b).Perm q := by
  have hi := (List.getElem?_eq_some_iff.1 ha).1
  have hj := (List.getElem?_eq_some_iff.1 hb).1
  obtain ⟨r, hr⟩ := perm_two q i j hi hj hne
  have h1 := hr a b
  rw [set_two_same ha hb] at h1
  exact ((hr b a).trans (List.Perm.swap a b r)).trans h1.symm
def Heap (n : Nat) (q : List QE) : Prop := ∀ k a b, 0 < k → k < n → q[k]? = some a → q[par k]? = some b → ¬ L a b
structure UpI (n : Nat) (q : List QE) (j : Nat) : Prop where
  h : ∀ k a b, 0 < k → k < n → k ≠ j → q[k]? = some a → q[par k]? = some b → ¬ L a b
  c : ∀ k a b, 0 < j → 0 < k → k < n → par k = j → q[k]? = some a → q[par j]? = some b → ¬ L a b
structure DnI (n : Nat) (q : List QE) (i i0 : Nat) : Prop where
  h : ∀ k a b, 0 < k → k < n → par k ≠ i → (k ≠ i ∨ i ≠ i0) → q[k]? = some a → q[par k]? = some b → ¬ L a b
  c : ∀ k a b, 0 < i → 0 < k → k < n → par k = i → q[k]? = some a → q[par i]? = some b → ¬ L a b
theorem L.asym {a b : QE} (h : L a b) : ¬ L b a := by unfold L at h ⊢; omega
theorem up_step {n : Nat} {q : List QE} {j : Nat} {a b : QE} (hn : n ≤ q.length) (hu : UpI n q j) (h0 : 0 < j) (hj : j < n) (ha : q[par j]? = some a) (hb : q[j]? = some b) (hl : L b a) : UpI n (swapQ q (par j) j a b) (par j) := by
  have hp := par_lt h0
  have gs := fun k => get_swap (q := q) (i := par j) (j := j) (a := a) (b := b) (by omega) (by omega) k
  refine ⟨fun k x y hk hkn hne hx hy => ?_, fun k x y hj0 hk hkn hpk hx hy => ?_⟩
  · rw [gs] at hx hy
    by_cases h1 : k = j
    · subst h1
      rw [if_pos rfl] at hx
      rw [if_neg (by omega), if_pos rfl] at hy
      cases hx; cases hy
      exact hl.asym
    · rw [if_neg h1, if_neg hne] at hx
      by_cases h2 : par k = j
      · rw [if_pos h2] at hy
        cases hy
        exact hu.c k x a h0 hk hkn h2 hx ha
      · rw [if_neg h2] at hy
        by_cases h3 : par k = par j
        · rw [if_pos h3] at hy
          cases hy
          have := hu.h k x a hk hkn h1 hx (by rw [h3]; exact ha)
          unfold L at this hl ⊢
          omega
        · rw [if_neg h3] at hy
          exact hu.h k x y hk hkn h1 hx hy
  · have hpp := par_lt hj0
    rw [gs] at hx hy
    rw [if_neg (by omega), if_neg (by omega)] at hy
    have hq := hu.h (par j) a y hj0 (by omega) (by omega) ha hy
    by_cases h1 : k = j
    · subst h1
      rw [if_pos rfl] at hx
      cases hx
      exact hq
    · have := par_lt hk
      rw [if_neg h1, if_neg (by omega)] at hx
      have := hu.h k x a hk hkn h1 hx (by rw [hpk]; exact ha)
      unfold L at this hq ⊢
      omega
theorem up_end {n : Nat} {q : List QE} {j : Nat} (hu : UpI n q j) (h : ∀ a b, 0 < j → q[j]? = some a → q[par j]? = some b → ¬ L a b) : Heap n q := fun k a b hk hkn ha hb => by
  by_cases h1 : k = j
  · subst h1; exact h a b hk ha hb
  · exact hu.h k a b hk hkn h1 ha hb
theorem dn_step {n : Nat} {q : List QE} {i i0 j : Nat} {a b : QE} (hn : n ≤ q.length) (hd : DnI n q i i0) (h0 : i0 ≤ i) (hj0 : 0 < j) (hj : j < n) (hp : par j = i) (hmin : ∀ k x, 0 < k → k < n → par k = i → q[k]? = some x → ¬ L x b) (ha : q[i]? = some a) (hb : q[j]? = some b) (hl : L b a) : DnI n (swapQ q i j a b) j i0 := by
  have hij := par_lt hj0
  rw [hp] at hij
  have gs := fun k => get_swap (q := q) (i := i) (j := j) (a := a) (b := b) (by omega) (by omega) k
  refine ⟨fun k x y hk hkn hpk _ hx hy => ?_, fun k x y _ hk hkn hpk hx hy => ?_⟩
  · rw [gs] at hx hy
    have hpl := par_lt hk
    rw [if_neg hpk] at hy
    by_cases h1 : k = j
    · subst h1
      rw [if_pos rfl] at hx
      rw [if_pos hp] at hy
      cases hx; cases hy
      exact hl.asym
    · rw [if_neg h1] at hx
      by_cases h2 : k = i
      · subst h2
        rw [if_pos rfl] at hx
        rw [if_neg (by omega)] at hy
        cases hx
        exact hd.c j b y hk hj0 hj hp hb hy
      · rw [if_neg h2] at hx
        by_cases h3 : par k = i
        · rw [if_pos h3] at hy
          cases hy
          exact hmin k x hk hkn h3 hx
        · rw [if_neg h3] at hy
          exact hd.h k x y hk hkn h3 (.inl h2) hx hy
  · have hpl := par_lt hk
    rw [gs] at hx hy
    rw [hp, if_neg (by omega), if_pos rfl] at hy
    rw [if_neg (by omega), if_neg (by omega)] at hx
    cases hy
    exact hd.h k x b hk hkn (by omega) (.inl (by omega)) hx (by rw [hpk]; exact hb)
theorem dn_end {n : Nat} {q : List QE} {i i0 : Nat} (hd : DnI n q i i0) (h : ∀ k x y, 0 < k → k < n → par k = i → q[k]? = some x → q[i]? = some y → ¬ L x y) : (i ≠ i0 → Heap n q) ∧ (i = i0 → UpI n q i0) := by
  refine ⟨fun hne k a b hk hkn ha hb => ?_, fun e => ?_⟩
  · by_cases h1 : par k = i
    · exact h k a b hk hkn h1 ha (by rw [← h1]; exact hb)
    · exact hd.h k a b hk hkn h1 (.inr hne) ha hb
  · subst e
    refine ⟨fun k a b hk hkn hne ha hb => ?_, hd.c⟩
    by_cases h1 : par k = i
    · exact h k a b hk hkn h1 ha (by rw [← h1]; exact hb)
    · exact hd.h k a b hk hkn h1 (.inl hne) ha hb
/-- The first one is the least. -/
theorem heap_min {n : Nat} {q : List QE} (hn : n ≤ q.length) (h : Heap n q) {m : QE} (hm : q[0]? = some m) : ∀ k a, k < n → q[k]? = some a → ¬ L a m := by
  intro k
  induction k using Nat.strongRecOn with
  | _ k ih =>
    intro a hk ha
    rcases Nat.eq_zero_or_pos k with e | h0
    · subst e
      rw [hm] at ha
      cases ha
      unfold L
      omega
    · have hp := par_lt h0
      have hb : q[par k]? = some q[par k] := List.getElem?_eq_getElem (by omega)
      have h1 := h k a _ h0 hk ha hb
      have h2 := ih (par k) hp _ (by omega) hb
      unfold L at h1 h2 ⊢
      omega
end Go.Proofs.Ytepjnmocepkfjaa
