/- container/heap's Push, Pop, Fix and Remove on layer 17's queue. -/
import Derived.Test.YtepjnmocepkfjaaEd
set_option linter.unusedVariables false
set_option linter.unusedSimpArgs false
namespace Go.Proofs.Ytepjnmocepkfjaa
open V A
theorem entsL_snoc (q : List QE) (e : QE) : entsL (q ++ [e]) = entsL q ++ [entC q.length e] := by
  unfold entsL
  rw [List.mapIdx_append]
  simp
theorem ents_snoc (q : List QE) (e : QE) : Ent [entsC q, entC q.length e] [entsC (q ++ [e])] := by
  unfold entsC
  rw [entsL_snoc]
  exact ((Ent.app (ent_open (entsL q)) (Ent.refl [entC q.length e]))).trans (ent_shut _)
theorem ents_unsnoc (q : List QE) (e : QE) : Ent [entsC (q ++ [e])] [entsC q, entC q.length e] := by
  unfold entsC
  rw [entsL_snoc]
  exact (ent_open _).trans (Ent.app (ent_shut (entsL q)) (Ent.refl [entC q.length e]))
theorem get_snoc {q : List QE} {e : QE} {k : Nat} (h : k < q.length) : (q ++ [e])[k]? = q[k]? := List.getElem?_append_left h
theorem up_of_snoc {q : List QE} {e : QE} (h : Heap q.length q) : UpI (q.length + 1) (q ++ [e]) q.length := by
  refine ⟨fun k a b hk hkn hne ha hb => ?_, fun k a b h0 hk hkn hpk => ?_⟩
  · have := par_lt hk
    rw [get_snoc (by omega)] at ha hb
    exact h k a b hk (by omega) ha hb
  · have := par_lt hk
    omega
theorem heap_push {g h2 : Nat} {v x : Value} {mo : Option Nat} {q : List QE} {e : QE} (hq : q.length < 999999) (hh : Heap q.length q) : FSpec Try.prog 51 [hI g, .ifc 99 (.v (ptrB e.b) h2)] [tmBlk g v mo, rowP v q, entsC q, entX e x]
    fun _ cs => ∃ v' q', q'.Perm (q ++ [e]) ∧ Heap q'.length q' ∧ cs = qC g v' mo q' := by
  refine a_enter hT [hI g, .ifc 99 (.v (ptrB e.b) 12)] [10, 30, 32, 12] Try.func51 rfl rfl rfl ⟨⟨rfl, rfl⟩, ⟨rfl, rfl⟩, trivial⟩ fun c => ?_
  refine a_invP hT rfl rfl rfl rfl iPush (by kernel_rfl) (qpush_spec (h := 10) (h2 := 12) (g := g) (v := v) (mo := mo) (q := q) (e := e) (x := x) (by omega)) [10, 30, 12] [10, 30, 12] ⟨rfl, ⟨rfl, rfl⟩, trivial⟩ rfl ⟨⟨rfl, rfl, rfl, rfl, trivial⟩, ⟨rfl, rfl, rfl, rfl⟩, ⟨rfl, rfl, rfl, rfl, rfl, trivial⟩, trivial⟩ ?_
  rintro _ _ ⟨v', rfl⟩
  refine a_ent [32, 12] [32] _ rfl rfl (ents_snoc q e) ?_
  refine a_invV hT (.row v' 30) rfl rfl rfl rfl iLen (by kernel_rfl) rfl rfl rfl (qlen_spec (h := 30) (v := v') (q := q ++ [e])) [30] [30] ⟨rfl, trivial⟩ rfl ⟨⟨rfl, rfl, rfl, rfl⟩, trivial⟩ ?_
  rintro _ _ ⟨rfl, rfl⟩
  have hw : IntKind.i64.wrap (((q ++ [e]).length : Int) - 1) = (q.length : Int) := by
    rw [List.length_append, wrap64 (by simp <;> omega) (by simp <;> omega)]
    simp
  refine a_callF hT rfl rfl rfl (by kernel_rfl) (up_spec (g := g) (h1 := 0) (v := v') (mo := mo) (q := q ++ [e]) (n := q.length + 1) (j := q.length) (by simp) (by simp <;> omega) (by omega) (up_of_snoc hh)) [10, 30, 32] [10, 30, 32] ⟨⟨rfl, rfl⟩, by show Value.int .i64 (IntKind.i64.wrap (((q ++ [e]).length : Int) - 1)) = .int .i64 (q.length : Int); rw [hw], trivial⟩ rfl ⟨⟨rfl, rfl, rfl, rfl, trivial⟩, ⟨rfl, rfl, rfl, rfl⟩, rfl, trivial⟩ ?_
  rintro _ _ ⟨q', hp, hh', _, rfl⟩
  refine a_end hT [10, 30, 32] rfl rfl rfl rfl rfl rfl ⟨v', q', hp, ?_, rfl⟩
  rw [hp.length_eq]
  simpa using hh'
theorem swap_any {v : Value} {h h1 h2 : Nat} {q : List QE} {i j : Nat} (hi : i < q.length) (hj : j < q.length) : FSpec Try.prog 106 [.row v h, .v (.int .i64 i) h1, .v (.int .i64 j) h2] [rowP v q, entsC q] fun _ cs => cs = [rowP v (swapQ q i j q[i] q[j]), entsC (swapQ q i j q[i] q[j])] := by
  by_cases hne : i = j
  · subst hne
    have e : swapQ q i i q[i] q[i] = q := by unfold swapQ; rw [set_same (List.getElem?_eq_getElem hi), set_same (List.getElem?_eq_getElem hi)]
    rw [e]
    exact swap_same hi
  · exact swap_spec hi hj hne
theorem perm_any {q : List QE} {i j : Nat} (hi : i < q.length) (hj : j < q.length) : (swapQ q i j q[i] q[j]).Perm q := by
  by_cases hne : i = j
  · subst hne
    have e : swapQ q i i q[i] q[i] = q := by unfold swapQ; rw [set_same (List.getElem?_eq_getElem hi), set_same (List.getElem?_eq_getElem hi)]
    rw [e]
  · exact swap_perm hne (List.getElem?_eq_getElem hi) (List.getElem?_eq_getElem hj)
/-- A heap of which one was turned. -/
theorem dn_of_heap {m n i : Nat} {q0 q1 : List QE} (hm : m ≤ q0.length) (h : Heap m q0) (hn : n ≤ m) (he : ∀ k, k < n → k ≠ i → q1[k]? = q0[k]?) : DnI n q1 i i := by
  refine ⟨fun k a b hk hkn hpk hne ha hb => ?_, fun k a b h0 hk hkn hpk ha hb => ?_⟩
  · have := par_lt hk
    rcases hne with hne | hne
    · rw [he k hkn hne] at ha
      rw [he (par k) (by omega) hpk] at hb
      exact h k a b hk (by omega) ha hb
    · exact absurd rfl hne
  · have h1 := par_lt hk
    have h2 := par_lt h0
    rw [he k hkn (by omega)] at ha
    rw [he (par i) (by omega) (by omega)] at hb
    have hx : q0[i]? = some q0[i] := List.getElem?_eq_getElem (by omega)
    have h3 := h k a _ hk (by omega) ha (by rw [hpk]; exact hx)
    have h4 := h i _ b h0 (by omega) hx hb
    unfold L at h3 h4 ⊢
    omega
theorem take_last {q : List QE} {n : Nat} {e : QE} (hl : q.length = n + 1) (h : q[n]? = some e) : q = q.take n ++ [e] := by
  have := List.take_append_drop n q
  rw [List.drop_eq_getElem_cons (by omega), List.drop_eq_nil_of_le (by omega)] at this
  rw [List.getElem?_eq_getElem (by omega)] at h
  cases h
  exact this.symm
theorem heap_take {n : Nat} {q : List QE} (h : Heap n q) (hl : n ≤ q.length) : Heap (q.take n).length (q.take n) := fun k a b hk hkn ha hb => by
  rw [List.length_take, Nat.min_eq_left hl] at hkn
  have := par_lt hk
  rw [List.getElem?_take_of_lt hkn] at ha
  rw [List.getElem?_take_of_lt (by omega)] at hb
  exact h k a b hk hkn ha hb
set_option maxRecDepth 100000 in
theorem heap_pop {g : Nat} {v : Value} {mo : Option Nat} {q : List QE} {n : Nat} {e : QE} (hl : q.length = n + 1) (hn : n < 999999) (hh : Heap q.length q) (he : q[0]? = some e) : FSpec Try.prog 54 [hI g] (qC g v mo q)
    fun a cs => ∃ v' q', (q' ++ [e]).Perm q ∧ Heap q'.length q' ∧ a = .ifc 99 (.d (.v (ptrB e.b))) ∧ cs = qC g v' mo q' ++ [entC q'.length e] := by
  have h0 : 0 < q.length := by omega
  have hnl : n < q.length := by omega
  refine FSpec.weak (R := fun a cs => ∃ v' q', (q' ++ [e]).Perm q ∧ Heap q'.length q' ∧ a = .ifc 99 (.d (.v (ptrB e.b))) ∧ Ent cs (qC g v' mo q' ++ [entC q'.length e])) ?_ fun a cs hR => ?_
  rotate_left
  · obtain ⟨v', q', h1, h2, h3, h4⟩ := hR
    exact ⟨a, qC g v' mo q' ++ [entC q'.length e], [], Fit.refl _, h4, v', q', h1, h2, h3, rfl⟩
  refine a_enter hT [hI g] [10, 30, 32] Try.func54 rfl rfl rfl ⟨⟨rfl, rfl⟩, trivial⟩ fun c => ?_
  refine a_invV hT (.row v 30) rfl rfl rfl rfl iLen (by kernel_rfl) rfl rfl rfl (qlen_spec (h := 30) (v := v) (q := q)) [30] [30] ⟨rfl, trivial⟩ rfl ⟨⟨rfl, rfl, rfl, rfl⟩, trivial⟩ ?_
  rintro _ _ ⟨rfl, rfl⟩
  have hw : IntKind.i64.wrap ((q.length : Int) - 1) = (n : Int) := by
    rw [wrap64 (by omega) (by omega)]
    omega
  refine a_invV hT (.row v 30) rfl rfl rfl rfl iSwap (by kernel_rfl) rfl rfl rfl (swap_any (h := 30) (h1 := 0) (h2 := 0) (v := v) (q := q) h0 hnl) [30, 32] [30, 32] ⟨rfl, rfl, by show Value.int .i64 (IntKind.i64.wrap ((q.length : Int) - 1)) = .int .i64 (n : Int); rw [hw], trivial⟩ rfl ⟨⟨rfl, rfl, rfl, rfl⟩, rfl, trivial⟩ ?_
  rintro _ _ rfl
  have he0 : q[0] = e := by rw [List.getElem?_eq_getElem h0] at he; cases he; rfl
  have hp1 := perm_any h0 hnl
  have gs := fun k => get_swap (q := q) (i := 0) (j := n) (a := q[0]) (b := q[n]) h0 hnl k
  have hl1 := swap_len q 0 n q[0] q[n]
  generalize swapQ q 0 n q[0] q[n] = q1 at hp1 gs hl1
  have hd : DnI n q1 0 0 := dn_of_heap (m := n + 1) (q0 := q) (by omega) (by rw [← hl]; exact hh) (by omega) fun k hk hne => by rw [gs, if_neg (by omega), if_neg hne]
  refine a_callF hT rfl rfl rfl (by kernel_rfl) (down_spec (g := g) (h1 := 0) (h2 := 0) (v := v) (mo := mo) (q := q1) (n := n) (i0 := 0) (by omega) (by omega) (by omega) hd) [10, 30, 32] [10, 30, 32] ⟨⟨rfl, rfl⟩, rfl, by show Value.int .i64 (IntKind.i64.wrap ((q.length : Int) - 1)) = .int .i64 (n : Int); rw [hw], trivial⟩ rfl ⟨⟨rfl, rfl, rfl, rfl, trivial⟩, ⟨rfl, rfl, rfl, rfl⟩, rfl, trivial⟩ ?_
  rintro a _ ⟨q2, hp2, hr2, hres, rfl⟩
  have hh2 : Heap n q2 := by
    rcases hres with ⟨_, h⟩ | ⟨_, h⟩
    · exact h
    · exact up_end h fun a b h => absurd h (by omega)
  have hl2 : q2.length = n + 1 := by rw [hp2.length_eq, hl1, hl]
  have hlast : q2[n]? = some e := by rw [hr2 n (Nat.le_refl _), gs, if_pos rfl, he0]
  have hq2 := take_last hl2 hlast
  generalize hq' : q2.take n = q' at hq2
  have hlq' : q'.length = n := by rw [← hq', List.length_take]; omega
  have hh' : Heap q'.length q' := by rw [← hq']; exact heap_take hh2 (by omega)
  subst hq2
  refine a_invP hT rfl rfl rfl rfl iPop (by kernel_rfl) (qpop_spec (h := 10) (g := g) (v := v) (mo := mo) (q := q') (e := e) (by omega)) [10, 30] [10, 30] ⟨rfl, trivial⟩ rfl ⟨⟨rfl, rfl, rfl, rfl, trivial⟩, ⟨rfl, rfl, rfl, rfl⟩, trivial⟩ ?_
  rintro _ _ ⟨v', rfl, rfl⟩
  refine a_ret hT [10, 30, 32] rfl rfl rfl rfl rfl rfl ⟨v', q', hp2.trans hp1, hh', rfl, Ent.cons _ (Ent.cons _ (ents_unsnoc q' e))⟩
end Go.Proofs.Ytepjnmocepkfjaa
