/- container/heap's Fix and Remove on layer 17's queue. -/
import Derived.Test.YtepjnmocepkfjaaEe
set_option linter.unusedVariables false
set_option linter.unusedSimpArgs false
namespace Go.Proofs.Ytepjnmocepkfjaa
open V A
set_option maxRecDepth 100000 in
theorem heap_fix {g h1 : Nat} {v : Value} {mo : Option Nat} {q : List QE} {i : Nat} (hl : q.length < 1000000) (hi : i < q.length) (hd : DnI q.length q i i) : FSpec Try.prog 50 [hI g, .v (.int .i64 i) h1] (qC g v mo q)
    fun _ cs => ∃ q', q'.Perm q ∧ Heap q'.length q' ∧ cs = qC g v mo q' := by
  refine a_enter hT [hI g, nA i] [10, 30, 32] Try.func50 rfl rfl rfl ⟨⟨rfl, rfl⟩, rfl, trivial⟩ fun c => ?_
  refine a_invV hT (.row v 30) rfl rfl rfl rfl iLen (by kernel_rfl) rfl rfl rfl (qlen_spec (h := 30) (v := v) (q := q)) [30] [30] ⟨rfl, trivial⟩ rfl ⟨⟨rfl, rfl, rfl, rfl⟩, trivial⟩ ?_
  rintro _ _ ⟨rfl, rfl⟩
  refine a_callF hT rfl rfl rfl (by kernel_rfl) (down_spec (g := g) (h1 := 0) (h2 := 0) (v := v) (mo := mo) (q := q) (n := q.length) (i0 := i) (Nat.le_refl _) hl (Nat.le_of_lt hi) hd) [10, 30, 32] [10, 30, 32] ⟨⟨rfl, rfl⟩, rfl, rfl, trivial⟩ rfl ⟨⟨rfl, rfl, rfl, rfl, trivial⟩, ⟨rfl, rfl, rfl, rfl⟩, rfl, trivial⟩ ?_
  rintro a _ ⟨q2, hp2, _, ⟨rfl, hh⟩ | ⟨rfl, hu⟩, rfl⟩
  · refine a_f hT rfl rfl rfl ?_
    exact a_end hT [10, 30, 32] rfl rfl rfl rfl rfl rfl ⟨q2, hp2, by rw [hp2.length_eq]; exact hh, rfl⟩
  · refine a_t hT rfl rfl rfl ?_
    have hl2 := hp2.length_eq
    refine a_callF hT rfl rfl rfl (by kernel_rfl) (up_spec (g := g) (h1 := 0) (v := v) (mo := mo) (q := q2) (n := q.length) (j := i) (by omega) (by omega) hi hu) [10, 30, 32] [10, 30, 32] ⟨⟨rfl, rfl⟩, rfl, trivial⟩ rfl ⟨⟨rfl, rfl, rfl, rfl, trivial⟩, ⟨rfl, rfl, rfl, rfl⟩, rfl, trivial⟩ ?_
    rintro _ _ ⟨q3, hp3, hh3, _, rfl⟩
    exact a_end hT [10, 30, 32] rfl rfl rfl rfl rfl rfl ⟨q3, hp3.trans hp2, by rw [hp3.length_eq, hl2]; exact hh3, rfl⟩
set_option maxRecDepth 100000 in
theorem heap_remove {g h1 : Nat} {v : Value} {mo : Option Nat} {q : List QE} {n i : Nat} {e : QE} (hl : q.length = n + 1) (hn : n < 999999) (hh : Heap q.length q) (he : q[i]? = some e) : FSpec Try.prog 67 [hI g, .v (.int .i64 i) h1] (qC g v mo q)
    fun a cs => ∃ v' q', (q' ++ [e]).Perm q ∧ Heap q'.length q' ∧ a = .ifc 99 (.d (.v (ptrB e.b))) ∧ cs = qC g v' mo q' ++ [entC q'.length e] := by
  have hil : i < q.length := (List.getElem?_eq_some_iff.1 he).1
  have hnl : n < q.length := by omega
  refine FSpec.weak (R := fun a cs => ∃ v' q', (q' ++ [e]).Perm q ∧ Heap q'.length q' ∧ a = .ifc 99 (.d (.v (ptrB e.b))) ∧ Ent cs (qC g v' mo q' ++ [entC q'.length e])) ?_ fun a cs hR => ?_
  rotate_left
  · obtain ⟨v', q', h1, h2, h3, h4⟩ := hR
    exact ⟨a, qC g v' mo q' ++ [entC q'.length e], [], Fit.refl _, h4, v', q', h1, h2, h3, rfl⟩
  refine a_enter hT [hI g, nA i] [10, 30, 32] Try.func67 rfl rfl rfl ⟨⟨rfl, rfl⟩, rfl, trivial⟩ fun c => ?_
  refine a_invV hT (.row v 30) rfl rfl rfl rfl iLen (by kernel_rfl) rfl rfl rfl (qlen_spec (h := 30) (v := v) (q := q)) [30] [30] ⟨rfl, trivial⟩ rfl ⟨⟨rfl, rfl, rfl, rfl⟩, trivial⟩ ?_
  rintro _ _ ⟨rfl, rfl⟩
  have hw : IntKind.i64.wrap ((q.length : Int) - 1) = (n : Int) := by
    rw [wrap64 (by omega) (by omega)]
    omega
  -- the part that is left
  refine a_cutM hT [0] (fun q2 : List QE => [hI g]) (fun q2 => qS g v mo q2) (fun q2 => q2.Perm q ∧ Heap n q2 ∧ q2[n]? = some e) 4 rfl rfl ?_ ?_
  · refine a_as 5 (b := nA n) rfl (by show Value.int .i64 (IntKind.i64.wrap ((q.length : Int) - 1)) = .int .i64 (n : Int); rw [hw]) ?_
    refine a_if hT rfl rfl (fun hb => ?_) (fun hb => ?_)
    · have hne : n ≠ i := by
        have : ¬ (n : Int) = i := by simpa using hb
        omega
      refine a_invV hT (.row v 30) rfl rfl rfl rfl iSwap (by kernel_rfl) rfl rfl rfl (swap_any (h := 30) (h1 := 0) (h2 := 0) (v := v) (q := q) hil hnl) [30, 32] [30, 32] ⟨rfl, rfl, rfl, trivial⟩ rfl ⟨⟨rfl, rfl, rfl, rfl⟩, rfl, trivial⟩ ?_
      rintro _ _ rfl
      have he0 : q[i] = e := by rw [List.getElem?_eq_getElem hil] at he; cases he; rfl
      have hp1 := perm_any hil hnl
      have gs := fun k => get_swap (q := q) (i := i) (j := n) (a := q[i]) (b := q[n]) hil hnl k
      have hl1 := swap_len q i n q[i] q[n]
      generalize swapQ q i n q[i] q[n] = q1 at hp1 gs hl1
      have hd : DnI n q1 i i := dn_of_heap (m := n + 1) (q0 := q) (by omega) (by rw [← hl]; exact hh) (by omega) fun k hk hne => by rw [gs, if_neg (by omega), if_neg hne]
      refine a_callF hT rfl rfl rfl (by kernel_rfl) (down_spec (g := g) (h1 := 0) (h2 := 0) (v := v) (mo := mo) (q := q1) (n := n) (i0 := i) (by omega) (by omega) (by omega) hd) [10, 30, 32] [10, 30, 32] ⟨⟨rfl, rfl⟩, rfl, rfl, trivial⟩ rfl ⟨⟨rfl, rfl, rfl, rfl, trivial⟩, ⟨rfl, rfl, rfl, rfl⟩, rfl, trivial⟩ ?_
      rintro a _ ⟨q2, hp2, hr2, ⟨rfl, hh2⟩ | ⟨rfl, hu2⟩, rfl⟩
      · refine a_f hT rfl rfl rfl ?_
        exact a_next hT q2 [10, 30, 32] rfl rfl ⟨hp2.trans hp1, hh2, by rw [hr2 n (Nat.le_refl _), gs, if_pos rfl, he0]⟩ ⟨⟨rfl, rfl⟩, trivial⟩ rfl ⟨⟨rfl, rfl, rfl, rfl, trivial⟩, ⟨rfl, rfl, rfl, rfl⟩, rfl, trivial⟩
      · refine a_t hT rfl rfl rfl ?_
        have hl2 := hp2.length_eq
        refine a_callF hT rfl rfl rfl (by kernel_rfl) (up_spec (g := g) (h1 := 0) (v := v) (mo := mo) (q := q2) (n := n) (j := i) (by omega) (by omega) (by omega) hu2) [10, 30, 32] [10, 30, 32] ⟨⟨rfl, rfl⟩, rfl, trivial⟩ rfl ⟨⟨rfl, rfl, rfl, rfl, trivial⟩, ⟨rfl, rfl, rfl, rfl⟩, rfl, trivial⟩ ?_
        rintro _ _ ⟨q3, hp3, hh3, hr3, rfl⟩
        exact a_next hT q3 [10, 30, 32] rfl rfl ⟨(hp3.trans hp2).trans hp1, hh3, by rw [hr3 n (Nat.le_refl _), hr2 n (Nat.le_refl _), gs, if_pos rfl, he0]⟩ ⟨⟨rfl, rfl⟩, trivial⟩ rfl ⟨⟨rfl, rfl, rfl, rfl, trivial⟩, ⟨rfl, rfl, rfl, rfl⟩, rfl, trivial⟩
    · have hne : n = i := by
        have : (n : Int) = i := by simpa using hb
        omega
      refine a_next hT q [10, 30, 32] rfl rfl ⟨List.Perm.refl _, fun k a b hk hkn => hh k a b hk (by omega), by rw [hne]; exact he⟩ ⟨⟨rfl, rfl⟩, trivial⟩ rfl ⟨⟨rfl, rfl, rfl, rfl, trivial⟩, ⟨rfl, rfl, rfl, rfl⟩, rfl, trivial⟩
  · rintro q2 ⟨hp2, hh2, hlast⟩
    have hl2 : q2.length = n + 1 := by rw [hp2.length_eq, hl]
    have hq2 := take_last hl2 hlast
    generalize hq' : q2.take n = q' at hq2
    have hlq' : q'.length = n := by rw [← hq', List.length_take]; omega
    have hh' : Heap q'.length q' := by rw [← hq']; exact heap_take hh2 (by omega)
    subst hq2
    refine a_invP hT rfl rfl rfl rfl iPop (by kernel_rfl) (qpop_spec (h := 10) (g := g) (v := v) (mo := mo) (q := q') (e := e) (by omega)) [10, 30] [10, 30] ⟨rfl, trivial⟩ rfl ⟨⟨rfl, rfl, rfl, rfl, trivial⟩, ⟨rfl, rfl, rfl, rfl⟩, trivial⟩ ?_
    rintro _ _ ⟨v', rfl, rfl⟩
    refine a_ret hT [10, 30, 32] rfl rfl rfl rfl rfl rfl ⟨v', q', hp2, hh', rfl, Ent.cons _ (Ent.cons _ (ents_unsnoc q' e))⟩
end Go.Proofs.Ytepjnmocepkfjaa
