/- Layer 17's timers: Stop, Due, First, Next. -/
import Derived.Test.YtepjnmocepkfjaaEh
set_option linter.unusedVariables false
set_option linter.unusedSimpArgs false
namespace Go.Proofs.Ytepjnmocepkfjaa
open V A
theorem TX.ok.due {x : TX} {S : TS} (h : x.ok S) (hS : (S.map (·.1)).Nodup) {i : Nat} (hi : i < x.q.length) : aget S x.q[i].key = some x.q[i].due := by
  refine aget_of_mem hS (h.s.mem_iff.1 (List.mem_map.2 ⟨x.q[i], List.getElem_mem hi, rfl⟩))
theorem aget_none {β : Type} : ∀ {l : List (Int × β)} {k : Int}, k ∉ l.map (·.1) → aget l k = none
  | [], k, h => rfl
  | (j, u) :: l, k, h => by
    rw [List.map_cons, List.mem_cons, not_or] at h
    unfold aget
    rw [if_neg fun e => h.1 e.symm, aget_none h.2]
set_option maxRecDepth 100000 in
theorem tstop_spec {g h h1 : Nat} {S : TS} {k : Int} (hS : (S.map (·.1)).Nodup) (hl : S.length < 999999) : FSpec Try.prog 53 [ptrA g h, .v (kU k) h1] [.ext (tmA g S)] fun a cs => ∃ S', (a = .v (.bool (aget S k).isSome) 0 ∧ S' = filt k S) ∧ cs = [.ext (tmA g S')] := by
  refine tm_spec fun x hx => ?_
  obtain ⟨v, mo, q, ents⟩ := x
  have hlen := hx.len
  have hlen : q.length = S.length := hlen
  obtain ⟨hnq, hne⟩ := hx.nd hS
  refine a_enter hT [ptrA g 10, .v (kU k) 0] [10, 30, 32, 11] Try.func53 rfl rfl rfl ⟨rfl, rfl, trivial⟩ fun c => ?_
  refine a_f hT rfl rfl rfl ?_
  cases mo with
  | none =>
    have hq : q = [] := hx.n rfl
    subst hq
    have hs : S = [] := List.Perm.eq_nil hx.s.symm
    refine a_lookN hT k rfl rfl rfl mtB kU_ok zeroB rfl rfl ?_
    refine a_f hT rfl rfl rfl ?_
    exact a_ret hT [10, 30, 32, 11] rfl rfl rfl rfl rfl rfl ⟨filt k S, ⟨by rw [hs]; rfl, rfl⟩, by rw [show filt k S = S by rw [hs]; rfl]; exact tm_pack hx⟩
  | some m =>
    cases hres : aget ents k with
    | none =>
      refine a_lookG hT (kv := kU) (va := bV) ents k none rfl rfl rfl mtB kU_ok zeroB rfl rfl rfl rfl rfl hres ?_
      refine a_f hT rfl rfl rfl ?_
      exact a_ret hT [10, 30, 32, 11] rfl rfl rfl rfl rfl rfl ⟨filt k S, ⟨by rw [aget_none (hx.none hres)]; rfl, rfl⟩, by rw [filt_no (hx.none hres)]; exact tm_pack hx⟩
    | some b =>
      obtain ⟨i, hi, hk, hb⟩ := hx.find hres
      have hdue := hx.due hS hi
      have hi : i < q.length := hi
      have hk : q[i].key = k := hk
      have hb : q[i].b = b := hb
      have hdue : aget S q[i].key = some q[i].due := hdue
      subst hb
      refine a_lookG hT (kv := kU) (va := bV) ents k (some q[i].b) rfl rfl rfl mtB kU_ok zeroB rfl rfl rfl rfl rfl hres ?_
      refine a_t hT rfl rfl rfl ?_
      obtain ⟨r, ho, hs⟩ := ents_one hi
      have hs := hs q[i]
      rw [set_same (List.getElem?_eq_getElem hi)] at hs
      refine a_ent [32] [40, 32] _ rfl rfl ho ?_
      refine a_draw hT [] true [(0, false), (4, false), (1, false), (5, false), (2, false), (6, false), (3, false), (7, false), (8, true)] rfl rfl (by kernel_rfl) (by kernel_rfl) rfl ?_
      have hent : Ent [tmBlk g v (some m), rowP v q, entC i q[i], .ext (listA r)] (qC g v (some m) q) := Ent.cons _ (Ent.cons _ hs)
      obtain ⟨n, hn⟩ : ∃ n, q.length = n + 1 := ⟨q.length - 1, by omega⟩
      refine a_callF hT rfl rfl rfl (by kernel_rfl) ((heap_remove (g := g) (h1 := 0) (v := v) (mo := some m) (q := q) (n := n) (i := i) (e := q[i]) hn (by omega) hx.h (List.getElem?_eq_getElem hi)).ent hent) [10, 30, 40, 32] [10, 30, 32, 40] ⟨⟨rfl, rfl⟩, rfl, trivial⟩ rfl ⟨⟨rfl, rfl, rfl, rfl, trivial⟩, ⟨rfl, rfl, rfl, rfl⟩, ⟨rfl, rfl, rfl, rfl, rfl, trivial⟩, rfl, trivial⟩ ?_
      rintro _ _ ⟨v', q', hp, hh, rfl, rfl⟩
      refine a_mdelG hT (kv := kU) (va := bV) ents k rfl rfl rfl rfl mtB kU_ok rfl rfl rfl rfl rfl ?_
      have hp' := (List.perm_append_comm (l₁ := [q[i]]) (l₂ := q')).trans hp
      refine a_ret hT [10, 30, 32, 11] rfl rfl rfl rfl rfl rfl ⟨filt k S, ⟨by rw [← hk, hdue]; rfl, rfl⟩, tm_pack (x := ⟨v', some m, q', adel ents k⟩) ⟨?_, hh, ?_, by simp⟩⟩
      · have h1 := hx.s.symm.trans (hp'.symm.map kd)
        have h1 : S.Perm ((k, q[i].due) :: q'.map kd) := by rw [← hk]; exact h1
        exact (filt_one h1 hS).1.symm
      · have h1 := hx.e.symm.trans (hp'.symm.map kb)
        have h1 : ents.Perm ((k, q[i].b) :: q'.map kb) := by rw [← hk]; exact h1
        show (q'.map kb).Perm (adel ents k)
        rw [adel_filt hne]
        exact (filt_one h1 hne).1.symm
end Go.Proofs.Ytepjnmocepkfjaa
