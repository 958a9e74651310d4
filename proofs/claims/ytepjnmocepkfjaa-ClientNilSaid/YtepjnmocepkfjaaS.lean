/- A map is gone through. It holds of any program. -/
import Derived.Test.YtepjnmocepkfjaaQ
set_option linter.unusedVariables false
set_option linter.unusedSimpArgs false
namespace Go.Proofs.Ytepjnmocepkfjaa.A
open V

/-- A map r and one that goes through it (it): of each entry, whether it has come; cur: the one that came last, if it is still there. -/
def iterA (r it : Nat) (st : List (Bool × (Value × AV))) (cur : Option (Value × AV)) : Asrt where
  h := fun M S w => (∀ b, S b ↔ b = r ∨ b = it) ∧ r ≠ it ∧ ∃ (ents : Array MapEntry) (clock : Nat) (seen : Array Nat), w.heap[r]? = some (.map ents clock) ∧ w.heap[it]? = some (.mapIter (some r) clock seen clock) ∧
    EntsRep M w (st.map (·.2)) ents.toList ∧ (ents.toList.map (·.born)).Nodup ∧ (∀ e ∈ ents.toList, e.born < clock) ∧ ents.toList.map (fun e => seen.contains e.born) = st.map (·.1) ∧
    (∀ p, cur = some p → ∃ b e, seen.back? = some b ∧ ents.find? (·.born == b) = some e ∧ EntRep M w p e)
  ev := fun {M S w M' N w'} h he hN hm => by
    obtain ⟨hS, hne, ents, clock, seen, h1, h2, h3, h4, h5, h6, h7⟩ := h
    refine ⟨hS, hne, ents, clock, seen, ?_, ?_, h3.ev he hm, h4, h5, h6, fun p hp => ?_⟩
    · rw [he.block r (Array.getElem?_eq_some_iff.1 h1).1 (hN r ((hS r).2 (.inl rfl)))]; exact h1
    · rw [he.block it (Array.getElem?_eq_some_iff.1 h2).1 (hN it ((hS it).2 (.inr rfl)))]; exact h2
    · obtain ⟨b, e, k1, k2, k3⟩ := h7 p hp
      exact ⟨b, e, k1, k2, k3.1, k3.2.ev he hm⟩
  lt := fun {M S w} h b hb => by
    obtain ⟨hS, hne, ents, clock, seen, h1, h2, _⟩ := h
    rcases (hS b).1 hb with rfl | rfl
    · exact (Array.getElem?_eq_some_iff.1 h1).1
    · exact (Array.getElem?_eq_some_iff.1 h2).1
/-- One that goes through a map that there isn't. -/
def iterN (it : Nat) : Asrt where
  h := fun M S w => (∀ b, S b ↔ b = it) ∧ w.heap[it]? = some (.mapIter none 0 #[] 0)
  ev := fun {M S w M' N w'} h he hN hm => by
    obtain ⟨hS, h1⟩ := h
    exact ⟨hS, by rw [he.block it (Array.getElem?_eq_some_iff.1 h1).1 (hN it ((hS it).2 rfl))]; exact h1⟩
  lt := fun {M S w} h b hb => by
    obtain ⟨hS, h1⟩ := h
    rw [(hS b).1 hb]
    exact (Array.getElem?_eq_some_iff.1 h1).1

theorem nodup_at {l : List MapEntry} (h : (l.map (·.born)).Nodup) {i j : Nat} (hi : i < l.length) (hj : j < l.length) (e : l[i].born = l[j].born) : i = j := by
  have h2 := List.pairwise_iff_getElem.1 h
  rcases Nat.lt_trichotomy i j with hlt | rfl | hlt
  · exact (h2 i j (by simpa using hi) (by simpa using hj) hlt (by rw [List.getElem_map, List.getElem_map]; exact e)).elim
  · rfl
  · exact (h2 j i (by simpa using hj) (by simpa using hi) hlt (by rw [List.getElem_map, List.getElem_map]; exact e.symm)).elim
section
variable {P : Program} {L : List TD} {Z : List (List Value)} {n : Nat} {Q : Exit → Act → World → Prop} {c : Ctx}
variable {s : AMS} {f f' : AEnv} {σ σ' : Store} {ob : Obs} {κ : List Kt} {all : Array Oper} {dec : List Nat} {o : Oper} {al : Bool} {rest : List (Oper × Bool)} {m : Mode}

/-- range m. -/
theorem a_range (hT : TOk P L) {t kt et : TypeId} {x : Operand} {r r' h0 : Nat} {es : List (Value × AV)} (h : machA L n fuel s f σ [] = ⟨.op m κ all dec o true rest, f', σ', ob⟩) (hob : ob.map (·.1) = ob.map (·.2)) (ho : o.op = .range t x) (ht : mapT P t kt et = true)
    (hx : evA n f' x = .v (.map (some r)) h0) (hl : look σ' h0 = some (.map r' es)) (hrr : r = r')
    (hk : ∀ it, DenA c P n Q (.ops (m.hap true) κ all dec rest) (putA f' o.dst (.v (.pointer (some ⟨it, 0, none⟩)) h0)) ((h0, .ext (iterA r' it (es.map fun p => (false, p)) none)) :: del σ' h0)) : DenA c P n Q s f σ := by
  subst hrr
  refine a_eff hT (fun a σ1 => ∃ it, a = .v (.pointer (some ⟨it, 0, none⟩)) h0 ∧ σ1 = (h0, .ext (iterA r it (es.map fun p => (false, p)) none)) :: del σ' h0) h hob (fun Y Su w fc hd hY hh he => ?_) (fun a σ1 ⟨it, ha, hs⟩ => by subst ha; subst hs; exact hk it)
  obtain ⟨S1, S2, hS, hdis, hc, hrest⟩ := hh.take hl
  obtain ⟨hS1, ents, clock, hheap, hents, hnd, hcl⟩ := hc
  have h1 := he.eval (n := n) x
  rw [hx] at h1
  have hrun : (execOp (ev n fc) o).run P w = .ok (.value (.pointer (some ⟨w.heap.size, 0, none⟩))) (w.alloc (.mapIter (some r) clock #[] clock)) := by
    unfold execOp
    simp only [ho, Sem.run_bind, Sem.run_pure, rep_v h1, Instr.range, run_underlying (mapT_spec ht), Result.andThen_ok, run_get hheap (by simp)]
    simp
  rw [hrun]
  have hlt := (Array.getElem?_eq_some_iff.1 hheap).1
  have hev : Ev no w (w.alloc (.mapIter (some r) clock #[] clock)) := Ev.alloc w _
  have hnew : ∀ b, or2 (or2 S1 (at1 w.heap.size)) S2 b → Su b ∨ w.heap.size ≤ b := fun b hb => by
    rcases hb with (hb | hb) | hb
    · exact .inl ((hS b).2 (.inl hb))
    · right; simp only [at1] at hb; omega
    · exact .inl ((hS b).2 (.inr hb))
  have hm : ∀ b, b < w.heap.size → no b ∨ or2 (or2 (or2 S1 (at1 w.heap.size)) S2) Y b → or2 Su Y b := fun b hb h => by
    rcases h with h | h | h
    · exact h.elim
    · rcases hnew b h with h | h
      · exact .inl h
      · omega
    · exact .inr h
  refine ⟨_, _, or2 (or2 S1 (at1 w.heap.size)) S2, ⟨_, rfl, rfl⟩, mk_v, ⟨or2 S1 (at1 w.heap.size), S2, fun b => Iff.rfl, fun b hb h => ?_, ⟨fun b => ?_, by omega, ents, clock, #[], ?_, heap_alloc_new w _, ?_, hnd, hcl, ?_, by simp⟩, hrest.ev hev hm fun _ _ h => h⟩, hev.no, hnew⟩
  · rcases hb with hb | hb
    · exact hdis b hb h
    · simp only [at1] at hb; have := hrest.lt b h; omega
  · unfold or2 at1; rw [hS1 b]
  · rw [hev.block r hlt fun h => h]; exact hheap
  · rw [List.map_map]
    have e : ((fun q : Bool × (Value × AV) => q.2) ∘ fun p => (false, p)) = id := rfl
    rw [e, List.map_id]
    exact hents.ev hev hm
  · have := ents_len hents
    apply List.ext_getElem?
    intro i
    simp only [List.getElem?_map]
    rcases Nat.lt_or_ge i ents.toList.length with hi | hi
    · rw [List.getElem?_eq_getElem hi, List.getElem?_eq_getElem (by omega)]; simp
    · rw [List.getElem?_eq_none hi, List.getElem?_eq_none (by omega)]; rfl
/-- The entry that came last. -/
theorem a_ientry (hT : TOk P L) {x : Operand} {r it it' h0 : Nat} {st : List (Bool × (Value × AV))} {p : Value × AV} (h : machA L n fuel s f σ [] = ⟨.op m κ all dec o true rest, f', σ', ob⟩) (hob : ob.map (·.1) = ob.map (·.2)) (ho : o.op = .entry x)
    (hx : evA n f' x = .v (.pointer (some ⟨it, 0, none⟩)) h0) (hl : look σ' h0 = some (.ext (iterA r it' st (some p)))) (hii : it = it')
    (hk : DenA c P n Q (.ops (m.hap true) κ all dec rest) (putA f' o.dst (.tup [.v p.1 0, p.2])) σ') : DenA c P n Q s f σ := by
  subst hii
  refine a_eff hT (fun a σ1 => a = .tup [.v p.1 0, p.2] ∧ σ1 = σ') h hob (fun Y Su w fc hd hY hh he => ?_) (fun a σ1 ⟨ha, hs⟩ => by subst ha; subst hs; exact hk)
  obtain ⟨S1, S2, hS, hdis, hc, hrest⟩ := hh.take hl
  obtain ⟨hS1, hne, ents, clock, seen, h1, h2, h3, h4, h5, h6, h7⟩ := hc
  obtain ⟨b, e, k1, k2, k3⟩ := h7 p rfl
  have hv := he.eval (n := n) x
  rw [hx] at hv
  have hrun : (execOp (ev n fc) o).run P w = .ok (.value (.tuple #[e.key, e.val])) w := by
    unfold execOp
    simp only [ho, Sem.run_bind, Sem.run_pure, rep_v hv, Instr.entry, Result.andThen_ok, run_get h2 (by simp), k1, run_get h1 (by simp), bne_self_eq_false, Bool.false_eq_true, if_false, k2]
  rw [hrun]
  refine ⟨_, _, Su, ⟨rfl, rfl⟩, ?_, hh, Ev.refl _ _, fun b hb => .inl hb⟩
  unfold Rep
  exact ⟨[e.key, e.val], rfl, Reps.cons (by unfold Rep; exact k3.1) (Reps.cons k3.2 Reps.nil)⟩
/-- The next entry, in whatever order; or no more. -/
theorem a_inext (hT : TOk P L) {x : Operand} {r it it' h0 : Nat} {st : List (Bool × (Value × AV))} {cur : Option (Value × AV)} (h : machA L n fuel s f σ [] = ⟨.op m κ all dec o true rest, f', σ', ob⟩) (hob : ob.map (·.1) = ob.map (·.2)) (ho : o.op = .next x false)
    (hx : evA n f' x = .v (.pointer (some ⟨it, 0, none⟩)) h0) (hl : look σ' h0 = some (.ext (iterA r it' st cur))) (hii : it = it')
    (hk1 : (∀ q ∈ st, q.1 = true) → DenA c P n Q (.ops (m.hap true) κ all dec rest) (putA f' o.dst (.tup [.v (.bool false) 0])) σ')
    (hk2 : ∀ i p, st[i]? = some (false, p) → DenA c P n Q (.ops (m.hap true) κ all dec rest) (putA f' o.dst (.tup [.v (.bool true) 0, .v p.1 0, p.2])) ((h0, .ext (iterA r it' (st.set i (true, p)) (some p))) :: del σ' h0)) : DenA c P n Q s f σ := by
  subst hii
  refine a_eff hT (fun a σ1 => ((∀ q ∈ st, q.1 = true) ∧ a = .tup [.v (.bool false) 0] ∧ σ1 = σ') ∨ ∃ i p, st[i]? = some (false, p) ∧ a = .tup [.v (.bool true) 0, .v p.1 0, p.2] ∧ σ1 = (h0, .ext (iterA r it (st.set i (true, p)) (some p))) :: del σ' h0) h hob (fun Y Su w fc hd hY hh he => ?_) (fun a σ1 hR => ?_)
  rotate_left
  · rcases hR with ⟨hq, rfl, rfl⟩ | ⟨i, p, hi, rfl, rfl⟩
    · exact hk1 hq
    · exact hk2 i p hi
  obtain ⟨S1, S2, hS, hdis, hc, hrest⟩ := hh.take hl
  obtain ⟨hS1, hne, ents, clock, seen, h1, h2, h3, h4, h5, h6, h7⟩ := hc
  have hv := he.eval (n := n) x
  rw [hx] at hv
  have hlen := ents_len h3
  rw [List.length_map] at hlen
  have hfl : ∀ (i : Nat) e q, ents.toList[i]? = some e → st[i]? = some q → seen.contains e.born = q.1 := fun i e q hi hq => by
    have := congrArg (fun l : List Bool => l[i]?) h6
    simpa [hi, hq] using this
  -- what may come
  have hnot : (!seen.isEmpty && !ents.isEmpty && ents.all (·.born ≥ clock)) = false := by
    cases hE : ents.isEmpty
    · have : ents.all (·.born ≥ clock) = false := by
        rw [Array.all_eq_false]
        have : 0 < ents.size := by
          rcases Nat.eq_zero_or_pos ents.size with h | h
          · simp [Array.isEmpty, h] at hE
          · exact h
        refine ⟨0, this, ?_⟩
        have := h5 ents[0] (by simp)
        simp
        omega
      simp [this]
    · simp
  have hnew : (ents.filter fun e => !seen.contains e.born).filter (·.born ≥ clock) = #[] := by
    apply Array.eq_empty_of_size_eq_zero
    rw [Array.size_eq_zero_iff, Array.filter_eq_empty_iff]
    intro e he'
    have := h5 e (by simpa using (Array.mem_filter.1 he').1)
    simp
    omega
  have hold : (ents.filter fun e => !seen.contains e.born).filter (·.born < clock) = ents.filter fun e => !seen.contains e.born := by
    rw [Array.filter_eq_self]
    intro e he'
    have := h5 e (by simpa using (Array.mem_filter.1 he').1)
    simpa using this
  generalize hFF : (ents.filter fun e : MapEntry => !seen.contains e.born) = F at hnew hold
  have hFm : ∀ e ∈ F, e ∈ ents ∧ seen.contains e.born = false := fun e he' => by
    rw [← hFF] at he'
    simpa using Array.mem_filter.1 he'
  have hisE : F.isEmpty = decide (F.size = 0) := rfl
  generalize hcand : ((if F.isEmpty = true then #[none] else #[]) ++ (F ++ #[]).map some : Array (Option MapEntry)) = cand
  have hcs : 0 < cand.size := by
    rw [← hcand, hisE]
    by_cases h0 : F.size = 0
    · simp [h0]
    · simp [h0]; omega
  -- which one: whatever the answer
  obtain ⟨i, w1, hi, hch, hev1⟩ : ∃ i w1, i < cand.size ∧ (choose (.mapNext cand.size)).run P w = .ok i w1 ∧ Ev no w w1 := by
    rw [run_choose]
    split
    · exact ⟨0, w, hcs, rfl, Ev.refl _ _⟩
    · refine ⟨_, _, ?_, rfl, ⟨rfl, rfl, rfl, Nat.le_refl _, fun _ _ _ => rfl⟩⟩
      exact Nat.mod_lt _ hcs
  have hh1 := hh.ev hev1 (fun b _ h => h.elim (fun h => h.elim) id) (fun _ _ h => h)
  have g1 : w1.heap[r]? = some (.map ents clock) := by rw [hev1.block r (Array.getElem?_eq_some_iff.1 h1).1 fun h => h]; exact h1
  have g2 : w1.heap[it]? = some (.mapIter (some r) clock seen clock) := by rw [hev1.block it (Array.getElem?_eq_some_iff.1 h2).1 fun h => h]; exact h2
  have hrun : (execOp (ev n fc) o).run P w = ((match cand[i]? with
      | some (some e) => (do setObj it (.mapIter (some r) clock (seen.push e.born) clock); pure (.tuple #[.bool true, e.key, e.val]) : Sem Value)
      | some none => pure (.tuple #[.bool false])
      | none => stuck "Next: no such candidate").run P w1).andThen fun v w => .ok (.value v) w := by
    unfold execOp
    simp only [ho, Sem.run_bind, Sem.run_pure, rep_v hv, Instr.next, Result.andThen_ok, run_get h2 (by simp), run_get h1 (by simp), hnot, Bool.false_eq_true, if_false, hFF, hnew, hold, hcand, hch]
    rfl
  rw [hrun]
  by_cases hE : F.size = 0
  rotate_left
  · -- one that hasn't come
    have hcand' : cand = F.map some := by rw [← hcand, hisE]; simp [hE]
    rw [hcand'] at hi ⊢
    rw [Array.size_map] at hi
    have hget : (F.map some)[i]? = some (some F[i]) := by simp [hi]
    rw [hget]
    generalize hee : F[i] = e
    have hmem : e ∈ ents ∧ seen.contains e.born = false := hFm e (by rw [← hee]; exact Array.getElem_mem hi)
    obtain ⟨j, hj⟩ := List.mem_iff_getElem?.1 (show e ∈ ents.toList by simpa using hmem.1)
    have hjl := (List.getElem?_eq_some_iff.1 hj).1
    obtain ⟨q, hq⟩ : ∃ q, st[j]? = some q := ⟨_, List.getElem?_eq_getElem (by omega)⟩
    obtain ⟨bq, p⟩ := q
    have hbq := hfl j e _ hj hq
    rw [hmem.2] at hbq
    simp only at hbq
    subst hbq
    obtain ⟨e', he', hep⟩ := ents_get h3 j p (by rw [List.getElem?_map, hq]; rfl)
    rw [hj] at he'
    cases he'
    have hitlt := (Array.getElem?_eq_some_iff.1 g2).1
    have hset : (setObj it (.mapIter (some r) clock (seen.push e.born) clock)).run P w1 = .ok () (setB w1 it (.mapIter (some r) clock (seen.push e.born) clock)) := run_set g2 (by simp) _
    have hev2 : Ev (at1 it) w1 (setB w1 it (.mapIter (some r) clock (seen.push e.born) clock)) := Ev.setB w1 it _
    have hev : Ev Su w (setB w1 it (.mapIter (some r) clock (seen.push e.born) clock)) := hev1.no.then hev2 fun b hb h => (hS b).2 (.inl ((hS1 b).2 (.inr h)))
    have hm : ∀ b, b < w.heap.size → Su b ∨ or2 Su Y b → or2 Su Y b := fun b _ h => h.elim .inl id
    have hm1 : ∀ b, b < w1.heap.size → at1 it b ∨ or2 Su Y b → or2 Su Y b := fun b _ h => h.elim (fun h => .inl ((hS b).2 (.inl ((hS1 b).2 (.inr h))))) id
    have hm0 : ∀ b, b < w.heap.size → no b ∨ or2 Su Y b → or2 Su Y b := fun b _ h => h.elim (fun h => h.elim) id
    have h3' := (h3.ev hev1 hm0).ev hev2 hm1
    have hep' : EntRep (or2 Su Y) (setB w1 it (.mapIter (some r) clock (seen.push e.born) clock)) p e := ⟨hep.1, (hep.2.ev hev1 hm0).ev hev2 hm1⟩
    simp only [Sem.run_bind, hset, Result.andThen_ok, Sem.run_pure]
    refine ⟨_, _, Su, .inr ⟨j, p, hq, rfl, rfl⟩, ?_, ⟨S1, S2, hS, hdis, ⟨hS1, hne, ents, clock, seen.push e.born, ?_, setB_at hitlt _, ?_, h4, h5, ?_, ?_⟩, (hrest.ev hev1 hm0 fun _ _ h => h).ev hev2 hm1 fun b hb h => hdis b ((hS1 b).2 (.inr h)) hb⟩, hev, fun b hb => .inl hb⟩
    · unfold Rep
      exact ⟨[.bool true, e.key, e.val], rfl, Reps.cons mk_v (Reps.cons (by unfold Rep; exact hep'.1) (Reps.cons hep'.2 Reps.nil))⟩
    · rw [hev2.block r (Array.getElem?_eq_some_iff.1 g1).1 (fun h => hne h)]; exact g1
    · rw [List.map_set]
      have : (st.map (·.2)).set j p = st.map (·.2) := by
        apply List.ext_getElem?
        intro i'
        rw [List.getElem?_set]
        split
        · rename_i hh; subst hh; rw [List.getElem?_map, hq, List.length_map, if_pos (by omega)]; rfl
        · rfl
      rw [this]
      exact h3'
    · apply List.ext_getElem?
      intro i'
      rw [List.map_set, List.getElem?_set, List.getElem?_map, List.getElem?_map]
      by_cases hij : j = i'
      · subst hij
        rw [if_pos rfl, hj, List.length_map, if_pos (by omega)]
        simp
      · rw [if_neg hij]
        rcases Nat.lt_or_ge i' ents.toList.length with hi' | hi'
        · have hne' : ents.toList[i'].born ≠ e.born := by
            intro he''
            obtain ⟨_, hje⟩ := List.getElem?_eq_some_iff.1 hj
            exact hij (nodup_at h4 hjl hi' (by rw [hje, he'']))
          rw [List.getElem?_eq_getElem hi', List.getElem?_eq_getElem (show i' < st.length by omega)]
          have := hfl i' _ _ (List.getElem?_eq_getElem hi') (List.getElem?_eq_getElem (show i' < st.length by omega))
          simp only [Option.map_some, Option.some.injEq]
          rw [← this]
          have hne'' : ¬ e.born = ents.toList[i'].born := fun h => hne' h.symm
          simp only [Array.contains_eq_mem, Array.mem_push]
          simp
          intro h
          exact absurd h (by simpa using hne')
        · rw [List.getElem?_eq_none hi', List.getElem?_eq_none (by omega)]; rfl
    · intro p' hp'
      cases hp'
      refine ⟨e.born, e, by simp, ?_, hep'⟩
      -- its stamp is its own
      rw [← Array.find?_toList]
      rw [List.find?_eq_some_iff_append]
      obtain ⟨hjl', hje⟩ := List.getElem?_eq_some_iff.1 hj
      refine ⟨by simp, ents.toList.take j, ents.toList.drop (j + 1), ?_, fun e' he' => ?_⟩
      · rw [← hje, ← List.drop_eq_getElem_cons hjl, List.take_append_drop]
      · obtain ⟨i', hi'⟩ := List.mem_iff_getElem?.1 he'
        have hlt' : i' < j := by have := (List.getElem?_eq_some_iff.1 hi').1; simp at this; omega
        rw [List.getElem?_take_of_lt hlt'] at hi'
        simp only [Bool.not_eq_eq_eq_not, Bool.not_true, beq_eq_false_iff_ne, ne_eq]
        intro he''
        obtain ⟨hil, hie⟩ := List.getElem?_eq_some_iff.1 hi'
        have := nodup_at h4 hil hjl (by rw [hie, hje]; simpa using he'')
        omega
  · -- all have come
    have hemp : F = #[] := Array.eq_empty_of_size_eq_zero hE
    have hcand' : cand = #[none] := by rw [← hcand, hemp]; simp
    rw [hcand'] at hi ⊢
    have hget : (#[none] : Array (Option MapEntry))[i]? = some none := by
      have : i = 0 := by simpa using hi
      subst this
      rfl
    rw [hget]
    simp only [Sem.run_pure, Result.andThen_ok]
    refine ⟨_, _, Su, .inl ⟨fun q hq => ?_, rfl, rfl⟩, ?_, hh1, hev1.no, fun b hb => .inl hb⟩
    · obtain ⟨j, hj⟩ := List.mem_iff_getElem?.1 hq
      have hjl := (List.getElem?_eq_some_iff.1 hj).1
      have := hfl j _ q (List.getElem?_eq_getElem (show j < ents.toList.length by omega)) hj
      rw [← this]
      rw [← hFF, Array.filter_eq_empty_iff] at hemp
      have := hemp (ents.toList[j]'(by omega)) (by simp)
      simpa using this
    · unfold Rep
      exact ⟨[.bool false], rfl, Reps.cons mk_v Reps.nil⟩
/-- The map alone, again. -/
theorem a_iend (h0 : Nat) {r it : Nat} {st : List (Bool × (Value × AV))} {cur : Option (Value × AV)} (hst : s.still = true) (hl : look σ h0 = some (.ext (iterA r it st cur))) (hk : DenA c P n Q s f ((h0, .map r (st.map (·.2))) :: del σ h0)) : DenA c P n Q s f σ := by
  refine a_ghost hst (fun Y S w fc hdY hh henv => ?_) hk
  obtain ⟨S1, S2, hS, hdis, hc, hrest⟩ := hh.take hl
  obtain ⟨hS1, hne, ents, clock, seen, h1, h2, h3, h4, h5, h6, h7⟩ := hc
  have hM : ∀ b, or2 (or2 (at1 r) S2) Y b → or2 S Y b := fun b h => h.elim (fun h => h.elim (fun h => .inl ((hS b).2 (.inl ((hS1 b).2 (.inl h))))) fun h => .inl ((hS b).2 (.inr h))) .inr
  exact ⟨or2 (at1 r) S2, ⟨at1 r, S2, fun b => Iff.rfl, fun b hb h => hdis b ((hS1 b).2 (.inl hb)) h, ⟨fun b => Iff.rfl, ents, clock, h1, h3.ev (Ev.refl no w) (fun b _ h => h.elim (fun h => h.elim) (hM b)), h4, h5⟩, hrest.of fun b _ h => hM b h⟩, henv.of fun b _ h => hM b h, fun b h => h.elim (fun h => (hS b).2 (.inl ((hS1 b).2 (.inl h)))) fun h => (hS b).2 (.inr h)⟩
def iterE {κ : Type} (kv : κ → Value) (l : List (Bool × (κ × AV))) : List (Bool × (Value × AV)) := l.map fun q => (q.1, (kv q.2.1, q.2.2))
def idel {κ β : Type} [DecidableEq κ] : List (Bool × (κ × β)) → κ → List (Bool × (κ × β))
  | [], _ => []
  | q :: l, k => if q.2.1 = k then l else q :: idel l k
theorem idel_idx {κ β : Type} [DecidableEq κ] : ∀ (l : List (Bool × (κ × β))) (k : κ), match aidx (l.map (·.2.1)) k with
    | none => idel l k = l
    | some i => idel l k = l.eraseIdx i ∧ ∃ q, l[i]? = some q ∧ q.2.1 = k
  | [], k => rfl
  | q :: l, k => by
    have ih := idel_idx l k
    simp only [List.map_cons, aidx, idel]
    by_cases h : q.2.1 = k
    · simp [h]
    · simp only [h, if_false]
      cases hi : aidx (l.map (·.2.1)) k with
      | none => rw [hi] at ih; show q :: idel l k = q :: l; rw [ih]
      | some i => rw [hi] at ih; exact ⟨by rw [ih.1]; rfl, ih.2⟩
/-- An entry goes, of a map that is gone through. -/
theorem a_idel (hT : TOk P L) {t kt et : TypeId} {κ' : Type} [DecidableEq κ'] {kv : κ' → Value} {x y : Operand} {ts : Array TypeId} {r r' it h0 : Nat} {hk0 : Nat} {st : List (Bool × (Value × AV))} {cur : Option (Value × AV)} (l : List (Bool × (κ' × AV))) (k : κ') (h : machA L n fuel s f σ [] = ⟨.op m κ all dec o true rest, f', σ', ob⟩) (hob : ob.map (·.1) = ob.map (·.2)) (ho : o.op = .call ⟨.builtin .delete, #[x, y], ts⟩) (hts : ts[0]? = some t) (ht : mapT P t kt et = true) (hko : KeyOk P kt kv)
    (hx : evA n f' x = .v (.map (some r)) h0) (hl : look σ' h0 = some (.ext (iterA r' it st cur))) (hrr : r = r') (hes : st = iterE kv l) (hy : evN n f' y = .v (kv k) hk0)
    (hk : DenA c P n Q (.ops (m.hap true) κ all dec rest) (putA f' o.dst (.v (.tuple #[]) 0)) (upd σ' h0 (.ext (iterA r' it (iterE kv (idel l k)) none)))) : DenA c P n Q s f σ := by
  subst hrr
  subst hes
  refine a_eff hT (fun a σ1 => a = .v (.tuple #[]) 0 ∧ σ1 = upd σ' h0 (.ext (iterA r it (iterE kv (idel l k)) none))) h hob (fun Y Su w fc hd hY hh he => ?_) (fun a σ1 ⟨ha, hs⟩ => by subst ha; subst hs; exact hk)
  obtain ⟨S1, S2, hS, hdis, hc, hrest⟩ := hh.take hl
  obtain ⟨hS1, hne, ents, clock, seen, g1, g2, h3, h4, h5, h6, h7⟩ := hc
  have h1 := he.eval (n := n) x
  have h2 := he.evalN (n := n) y
  rw [hx] at h1
  rw [hy] at h2
  have e0 : (iterE kv l).map (·.2) = mapE kv (l.map (·.2)) := by unfold iterE mapE; rw [List.map_map, List.map_map]; rfl
  have hkeys : ents.toList.map (·.key) = (l.map (·.2.1)).map kv := by
    have := ents_keys (kv := kv) (l := l.map (·.2)) (by rw [← e0]; exact h3)
    rw [this]; simp [List.map_map, Function.comp_def]
  have hfnd := hko.fnd w k (l.map (·.2.1)) ents.toList hkeys
  have hidx := idel_idx l k
  -- the map's block, turned
  have fin : ∀ (ents' : Array MapEntry) (l' : List (Bool × (κ' × AV))), EntsRep (or2 Su Y) w ((iterE kv l').map (·.2)) ents'.toList → (ents'.toList.map (·.born)).Nodup → (∀ e ∈ ents'.toList, e.born < clock) → ents'.toList.map (fun e => seen.contains e.born) = (iterE kv l').map (·.1) →
      After Y Su w (fun a σ1 => a = .v (.tuple #[]) 0 ∧ σ1 = upd σ' h0 (.ext (iterA r it (iterE kv l') none))) (.tuple #[]) (setB w r (.map ents' clock)) := by
    intro ents' l' q1 q2 q3 q4
    have hlt : r < w.heap.size := (Array.getElem?_eq_some_iff.1 g1).1
    have hev : Ev (at1 r) w (setB w r (.map ents' clock)) := Ev.setB w r _
    have hm : ∀ b, b < w.heap.size → at1 r b ∨ or2 Su Y b → or2 Su Y b := fun b _ h => h.elim (fun h => .inl ((hS b).2 (.inl ((hS1 b).2 (.inl h))))) id
    refine ⟨_, _, Su, ⟨rfl, rfl⟩, mk_v, ?_, hev.mono fun b _ h => (hS b).2 (.inl ((hS1 b).2 (.inl h))), fun b hb => .inl hb⟩
    refine (Holds.upd (S1 := S1) (c' := .ext (iterA r it (iterE kv l') none)) hev hm hh hl hrest (fun b hb hg => hdis b ((hS1 b).2 (.inl hg)) hb) hdis ?_).iff hS
    refine ⟨hS1, hne, ents', clock, seen, setB_at hlt _, ?_, q1.ev hev hm, q2, q3, q4, fun p hp => by cases hp⟩
    rw [hev.block it (Array.getElem?_eq_some_iff.1 g2).1 (fun h => hne h.symm)]
    exact g2
  cases hi' : aidx (l.map (·.2.1)) k with
  | none =>
    rw [hi'] at hidx hfnd
    have hrun : (execOp (ev n fc) o).run P w = .ok (.value (.tuple #[])) (setB w r (.map ents clock)) := by
      unfold execOp
      simp only [ho, resolve, invoke, builtin, Sem.run_bind, Sem.run_pure, Result.andThen_ok, List.map_toArray, List.map_cons, List.map_nil, Builtin.delete_, hts, rep_v h1, rep_v h2, run_underlying (mapT_spec ht), run_get g1 (by simp), hko.chk, hfnd, Option.bind_none, run_set g1 (by simp)]
      simp [run_underlying (mapT_spec ht), run_get g1, hko.chk, hfnd, run_set g1, rep_v h1, rep_v h2]
    rw [hrun, hidx]
    exact fin ents l h3 h4 h5 h6
  | some j =>
    rw [hi'] at hidx hfnd
    obtain ⟨hdel, q, hq, hqk⟩ := hidx
    obtain ⟨e, he', hep⟩ := ents_get h3 j (kv q.2.1, q.2.2) (by unfold iterE; rw [List.getElem?_map, List.getElem?_map, hq]; rfl)
    have hje : ents[j]? = some e := by rw [← Array.getElem?_toList]; exact he'
    have hrun : (execOp (ev n fc) o).run P w = .ok (.value (.tuple #[])) (setB w r (.map (ents.eraseIdxIfInBounds j) clock)) := by
      unfold execOp
      simp only [ho, resolve, invoke, builtin, Sem.run_bind, Sem.run_pure, Result.andThen_ok, List.map_toArray, List.map_cons, List.map_nil, Builtin.delete_, hts, rep_v h1, rep_v h2, run_underlying (mapT_spec ht), run_get g1 (by simp), hko.chk, hfnd, Option.bind_some, he', Option.map_some, run_set g1 (by simp)]
      simp [run_underlying (mapT_spec ht), run_get g1, hko.chk, hfnd, hje, run_set g1, rep_v h1, rep_v h2]
    have hers : (ents.eraseIdxIfInBounds j).toList = ents.toList.eraseIdx j := by
      unfold Array.eraseIdxIfInBounds
      have := (List.getElem?_eq_some_iff.1 he').1
      rw [dif_pos (by simpa using this)]
      simp
    rw [hrun, hdel]
    refine fin _ _ ?_ ?_ ?_ ?_
    · rw [hers]
      unfold iterE at h3 ⊢
      rw [map_erase, map_erase]
      exact ents_erase j h3
    · rw [hers, map_erase]
      exact h4.sublist (List.eraseIdx_sublist _ _)
    · intro e' h'
      rw [hers] at h'
      exact h5 e' ((List.eraseIdx_sublist _ _).subset h')
    · rw [hers, map_erase, h6]
      unfold iterE
      rw [map_erase, map_erase]
end
end Go.Proofs.Ytepjnmocepkfjaa.A
