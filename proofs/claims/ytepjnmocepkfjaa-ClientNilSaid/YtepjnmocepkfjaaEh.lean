/- Layer 17's timers: Len, Set. -/
import Derived.Test.YtepjnmocepkfjaaEg
set_option linter.unusedVariables false
set_option linter.unusedSimpArgs false
namespace Go.Proofs.Ytepjnmocepkfjaa
open V A
theorem TX.ok.len {x : TX} {S : TS} (h : x.ok S) : x.q.length = S.length := by have := h.s.length_eq; simpa using this
theorem tlen_spec {g h : Nat} {S : TS} : FSpec Try.prog 64 [ptrA g h] [.ext (tmA g S)] fun a cs => ∃ S', (a = nA S.length ∧ S' = S) ∧ cs = [.ext (tmA g S')] := by
  refine tm_spec fun x hx => ?_
  refine a_enter hT [ptrA g 10] [10, 30, 32, 11] Try.func64 rfl rfl rfl ⟨rfl, trivial⟩ fun c => ?_
  refine a_f hT rfl rfl rfl ?_
  refine a_ret hT [10, 30, 32, 11] rfl rfl rfl rfl rfl rfl ⟨S, ⟨?_, rfl⟩, tm_pack hx⟩
  show AV.v (.int .i64 ((x.q.map pB).length : Int)) 0 = .v (.int .i64 (S.length : Int)) 0
  rw [List.length_map, hx.len]
theorem kb_keys (q : List QE) : (q.map kb).map (·.1) = q.map (·.key) := by rw [List.map_map]; rfl
theorem kd_keys (q : List QE) : (q.map kd).map (·.1) = q.map (·.key) := by rw [List.map_map]; rfl
/-- The keys are apart. -/
theorem TX.ok.nd {x : TX} {S : TS} (h : x.ok S) (hS : (S.map (·.1)).Nodup) : (x.q.map (·.key)).Nodup ∧ (x.ents.map (·.1)).Nodup := by
  have h1 := (h.s.map (·.1)).nodup_iff.2 hS
  rw [kd_keys] at h1
  have h2 := (h.e.map (·.1)).nodup_iff.1 (by rw [kb_keys]; exact h1)
  exact ⟨h1, h2⟩
/-- What the map tells is in the queue. -/
theorem TX.ok.find {x : TX} {S : TS} (h : x.ok S) {k : Int} {b : Nat} (hg : aget x.ents k = some b) : ∃ (i : Nat) (hi : i < x.q.length), x.q[i].key = k ∧ x.q[i].b = b := by
  have hm := h.e.mem_iff.2 (aget_mem hg)
  obtain ⟨e, he, hk⟩ := List.mem_map.1 hm
  obtain ⟨i, hi, rfl⟩ := List.getElem_of_mem he
  unfold kb at hk
  cases hk
  exact ⟨i, hi, rfl, rfl⟩
theorem TX.ok.none {x : TX} {S : TS} (h : x.ok S) {k : Int} (hg : aget x.ents k = none) : k ∉ S.map (·.1) := by
  have h1 := aget_nomem hg
  rw [← ((h.s.map (·.1)).mem_iff), kd_keys, ← kb_keys, (h.e.map (·.1)).mem_iff]
  exact h1
def setP (S : TS) (k d : Int) : TS := (k, d) :: filt k S
theorem set_new {x : TX} {S : TS} (hx : x.ok S) {k d : Int} {b : Nat} (hg : aget x.ents k = none) {q' : List QE} (hp : q'.Perm (x.q ++ [⟨b, k, d⟩])) : (q'.map kd).Perm (setP S k d) := by
  unfold setP
  rw [filt_no (hx.none hg)]
  have h1 := hp.map kd
  rw [List.map_append] at h1
  exact (h1.trans List.perm_append_comm).trans (List.Perm.cons _ hx.s)
theorem eraseIdx_perm {q : List QE} {i : Nat} (hi : i < q.length) : q.Perm (q[i] :: q.eraseIdx i) := by
  have h := perm_set q i q[i] hi
  rw [set_same (List.getElem?_eq_getElem hi)] at h
  exact h
theorem set_old {x : TX} {S : TS} (hx : x.ok S) (hS : (S.map (·.1)).Nodup) {k d : Int} {b i : Nat} (hi : i < x.q.length) (hk : x.q[i].key = k) {q' : List QE} (hp : q'.Perm (x.q.set i ⟨b, k, d⟩)) : (q'.map kd).Perm (setP S k d) := by
  have h1 := (hp.trans (perm_set x.q i ⟨b, k, d⟩ hi)).map kd
  have h2 := hx.s.symm.trans ((eraseIdx_perm hi).map kd)
  rw [List.map_cons] at h1 h2
  have e : kd x.q[i] = (k, x.q[i].due) := by unfold kd; rw [hk]
  rw [e] at h2
  have h3 := (filt_one h2 hS).1
  unfold setP
  exact h1.trans (List.Perm.cons _ h3.symm)
theorem hIe (g : Nat) : AV.ifc 104 (.v (.pointer (some ((⟨g, 0, none⟩ : Addr).add 0))) 10) = hI g := rfl
set_option maxRecDepth 100000 in
theorem tset_spec {g h h1 h2 : Nat} {S : TS} {k d : Int} (hS : (S.map (·.1)).Nodup) (hl : S.length < 999999) : FSpec Try.prog 29 [ptrA g h, .v (kU k) h1, .v (kI d) h2] [.ext (tmA g S)] fun _ cs => ∃ S', (S' = setP S k d) ∧ cs = [.ext (tmA g S')] := by
  refine tm_spec (R := fun _ S' => S' = setP S k d) fun x hx => ?_
  obtain ⟨v, mo, q, ents⟩ := x
  have hlen := hx.len
  obtain ⟨hnq, hne⟩ := hx.nd hS
  refine a_enter hT [ptrA g 10, .v (kU k) 0, .v (kI d) 0] [10, 30, 32, 11] Try.func29 rfl rfl rfl ⟨rfl, rfl, rfl, trivial⟩ fun c => ?_
  refine a_f hT rfl rfl rfl ?_
  cases mo with
  | none =>
    have hq : q = [] := hx.n rfl
    subst hq
    have he : ents = [] := List.Perm.eq_nil hx.e.symm
    subst he
    refine a_lookN hT k rfl rfl rfl mtB kU_ok zeroB rfl rfl ?_
    refine a_f hT rfl rfl rfl ?_
    refine a_t hT rfl rfl rfl ?_
    refine a_mkmap hT 11 rfl rfl rfl fun m => ?_
    refine a_build hT hZ [.v (kU k) 0, .v (kI d) 0, .v (.int .i64 0) 0] rfl rfl rfl rfl rfl rfl ?_
    refine a_box hT 40 rfl rfl rfl rfl fun b => ?_
    refine a_mputG hT (kv := kU) (va := bV) [] k b rfl rfl rfl mtB kU_ok rfl rfl rfl rfl rfl rfl ?_
    refine a_callF hT rfl rfl rfl (by kernel_rfl) (heap_push (g := g) (h2 := 0) (v := v) (mo := some m) (q := []) (e := ⟨b, k, d⟩) (x := .int .i64 0) (by decide) hx.h) [10, 30, 32, 40] [10, 30, 32] ⟨⟨rfl, rfl⟩, ⟨rfl, rfl⟩, trivial⟩ rfl ⟨⟨rfl, rfl, rfl, rfl, trivial⟩, ⟨rfl, rfl, rfl, rfl⟩, rfl, ⟨rfl, rfl, rfl, rfl, rfl, trivial⟩, trivial⟩ ?_
    rintro _ _ ⟨v', q', hp, hh, rfl⟩
    refine a_end hT [10, 30, 32, 11] rfl rfl rfl rfl rfl rfl ⟨_, rfl, tm_pack (x := ⟨v', some m, q', [(k, b)]⟩) ⟨?_, hh, hp.map kb, by simp⟩⟩
    exact set_new hx rfl hp
  | some m =>
    cases hres : aget ents k with
    | none =>
      refine a_lookG hT (kv := kU) (va := bV) ents k none rfl rfl rfl mtB kU_ok zeroB rfl rfl rfl rfl rfl hres ?_
      refine a_f hT rfl rfl rfl ?_
      refine a_f hT rfl rfl rfl ?_
      refine a_build hT hZ [.v (kU k) 0, .v (kI d) 0, .v (.int .i64 0) 0] rfl rfl rfl rfl rfl rfl ?_
      refine a_box hT 40 rfl rfl rfl rfl fun b => ?_
      refine a_mputG hT (kv := kU) (va := bV) ents k b rfl rfl rfl mtB kU_ok rfl rfl rfl rfl rfl rfl ?_
      refine a_callF hT rfl rfl rfl (by kernel_rfl) (heap_push (g := g) (h2 := 0) (v := v) (mo := some m) (q := q) (e := ⟨b, k, d⟩) (x := .int .i64 0) (by have : q.length = S.length := hlen; omega) hx.h) [10, 30, 32, 40] [10, 30, 32] ⟨⟨rfl, rfl⟩, ⟨rfl, rfl⟩, trivial⟩ rfl ⟨⟨rfl, rfl, rfl, rfl, trivial⟩, ⟨rfl, rfl, rfl, rfl⟩, rfl, ⟨rfl, rfl, rfl, rfl, rfl, trivial⟩, trivial⟩ ?_
      rintro _ _ ⟨v', q', hp, hh, rfl⟩
      refine a_end hT [10, 30, 32, 11] rfl rfl rfl rfl rfl rfl ⟨_, rfl, tm_pack (x := ⟨v', some m, q', aput ents k b⟩) ⟨set_new hx hres hp, hh, ?_, by simp⟩⟩
      have h1 := hp.map kb
      rw [List.map_append] at h1
      show (q'.map kb).Perm (aput ents k b)
      rw [aput_new hres]
      exact h1.trans (List.Perm.append hx.e (List.Perm.refl _))
    | some b =>
      obtain ⟨i, hi, hk, hb⟩ := hx.find hres
      have hi : i < q.length := hi
      have hk : q[i].key = k := hk
      have hb : q[i].b = b := hb
      subst hb
      refine a_lookG hT (kv := kU) (va := bV) ents k (some q[i].b) rfl rfl rfl mtB kU_ok zeroB rfl rfl rfl rfl rfl hres ?_
      refine a_t hT rfl rfl rfl ?_
      obtain ⟨r, ho, hs⟩ := ents_one hi
      refine a_ent [32] [40, 32] _ rfl rfl ho ?_
      refine a_draw hT [] true [(0, false), (4, false), (1, false), (5, false), (2, false), (6, false), (3, false), (7, false), (8, true)] rfl rfl (by kernel_rfl) (by kernel_rfl) rfl ?_
      have hd : DnI (q.set i ⟨q[i].b, q[i].key, d⟩).length (q.set i ⟨q[i].b, q[i].key, d⟩) i i := by
        rw [List.length_set]
        exact dn_of_heap (m := q.length) (q0 := q) (Nat.le_refl _) hx.h (Nat.le_refl _) fun k hk hne => List.getElem?_set_ne (Ne.symm hne)
      have hrow : rowP v (q.set i ⟨q[i].b, q[i].key, d⟩) = rowP v q := by
        unfold rowP
        rw [List.map_set, set_same (by rw [List.getElem?_map, List.getElem?_eq_getElem hi]; rfl)]
      have hent : Ent [tmBlk g v (some m), rowP v q, entC i ⟨q[i].b, q[i].key, d⟩, .ext (listA r)] (qC g v (some m) (q.set i ⟨q[i].b, q[i].key, d⟩)) := by
        unfold qC
        rw [hrow]
        exact Ent.cons _ (Ent.cons _ (hs ⟨q[i].b, q[i].key, d⟩))
      refine a_callF hT rfl rfl rfl (by kernel_rfl) ((heap_fix (g := g) (h1 := 0) (v := v) (mo := some m) (q := q.set i ⟨q[i].b, q[i].key, d⟩) (i := i) (by rw [List.length_set]; have : q.length = S.length := hlen; omega) (by rw [List.length_set]; exact hi) hd).ent hent) [10, 30, 40, 32] [10, 30, 32] ⟨⟨rfl, rfl⟩, rfl, trivial⟩ rfl ⟨⟨rfl, rfl, rfl, rfl, trivial⟩, ⟨rfl, rfl, rfl, rfl⟩, ⟨rfl, rfl, rfl, rfl, rfl, trivial⟩, rfl, trivial⟩ ?_
      rintro _ _ ⟨q', hp, hh, rfl⟩
      refine a_ret hT [10, 30, 32, 11] rfl rfl rfl rfl rfl rfl ⟨_, rfl, tm_pack (x := ⟨v, some m, q', ents⟩) ⟨set_old (b := q[i].b) (i := i) hx hS hi hk (by rw [← hk]; exact hp), hh, ?_, by simp⟩⟩
      have h1 := hp.map kb
      rw [List.map_set, set_same (by rw [List.getElem?_map, List.getElem?_eq_getElem hi]; rfl)] at h1
      exact h1.trans hx.e
end Go.Proofs.Ytepjnmocepkfjaa
