/- Layer 17's timers: First, Next. -/
import Derived.Test.YtepjnmocepkfjaaEi
set_option linter.unusedVariables false
set_option linter.unusedSimpArgs false
namespace Go.Proofs.Ytepjnmocepkfjaa
open V A
def LK (p q : Int × Int) : Prop := p.2 < q.2 ∨ (p.2 = q.2 ∧ p.1 < q.1)
structure IsMin (S : TS) (p : Int × Int) : Prop where
  m : p ∈ S
  l : ∀ r ∈ S, ¬ LK r p
theorem IsMin.eq {S : TS} {p p' : Int × Int} (h : IsMin S p) (h' : IsMin S p') : p = p' := by
  have h1 := h.l p' h'.m
  have h2 := h'.l p h.m
  unfold LK at h1 h2
  obtain ⟨a, b⟩ := p
  obtain ⟨c, d⟩ := p'
  simp only at h1 h2
  have : a = c := by omega
  have : b = d := by omega
  subst_vars
  rfl
theorem TX.ok.min {x : TX} {S : TS} (h : x.ok S) {e : QE} (he : x.q[0]? = some e) : IsMin S (kd e) := by
  refine ⟨h.s.mem_iff.1 (List.mem_map.2 ⟨e, List.mem_of_getElem? he, rfl⟩), fun r hr => ?_⟩
  obtain ⟨y, hy, rfl⟩ := List.mem_map.1 (h.s.mem_iff.2 hr)
  obtain ⟨i, hi, rfl⟩ := List.getElem_of_mem hy
  exact heap_min (Nat.le_refl _) h.h he i _ hi (List.getElem?_eq_getElem hi)
theorem tlenx_spec {g h : Nat} {x : TX} : FSpec Try.prog 64 [ptrA g h] (x.cs g) fun a cs => a = nA x.q.length ∧ cs = x.cs g := by
  refine a_enter hT [ptrA g 10] [10, 30, 32, 11] Try.func64 rfl rfl rfl ⟨rfl, trivial⟩ fun c => ?_
  refine a_f hT rfl rfl rfl ?_
  refine a_ret hT [10, 30, 32, 11] rfl rfl rfl rfl rfl rfl ⟨?_, rfl⟩
  show AV.v (.int .i64 ((x.q.map pB).length : Int)) 0 = .v (.int .i64 (x.q.length : Int)) 0
  rw [List.length_map]
theorem firstx_spec {g h : Nat} {x : TX} : FSpec Try.prog 49 [ptrA g h] (x.cs g) fun a cs => ((x.q = [] ∧ a = .tup [.v (kI 0) 0, .v (.bool false) 0]) ∨ ∃ e, x.q[0]? = some e ∧ a = .tup [.v (kI e.due) 0, .v (.bool true) 0]) ∧ cs = x.cs g := by
  obtain ⟨v, mo, q, ents⟩ := x
  refine FSpec.weak (R := fun a cs => ((q = [] ∧ a = .tup [.v (kI 0) 0, .v (.bool false) 0]) ∨ ∃ e, q[0]? = some e ∧ a = .tup [.v (kI e.due) 0, .v (.bool true) 0]) ∧ Ent cs (TX.cs g ⟨v, mo, q, ents⟩)) ?_ fun a cs hR => ⟨a, TX.cs g ⟨v, mo, q, ents⟩, [], Fit.refl _, hR.2, hR.1, rfl⟩
  refine a_enter hT [ptrA g 10] [10, 30, 32, 11] Try.func49 rfl rfl rfl ⟨rfl, trivial⟩ fun c => ?_
  refine a_call hT rfl rfl rfl (by kernel_rfl) (tlenx_spec (x := ⟨v, mo, q, ents⟩)) [10, 30, 32, 11] [10, 30, 32, 11] rfl rfl ?_
  rintro _ _ ⟨rfl, rfl⟩
  by_cases hq : q = []
  · subst hq
    refine a_t hT rfl rfl rfl ?_
    exact a_ret hT [10, 30, 32, 11] rfl rfl rfl rfl rfl rfl ⟨.inl ⟨rfl, rfl⟩, Ent.refl _⟩
  · have hi : 0 < q.length := List.length_pos_iff.2 hq
    refine a_f hT rfl rfl (by show ((q.length : Int) == 0) = false; simp; exact hq) ?_
    obtain ⟨r, ho, hs⟩ := ents_one hi
    have hs := hs q[0]
    rw [set_same (List.getElem?_eq_getElem hi)] at hs
    refine a_rowfact 30 rfl rfl fun hf => ?_
    rcases hf with ⟨_, hf⟩ | ⟨gr, cap, hv⟩
    · simp at hf; exact absurd hf hq
    have hv : v = .slice (some ⟨gr, 0, none⟩) (q.map pB).length cap := hv
    subst hv
    refine a_ent [32] [40, 32] _ rfl rfl ho ?_
    have ei : (q.map pB)[0]? = some (pB q[0]) := by rw [List.getElem?_map, List.getElem?_eq_getElem hi]; rfl
    refine a_rix hT 0 rfl rfl rfl rfl rfl rfl rfl (by simpa using hi) ?_
    refine a_rld hT 0 0 (pB q[0]) (.d (.v (ptrB q[0].b))) rfl rfl rfl rfl rfl rfl (by omega) ei rfl ?_
    refine a_as 12 (b := .v (ptrB q[0].b) 40) rfl rfl ?_
    exact a_ret hT [10, 30, 40, 32, 11] rfl rfl rfl rfl rfl rfl ⟨.inr ⟨q[0], List.getElem?_eq_getElem hi, rfl⟩, Ent.cons _ (Ent.cons _ (Ent.app hs (Ent.refl [mapB mo ents])))⟩
theorem tfirst_spec {g h : Nat} {S : TS} : FSpec Try.prog 49 [ptrA g h] [.ext (tmA g S)] fun a cs => ∃ S', (((S = [] ∧ a = .tup [.v (kI 0) 0, .v (.bool false) 0]) ∨ ∃ p, IsMin S p ∧ a = .tup [.v (kI p.2) 0, .v (.bool true) 0]) ∧ S' = S) ∧ cs = [.ext (tmA g S')] := by
  refine tm_spec fun x hx => ?_
  refine (firstx_spec (x := x)).mono fun a cs ⟨h1, h2⟩ => ⟨S, ⟨?_, rfl⟩, by rw [h2]; exact tm_pack hx⟩
  rcases h1 with ⟨hq, ha⟩ | ⟨e, he, ha⟩
  · left
    refine ⟨?_, ha⟩
    have := hx.s
    rw [hq] at this
    exact List.Perm.eq_nil this.symm
  · exact .inr ⟨kd e, hx.min he, ha⟩
def NextR (S : TS) (now : Int) (a : AV) (S' : TS) : Prop :=
  ((S = [] ∨ ∃ p, IsMin S p ∧ p.2 > now) ∧ S' = S ∧ a = .tup [.v (kU 0) 0, .v (.bool false) 0]) ∨ ∃ p, IsMin S p ∧ p.2 ≤ now ∧ S' = filt p.1 S ∧ a = .tup [.v (kU p.1) 0, .v (.bool true) 0]
set_option maxRecDepth 100000 in
theorem tnext_spec {g h h1 : Nat} {S : TS} {now : Int} (hS : (S.map (·.1)).Nodup) (hl : S.length < 999999) : FSpec Try.prog 33 [ptrA g h, .v (kI now) h1] [.ext (tmA g S)] fun a cs => ∃ S', NextR S now a S' ∧ cs = [.ext (tmA g S')] := by
  refine tm_spec fun x hx => ?_
  obtain ⟨v, mo, q, ents⟩ := x
  have hlen := hx.len
  have hlen : q.length = S.length := hlen
  obtain ⟨hnq, hne⟩ := hx.nd hS
  refine a_enter hT [ptrA g 10, .v (kI now) 0] [10, 30, 32, 11] Try.func33 rfl rfl rfl ⟨rfl, rfl, trivial⟩ fun c => ?_
  refine a_call hT rfl rfl rfl (by kernel_rfl) (firstx_spec (x := ⟨v, mo, q, ents⟩)) [10, 30, 32, 11] [10, 30, 32, 11] rfl rfl ?_
  rintro _ _ ⟨⟨hq, rfl⟩ | ⟨e, he, rfl⟩, rfl⟩
  · have hq : q = [] := hq
    subst hq
    have hs : S = [] := List.Perm.eq_nil hx.s.symm
    refine a_gt hT rfl rfl rfl rfl ?_
    refine a_t hT rfl rfl rfl ?_
    exact a_ret hT [10, 30, 32, 11] rfl rfl rfl rfl rfl rfl ⟨S, .inl ⟨.inl hs, rfl, rfl⟩, tm_pack hx⟩
  · have he : q[0]? = some e := he
    have hmin := hx.min he
    refine a_gf hT rfl rfl rfl rfl ?_
    refine a_if hT rfl rfl (fun hb => ?_) (fun hb => ?_)
    · have hb' : e.due > now := of_decide_eq_true hb
      exact a_ret hT [10, 30, 32, 11] rfl rfl rfl rfl rfl rfl ⟨S, .inl ⟨.inr ⟨kd e, hmin, hb'⟩, rfl, rfl⟩, tm_pack hx⟩
    · have hb' : ¬ e.due > now := of_decide_eq_false hb
      have hi := (List.getElem?_eq_some_iff.1 he).1
      obtain ⟨n, hn⟩ : ∃ n, q.length = n + 1 := ⟨q.length - 1, by omega⟩
      refine a_callF hT rfl rfl rfl (by kernel_rfl) (heap_pop (g := g) (v := v) (mo := mo) (q := q) (n := n) (e := e) hn (by omega) hx.h he) [10, 30, 32] [10, 30, 32, 40] ⟨⟨rfl, rfl⟩, trivial⟩ rfl ⟨⟨rfl, rfl, rfl, rfl, trivial⟩, ⟨rfl, rfl, rfl, rfl⟩, rfl, trivial⟩ ?_
      rintro _ _ ⟨v', q', hp, hh, rfl, rfl⟩
      cases mo with
      | none => have hq : q = [] := hx.n rfl; subst hq; simp at hi
      | some m =>
        refine a_run hT 2 rfl rfl ?_
        refine a_as 8 (b := .v (ptrB e.b) 40) rfl rfl ?_
        refine a_draw hT [] true [(0, false), (4, false), (1, false), (5, false), (2, false), (6, false), (3, false), (7, false), (8, true)] rfl rfl (by kernel_rfl) (by kernel_rfl) rfl ?_
        refine a_mdelG hT (kv := kU) (va := bV) ents e.key rfl rfl rfl rfl mtB kU_ok rfl rfl rfl rfl rfl ?_
        have hp' := (List.perm_append_comm (l₁ := [e]) (l₂ := q')).trans hp
        refine a_ret hT [10, 30, 32, 11] rfl rfl rfl rfl rfl rfl ⟨filt e.key S, .inr ⟨kd e, hmin, by show e.due ≤ now; omega, rfl, rfl⟩, tm_pack (x := ⟨v', some m, q', adel ents e.key⟩) ⟨?_, hh, ?_, by simp⟩⟩
        · exact (filt_one (hx.s.symm.trans (hp'.symm.map kd)) hS).1.symm
        · show (q'.map kb).Perm (adel ents e.key)
          rw [adel_filt hne]
          exact (filt_one (hx.e.symm.trans (hp'.symm.map kb)) hne).1.symm
end Go.Proofs.Ytepjnmocepkfjaa
