/- Layer 17's queue in memory: Len, Less, Swap. -/
import Derived.Test.YtepjnmocepkfjaaTe
import Derived.Test.YtepjnmocepkfjaaTd
set_option linter.unusedVariables false
set_option linter.unusedSimpArgs false
namespace Go.Proofs.Ytepjnmocepkfjaa
open V A
structure QE where
  b : Nat
  key : Int
  due : Int
def ltE (x y : QE) : Bool := if x.due ≠ y.due then decide (x.due < y.due) else decide (x.key < y.key)
def ptrB (b : Nat) : Value := .pointer (some ⟨b, 0, none⟩)
def pB (e : QE) : List A.Dat := [.v (ptrB e.b)]
def rowP (v : Value) (q : List QE) : Chunk := .row v 99 1 (q.map pB)
def entC (i : Nat) (e : QE) : Chunk := .blk e.b 102 [.v (kU e.key) 0, .v (kI e.due) 0, .v (kI i) 0]
def entsL (q : List QE) : List Chunk := q.mapIdx entC
def entsC (q : List QE) : Chunk := .ext (listA (entsL q))
theorem entsL_get (q : List QE) (i : Nat) : (entsL q)[i]? = q[i]?.map (entC i) := by unfold entsL; rw [List.getElem?_mapIdx]
theorem entsL_len (q : List QE) : (entsL q).length = q.length := by unfold entsL; rw [List.length_mapIdx]
theorem perm_set {α : Type} : ∀ (l : List α) (i : Nat) (a : α), i < l.length → (l.set i a).Perm (a :: l.eraseIdx i)
  | [], i, a, h => by simp at h
  | x :: l, 0, a, h => by simp
  | x :: l, i + 1, a, h => by
    rw [List.set_cons_succ, List.eraseIdx_cons_succ]
    exact (List.Perm.cons x (perm_set l i a (by simpa using h))).trans (List.Perm.swap a x _)
/-- Two of many. -/
theorem perm_two {α : Type} : ∀ (l : List α) (i j : Nat), i < l.length → j < l.length → i ≠ j → ∃ r, ∀ a b, ((l.set i a).set j b).Perm (a :: b :: r)
  | [], i, j, h, _, _ => by simp at h
  | x :: l, 0, 0, _, _, h => by simp at h
  | x :: l, 0, j + 1, h1, h2, h3 => by
    have hj : j < l.length := by simpa using h2
    refine ⟨l.eraseIdx j, fun a b => ?_⟩
    rw [List.set_cons_zero, List.set_cons_succ]
    refine List.Perm.cons a ?_
    exact perm_set l j b hj
  | x :: l, i + 1, 0, h1, h2, h3 => by
    have hi : i < l.length := by simpa using h1
    refine ⟨l.eraseIdx i, fun a b => ?_⟩
    rw [List.set_cons_succ, List.set_cons_zero]
    exact (List.Perm.cons b (perm_set l i a hi)).trans (List.Perm.swap a b _)
  | x :: l, i + 1, j + 1, h1, h2, h3 => by
    obtain ⟨r, hr⟩ := perm_two l i j (by simpa using h1) (by simpa using h2) (by omega)
    refine ⟨x :: r, fun a b => ?_⟩
    rw [List.set_cons_succ, List.set_cons_succ]
    exact ((List.Perm.cons x (hr a b)).trans (List.Perm.swap a x _)).trans (List.Perm.cons a (List.Perm.swap b x _))
theorem set_two_same {α : Type} {l : List α} {i j : Nat} {a b : α} (h1 : l[i]? = some a) (h2 : l[j]? = some b) : (l.set i a).set j b = l := by
  apply List.ext_getElem?
  intro k
  have hi := (List.getElem?_eq_some_iff.1 h1).1
  have hj := (List.getElem?_eq_some_iff.1 h2).1
  rw [List.getElem?_set, List.getElem?_set, List.length_set]
  split
  · rename_i e; subst e; rw [h2]
  · split
    · rename_i e; subst e; rw [h1]
    · rfl
/-- Two entries are taken out. -/
theorem ents_two {q : List QE} {i j : Nat} (hi : i < q.length) (hj : j < q.length) (hne : i ≠ j) : ∃ r, Ent [entsC q] [entC i q[i], entC j q[j], .ext (listA r)] ∧ ∀ a b, Ent [entC i a, entC j b, .ext (listA r)] [entsC ((q.set i a).set j b)] := by
  obtain ⟨r, hr⟩ := perm_two (entsL q) i j (by rw [entsL_len]; exact hi) (by rw [entsL_len]; exact hj) hne
  refine ⟨r, ?_, fun a b => ?_⟩
  · have h := hr (entC i q[i]) (entC j q[j])
    rw [set_two_same (by rw [entsL_get, List.getElem?_eq_getElem hi]; rfl) (by rw [entsL_get, List.getElem?_eq_getElem hj]; rfl)] at h
    exact (ent_open _).trans ((Ent.perm h).trans (Ent.cons _ (Ent.cons _ (ent_shut _))))
  · have h := (hr (entC i a) (entC j b)).symm
    have e : ((entsL q).set i (entC i a)).set j (entC j b) = entsL ((q.set i a).set j b) := by
      apply List.ext_getElem?
      intro k
      rw [entsL_get, List.getElem?_set, List.getElem?_set, List.getElem?_set, List.getElem?_set, entsL_get]
      simp only [List.length_set, entsL_len]
      split
      · rename_i e; subst e; rfl
      · split
        · rename_i e; subst e; rfl
        · rfl
    rw [e] at h
    exact (Ent.cons _ (Ent.cons _ (ent_open _))).trans ((Ent.perm h).trans (ent_shut _))
def nA (n : Nat) : AV := .v (.int .i64 n) 0
theorem qlen_spec {v : Value} {h : Nat} {q : List QE} : FSpec Try.prog 104 [.row v h] [rowP v q] fun a cs => a = nA q.length ∧ cs = [rowP v q] := by
  refine a_enter hT [.row v 30] [30] Try.func104 rfl rfl rfl ⟨rfl, trivial⟩ fun c => ?_
  refine a_ret hT [30] rfl rfl rfl rfl rfl rfl ⟨?_, rfl⟩
  show AV.v (.int .i64 ((q.map pB).length : Int)) 0 = .v (.int .i64 (q.length : Int)) 0
  rw [List.length_map]
set_option maxRecDepth 100000 in
theorem less_spec {v : Value} {h h1 h2 : Nat} {q : List QE} {i j : Nat} (hi : i < q.length) (hj : j < q.length) (hne : i ≠ j) : FSpec Try.prog 105 [.row v h, .v (.int .i64 i) h1, .v (.int .i64 j) h2] [rowP v q, entsC q] fun a cs => a = .v (.bool (ltE q[i] q[j])) 0 ∧ cs = [rowP v q, entsC q] := by
  obtain ⟨r, ho, hs⟩ := ents_two hi hj hne
  have hs := hs q[i] q[j]
  rw [set_two_same (List.getElem?_eq_getElem hi) (List.getElem?_eq_getElem hj)] at hs
  refine FSpec.weak (R := fun a cs => a = .v (.bool (ltE q[i] q[j])) 0 ∧ Ent cs [rowP v q, entsC q]) ?_ fun a cs ⟨h1, h2⟩ => ⟨a, [rowP v q, entsC q], [], Fit.refl _, h2, h1, rfl⟩
  refine a_enter hT [.row v 30, nA i, nA j] [30, 32] Try.func105 rfl rfl rfl ⟨rfl, rfl, rfl, trivial⟩ fun c => ?_
  refine a_rowfact 30 rfl rfl fun hf => ?_
  rcases hf with ⟨_, hf⟩ | ⟨gr, cap, rfl⟩
  · simp at hf; subst hf; simp at hi
  refine a_ent [32] [40, 41, 32] _ rfl rfl ho ?_
  have ei : (q.map pB)[i]? = some (pB q[i]) := by simp [hi]
  have ej : (q.map pB)[j]? = some (pB q[j]) := by simp [hj]
  have hil : i < (q.map pB).length := by simpa using hi
  have hjl : j < (q.map pB).length := by simpa using hj
  refine a_draw hT [] false [(0, false), (1, false), (7, false), (8, false), (2, false), (9, false), (3, false), (10, false), (4, false), (11, false), (5, false), (12, false), (6, false), (13, false), (14, false)] rfl rfl (by kernel_rfl) (by kernel_rfl) rfl ?_
  refine a_rix hT i rfl rfl rfl rfl rfl rfl rfl hil ?_
  refine a_rix hT j rfl rfl rfl rfl rfl rfl rfl hjl ?_
  refine a_rldP hT i 0 (pB q[i]) (.d (.v (ptrB q[i].b))) rfl rfl rfl rfl rfl rfl (by omega) ei rfl ?_
  refine a_as 10 (b := .v (ptrB q[i].b) 40) rfl rfl ?_
  refine a_rldP hT j 0 (pB q[j]) (.d (.v (ptrB q[j].b))) rfl rfl rfl rfl rfl rfl (by omega) ej rfl ?_
  refine a_as 17 (b := .v (ptrB q[j].b) 41) rfl rfl ?_
  refine a_if hT rfl rfl (fun hd => ?_) (fun hd => ?_)
  · have hd' : q[i].due ≠ q[j].due := by simpa using hd
    refine a_draw hT [] false [(0, false), (1, false), (7, false), (8, false), (2, false), (9, false), (3, false), (10, false), (4, false), (11, false), (5, false), (12, false), (6, false), (13, false), (14, false), (15, false)] rfl rfl (by kernel_rfl) (by kernel_rfl) rfl ?_
    refine a_rix hT i rfl rfl rfl rfl rfl rfl rfl hil ?_
    refine a_rix hT j rfl rfl rfl rfl rfl rfl rfl hjl ?_
    refine a_rldP hT i 0 (pB q[i]) (.d (.v (ptrB q[i].b))) rfl rfl rfl rfl rfl rfl (by omega) ei rfl ?_
    refine a_as 25 (b := .v (ptrB q[i].b) 40) rfl rfl ?_
    refine a_rldP hT j 0 (pB q[j]) (.d (.v (ptrB q[j].b))) rfl rfl rfl rfl rfl rfl (by omega) ej rfl ?_
    refine a_as 32 (b := .v (ptrB q[j].b) 41) rfl rfl ?_
    refine a_ret hT [30, 40, 41, 32] rfl rfl rfl rfl rfl rfl ⟨?_, Ent.cons _ hs⟩
    unfold ltE
    rw [if_pos hd']
    rfl
  · have hd' : ¬ q[i].due ≠ q[j].due := by simpa using hd
    refine a_draw hT [] false [(0, false), (1, false), (7, false), (8, false), (2, false), (9, false), (3, false), (10, false), (4, false), (11, false), (5, false), (12, false), (6, false), (13, false), (14, false), (15, false)] rfl rfl (by kernel_rfl) (by kernel_rfl) rfl ?_
    refine a_rix hT i rfl rfl rfl rfl rfl rfl rfl hil ?_
    refine a_rix hT j rfl rfl rfl rfl rfl rfl rfl hjl ?_
    refine a_rldP hT i 0 (pB q[i]) (.d (.v (ptrB q[i].b))) rfl rfl rfl rfl rfl rfl (by omega) ei rfl ?_
    refine a_as 40 (b := .v (ptrB q[i].b) 40) rfl rfl ?_
    refine a_rldP hT j 0 (pB q[j]) (.d (.v (ptrB q[j].b))) rfl rfl rfl rfl rfl rfl (by omega) ej rfl ?_
    refine a_as 47 (b := .v (ptrB q[j].b) 41) rfl rfl ?_
    refine a_ret hT [30, 40, 41, 32] rfl rfl rfl rfl rfl rfl ⟨?_, Ent.cons _ hs⟩
    unfold ltE
    rw [if_neg hd']
    rfl
def swapQ (q : List QE) (i j : Nat) (a b : QE) : List QE := (q.set i b).set j a
set_option maxRecDepth 100000 in
theorem swap_spec {v : Value} {h h1 h2 : Nat} {q : List QE} {i j : Nat} (hi : i < q.length) (hj : j < q.length) (hne : i ≠ j) : FSpec Try.prog 106 [.row v h, .v (.int .i64 i) h1, .v (.int .i64 j) h2] [rowP v q, entsC q] fun _ cs => cs = [rowP v (swapQ q i j q[i] q[j]), entsC (swapQ q i j q[i] q[j])] := by
  obtain ⟨r, ho, hs⟩ := ents_two hi hj hne
  have hs := hs q[j] q[i]
  refine FSpec.weak (R := fun _ cs => Ent cs [rowP v (swapQ q i j q[i] q[j]), entsC (swapQ q i j q[i] q[j])]) ?_ fun a cs h2 => ⟨a, [rowP v (swapQ q i j q[i] q[j]), entsC (swapQ q i j q[i] q[j])], [], Fit.refl _, h2, rfl⟩
  refine a_enter hT [.row v 30, nA i, nA j] [30, 32] Try.func106 rfl rfl rfl ⟨rfl, rfl, rfl, trivial⟩ fun c => ?_
  refine a_rowfact 30 rfl rfl fun hf => ?_
  rcases hf with ⟨_, hf⟩ | ⟨gr, cap, rfl⟩
  · simp at hf; subst hf; simp at hi
  refine a_ent [32] [40, 41, 32] _ rfl rfl ho ?_
  have ei : (q.map pB)[i]? = some (pB q[i]) := by simp [hi]
  have ej : (q.map pB)[j]? = some (pB q[j]) := by simp [hj]
  have hil : i < (q.map pB).length := by simpa using hi
  have hjl : j < (q.map pB).length := by simpa using hj
  have hrow : ((q.map pB).set i (pB q[j])).set j (pB q[i]) = (swapQ q i j q[i] q[j]).map pB := by unfold swapQ; rw [List.map_set, List.map_set]
  have hlen : (swapQ q i j q[i] q[j]).length = q.length := by unfold swapQ; simp
  have si : ((swapQ q i j q[i] q[j]).map pB)[i]? = some (pB q[j]) := by rw [← hrow, List.getElem?_set_ne (Ne.symm hne), List.getElem?_set_self hil]
  have sj : ((swapQ q i j q[i] q[j]).map pB)[j]? = some (pB q[i]) := by rw [← hrow, List.getElem?_set_self (by simpa using hjl)]
  refine a_treeN hT [0, 1, 2] (fun _ : Unit => [.row (.slice (some ⟨gr, 0, none⟩) (q.map pB).length cap) 30, nA i, nA j]) (fun _ => [(30, rowP (.slice (some ⟨gr, 0, none⟩) (q.map pB).length cap) (swapQ q i j q[i] q[j])), (40, entC i q[i]), (41, entC j q[j]), (32, .ext (listA r))]) (fun _ => True) [30] 16
    [(0, false), (1, false), (2, false), (3, false), (4, false), (5, false), (8, false), (9, false), (6, false), (10, false)] rfl rfl (by kernel_rfl) (by kernel_rfl) rfl ?_ ?_
  · refine a_rix hT j rfl rfl rfl rfl rfl rfl rfl hjl ?_
    refine a_rix hT i rfl rfl rfl rfl rfl rfl rfl hil ?_
    refine a_alt hT [([(7, true), (11, true), (12, false), (13, true), (14, false), (15, true)], true), ([(11, true), (7, true), (12, false), (13, true), (14, false), (15, true)], true)] rfl rfl (by kernel_rfl) ⟨?_, ?_, trivial⟩
    · refine a_rld hT j 0 (pB q[j]) (.d (.v (ptrB q[j].b))) rfl rfl rfl rfl rfl rfl (by omega) ej rfl ?_
      refine a_rld hT i 0 (pB q[i]) (.d (.v (ptrB q[i].b))) rfl rfl rfl rfl rfl rfl (by omega) ei rfl ?_
      refine a_rix hT i rfl rfl rfl rfl rfl rfl rfl hil ?_
      refine a_rst hT i 0 (pB q[i]) (.v (ptrB q[j].b)) rfl rfl rfl rfl rfl rfl rfl (by omega) ei (by omega) rfl ?_
      refine a_rix hT j rfl rfl rfl rfl rfl rfl rfl hjl ?_
      refine a_rst hT j 0 (pB q[j]) (.v (ptrB q[i].b)) rfl rfl rfl rfl rfl rfl rfl (by omega) (by rw [List.getElem?_set_ne hne]; exact ej) (by omega) rfl ?_
      refine a_next hT () [30, 40, 41, 32] rfl rfl trivial ⟨rfl, rfl, rfl, trivial⟩ rfl ⟨⟨rfl, rfl, rfl, hrow⟩, ⟨rfl, rfl, rfl, rfl, rfl, trivial⟩, ⟨rfl, rfl, rfl, rfl, rfl, trivial⟩, rfl, trivial⟩
    · refine a_rld hT i 0 (pB q[i]) (.d (.v (ptrB q[i].b))) rfl rfl rfl rfl rfl rfl (by omega) ei rfl ?_
      refine a_rld hT j 0 (pB q[j]) (.d (.v (ptrB q[j].b))) rfl rfl rfl rfl rfl rfl (by omega) ej rfl ?_
      refine a_rix hT i rfl rfl rfl rfl rfl rfl rfl hil ?_
      refine a_rst hT i 0 (pB q[i]) (.v (ptrB q[j].b)) rfl rfl rfl rfl rfl rfl rfl (by omega) ei (by omega) rfl ?_
      refine a_rix hT j rfl rfl rfl rfl rfl rfl rfl hjl ?_
      refine a_rst hT j 0 (pB q[j]) (.v (ptrB q[i].b)) rfl rfl rfl rfl rfl rfl rfl (by omega) (by rw [List.getElem?_set_ne hne]; exact ej) (by omega) rfl ?_
      refine a_next hT () [30, 40, 41, 32] rfl rfl trivial ⟨rfl, rfl, rfl, trivial⟩ rfl ⟨⟨rfl, rfl, rfl, hrow⟩, ⟨rfl, rfl, rfl, rfl, rfl, trivial⟩, ⟨rfl, rfl, rfl, rfl, rfl, trivial⟩, rfl, trivial⟩
  · intro _ _
    refine a_draw hT [40, 41] false [(0, false), (1, false), (4, false), (5, false), (8, false), (9, false), (2, false), (6, false), (3, false), (7, false), (10, false), (11, false), (12, true), (13, false), (14, false), (15, true)] rfl rfl (by kernel_rfl) (by kernel_rfl) rfl ?_
    refine a_rix hT i rfl rfl rfl rfl rfl rfl rfl hil ?_
    refine a_rix hT j rfl rfl rfl rfl rfl rfl rfl hjl ?_
    refine a_rldP hT i 0 (pB q[j]) (.d (.v (ptrB q[j].b))) rfl rfl rfl rfl rfl rfl (by omega) si rfl ?_
    refine a_as 23 (b := .v (ptrB q[j].b) 41) rfl rfl ?_
    refine a_rldP hT j 0 (pB q[i]) (.d (.v (ptrB q[i].b))) rfl rfl rfl rfl rfl rfl (by omega) sj rfl ?_
    refine a_as 27 (b := .v (ptrB q[i].b) 40) rfl rfl ?_
    refine a_end hT [30, 41, 40, 32] rfl rfl rfl rfl rfl rfl (Ent.cons _ hs)
/-- One entry is taken out. -/
theorem ents_one {q : List QE} {i : Nat} (hi : i < q.length) : ∃ r, Ent [entsC q] [entC i q[i], .ext (listA r)] ∧ ∀ a, Ent [entC i a, .ext (listA r)] [entsC (q.set i a)] := by
  have hl : i < (entsL q).length := by rw [entsL_len]; exact hi
  refine ⟨(entsL q).eraseIdx i, ?_, fun a => ?_⟩
  · have h := perm_set (entsL q) i (entC i q[i]) hl
    have e : (entsL q).set i (entC i q[i]) = entsL q := by
      apply List.ext_getElem?
      intro k
      rw [List.getElem?_set]
      split
      · rename_i e; subst e; rw [entsL_get, List.getElem?_eq_getElem hi]; rfl
      · rfl
    rw [e] at h
    exact (ent_open _).trans ((Ent.perm h).trans (Ent.cons _ (ent_shut _)))
  · have h := (perm_set (entsL q) i (entC i a) hl).symm
    have e : (entsL q).set i (entC i a) = entsL (q.set i a) := by
      apply List.ext_getElem?
      intro k
      rw [entsL_get, List.getElem?_set, List.getElem?_set, entsL_get, entsL_len]
      split
      · rename_i e; subst e; rfl
      · rfl
    rw [e] at h
    exact (Ent.cons _ (ent_open _)).trans ((Ent.perm h).trans (ent_shut _))
theorem set_same {α : Type} {l : List α} {i : Nat} {a : α} (h : l[i]? = some a) : l.set i a = l := by
  apply List.ext_getElem?
  intro k
  rw [List.getElem?_set]
  split
  · rename_i e; subst e; rw [if_pos (List.getElem?_eq_some_iff.1 h).1, h]
  · rfl
set_option maxRecDepth 100000 in
theorem swap_same {v : Value} {h h1 h2 : Nat} {q : List QE} {i : Nat} (hi : i < q.length) : FSpec Try.prog 106 [.row v h, .v (.int .i64 i) h1, .v (.int .i64 i) h2] [rowP v q, entsC q] fun _ cs => cs = [rowP v q, entsC q] := by
  obtain ⟨r, ho, hs⟩ := ents_one hi
  have hs := hs q[i]
  rw [set_same (List.getElem?_eq_getElem hi)] at hs
  refine FSpec.weak (R := fun _ cs => Ent cs [rowP v q, entsC q]) ?_ fun a cs h2 => ⟨a, [rowP v q, entsC q], [], Fit.refl _, h2, rfl⟩
  refine a_enter hT [.row v 30, nA i, nA i] [30, 32] Try.func106 rfl rfl rfl ⟨rfl, rfl, rfl, trivial⟩ fun c => ?_
  refine a_rowfact 30 rfl rfl fun hf => ?_
  rcases hf with ⟨_, hf⟩ | ⟨gr, cap, rfl⟩
  · simp at hf; subst hf; simp at hi
  refine a_ent [32] [40, 32] _ rfl rfl ho ?_
  have ei : (q.map pB)[i]? = some (pB q[i]) := by simp [hi]
  have hil : i < (q.map pB).length := by simpa using hi
  have hrow : ((q.map pB).set i (pB q[i])).set i (pB q[i]) = q.map pB := by rw [set_same ei, set_same ei]
  refine a_treeN hT [0, 1, 2] (fun _ : Unit => [.row (.slice (some ⟨gr, 0, none⟩) (q.map pB).length cap) 30, nA i, nA i]) (fun _ => [(30, rowP (.slice (some ⟨gr, 0, none⟩) (q.map pB).length cap) q), (40, entC i q[i]), (32, .ext (listA r))]) (fun _ => True) [30] 16
    [(0, false), (1, false), (2, false), (3, false), (4, false), (5, false), (8, false), (9, false), (6, false), (10, false)] rfl rfl (by kernel_rfl) (by kernel_rfl) rfl ?_ ?_
  · refine a_rix hT i rfl rfl rfl rfl rfl rfl rfl hil ?_
    refine a_rix hT i rfl rfl rfl rfl rfl rfl rfl hil ?_
    refine a_alt hT [([(7, true), (11, true), (12, false), (13, true), (14, false), (15, true)], true), ([(11, true), (7, true), (12, false), (13, true), (14, false), (15, true)], true)] rfl rfl (by kernel_rfl) ⟨?_, ?_, trivial⟩
    · refine a_rld hT i 0 (pB q[i]) (.d (.v (ptrB q[i].b))) rfl rfl rfl rfl rfl rfl (by omega) ei rfl ?_
      refine a_rld hT i 0 (pB q[i]) (.d (.v (ptrB q[i].b))) rfl rfl rfl rfl rfl rfl (by omega) ei rfl ?_
      refine a_rix hT i rfl rfl rfl rfl rfl rfl rfl hil ?_
      refine a_rst hT i 0 (pB q[i]) (.v (ptrB q[i].b)) rfl rfl rfl rfl rfl rfl rfl (by omega) ei (by omega) rfl ?_
      refine a_rix hT i rfl rfl rfl rfl rfl rfl rfl hil ?_
      refine a_rst hT i 0 (pB q[i]) (.v (ptrB q[i].b)) rfl rfl rfl rfl rfl rfl rfl (by omega) (by rw [List.getElem?_set_self hil]; rfl) (by omega) rfl ?_
      refine a_next hT () [30, 40, 32] rfl rfl trivial ⟨rfl, rfl, rfl, trivial⟩ rfl ⟨⟨rfl, rfl, rfl, hrow⟩, ⟨rfl, rfl, rfl, rfl, rfl, trivial⟩, rfl, trivial⟩
    · refine a_rld hT i 0 (pB q[i]) (.d (.v (ptrB q[i].b))) rfl rfl rfl rfl rfl rfl (by omega) ei rfl ?_
      refine a_rld hT i 0 (pB q[i]) (.d (.v (ptrB q[i].b))) rfl rfl rfl rfl rfl rfl (by omega) ei rfl ?_
      refine a_rix hT i rfl rfl rfl rfl rfl rfl rfl hil ?_
      refine a_rst hT i 0 (pB q[i]) (.v (ptrB q[i].b)) rfl rfl rfl rfl rfl rfl rfl (by omega) ei (by omega) rfl ?_
      refine a_rix hT i rfl rfl rfl rfl rfl rfl rfl hil ?_
      refine a_rst hT i 0 (pB q[i]) (.v (ptrB q[i].b)) rfl rfl rfl rfl rfl rfl rfl (by omega) (by rw [List.getElem?_set_self hil]; rfl) (by omega) rfl ?_
      refine a_next hT () [30, 40, 32] rfl rfl trivial ⟨rfl, rfl, rfl, trivial⟩ rfl ⟨⟨rfl, rfl, rfl, hrow⟩, ⟨rfl, rfl, rfl, rfl, rfl, trivial⟩, rfl, trivial⟩
  · intro _ _
    refine a_draw hT [40] false [(0, false), (1, false), (4, false), (5, false), (8, false), (9, false), (2, false), (6, false), (3, false), (7, false), (10, false), (11, false), (12, true), (13, false), (14, false), (15, true)] rfl rfl (by kernel_rfl) (by kernel_rfl) rfl ?_
    refine a_rix hT i rfl rfl rfl rfl rfl rfl rfl hil ?_
    refine a_rix hT i rfl rfl rfl rfl rfl rfl rfl hil ?_
    refine a_rldP hT i 0 (pB q[i]) (.d (.v (ptrB q[i].b))) rfl rfl rfl rfl rfl rfl (by omega) ei rfl ?_
    refine a_as 23 (b := .v (ptrB q[i].b) 40) rfl rfl ?_
    refine a_rldP hT i 0 (pB q[i]) (.d (.v (ptrB q[i].b))) rfl rfl rfl rfl rfl rfl (by omega) ei rfl ?_
    refine a_as 27 (b := .v (ptrB q[i].b) 40) rfl rfl ?_
    refine a_end hT [30, 40, 32] rfl rfl rfl rfl rfl rfl (Ent.cons _ hs)
end Go.Proofs.Ytepjnmocepkfjaa
