/- Data, values and memory as a walk knows them: frozen data, known values, blocks and rows of one's own. It holds of any program. -/
import Derived.Test.YtepjnmocepkfjaaP
set_option linter.unusedVariables false
set_option linter.unusedSimpArgs false
namespace Go.Proofs.Ytepjnmocepkfjaa.A
open V

/-! ### Frozen data -/
inductive Dat where
  | v (x : Value)
  | sl (k : Nat) (es : List (List Dat))
  | ifc (t : TypeId) (ag : Bool) (ds : List Dat)
  | p (ds : List Dat)
mutual
/-- In world w the value is the datum; what it leads to lies outside M. -/
def DRep (M : Nat → Prop) (w : World) : Dat → Value → Prop
  | .v u, x => x = u ∧ u.oneCell' = true
  | .sl k es, x => ∃ A c, x = .slice A es.length c ∧ es.length ≤ c ∧ (∀ e ∈ es, e.length = k) ∧ (es ≠ [] → ∃ ad, A = some ad ∧ ¬ M ad.block ∧ ad.block < w.heap.size ∧ SRep M w es ad 0)
  | .ifc t ag ds, x => ∃ u : Value, x = .iface t u ∧ (ag = true → u = .agg u.cells) ∧ (ag = false → u.oneCell' = true) ∧ VRep M w ds u.cells.toList
  | .p ds, x => ∃ ad, x = .pointer (some ad) ∧ ¬ M ad.block ∧ ad.block < w.heap.size ∧ LRep M w ds ad 0
/-- The cells from a + i on. -/
def LRep (M : Nat → Prop) (w : World) : List Dat → Addr → Nat → Prop
  | [], _, _ => True
  | d :: ds, ad, i => (∃ x, w.cell? (ad.add i) = some x ∧ DRep M w d x) ∧ LRep M w ds ad (i + 1)
/-- Elements, one behind the other. -/
def SRep (M : Nat → Prop) (w : World) : List (List Dat) → Addr → Nat → Prop
  | [], _, _ => True
  | e :: es, ad, i => LRep M w e ad i ∧ SRep M w es ad (i + e.length)
/-- The cells of a value. -/
def VRep (M : Nat → Prop) (w : World) : List Dat → List Value → Prop
  | [], xs => xs = []
  | d :: ds, xs => ∃ x r, xs = x :: r ∧ DRep M w d x ∧ VRep M w ds r
end
mutual
theorem DRep.ev {M M' N : Nat → Prop} {w w' : World} (he : Ev N w w') (hm : ∀ b, b < w.heap.size → N b ∨ M' b → M b) : ∀ {d : Dat} {x : Value}, DRep M w d x → DRep M' w' d x
  | .v u, x, h => by unfold DRep at h ⊢; exact h
  | .sl k es, x, h => by
    unfold DRep at h ⊢
    obtain ⟨A, c, e, hc, hk, hr⟩ := h
    refine ⟨A, c, e, hc, hk, fun hn => ?_⟩
    obtain ⟨ad, ha, hM, hlt, hL⟩ := hr hn
    exact ⟨ad, ha, fun h' => hM (hm _ hlt (.inr h')), Nat.lt_of_lt_of_le hlt he.size, SRep.ev he hm (fun h' => hM (hm _ hlt (.inl h'))) hL⟩
  | .ifc t ag ds, x, h => by
    unfold DRep at h ⊢
    obtain ⟨u, e, h1, h2, h3⟩ := h
    exact ⟨u, e, h1, h2, VRep.ev he hm h3⟩
  | .p ds, x, h => by
    unfold DRep at h ⊢
    obtain ⟨ad, e, hM, hlt, hL⟩ := h
    exact ⟨ad, e, fun h' => hM (hm _ hlt (.inr h')), Nat.lt_of_lt_of_le hlt he.size, LRep.ev he hm (fun h' => hM (hm _ hlt (.inl h'))) hL⟩
theorem LRep.ev {M M' N : Nat → Prop} {w w' : World} (he : Ev N w w') (hm : ∀ b, b < w.heap.size → N b ∨ M' b → M b) : ∀ {ds : List Dat} {ad : Addr} {i : Nat}, ¬ N ad.block → LRep M w ds ad i → LRep M' w' ds ad i
  | [], _, _, _, _ => by unfold LRep; trivial
  | d :: ds, ad, i, hN, h => by
    unfold LRep at h ⊢
    obtain ⟨⟨x, hc, hx⟩, h2⟩ := h
    exact ⟨⟨x, he.cell hc (by rwa [add_block]), DRep.ev he hm hx⟩, LRep.ev he hm hN h2⟩
theorem SRep.ev {M M' N : Nat → Prop} {w w' : World} (he : Ev N w w') (hm : ∀ b, b < w.heap.size → N b ∨ M' b → M b) : ∀ {es : List (List Dat)} {ad : Addr} {i : Nat}, ¬ N ad.block → SRep M w es ad i → SRep M' w' es ad i
  | [], _, _, _, _ => by unfold SRep; trivial
  | e :: es, ad, i, hN, h => by
    unfold SRep at h ⊢
    exact ⟨LRep.ev he hm hN h.1, SRep.ev he hm hN h.2⟩
theorem VRep.ev {M M' N : Nat → Prop} {w w' : World} (he : Ev N w w') (hm : ∀ b, b < w.heap.size → N b ∨ M' b → M b) : ∀ {ds : List Dat} {xs : List Value}, VRep M w ds xs → VRep M' w' ds xs
  | [], xs, h => by unfold VRep at h ⊢; exact h
  | d :: ds, xs, h => by
    unfold VRep at h ⊢
    obtain ⟨x, r, e, hx, h2⟩ := h
    exact ⟨x, r, e, DRep.ev he hm hx, VRep.ev he hm h2⟩
end
theorem LRep.get {M : Nat → Prop} {w : World} {ad : Addr} : ∀ {ds : List Dat} {i : Nat}, LRep M w ds ad i → ∀ (j : Nat) (d : Dat), ds[j]? = some d → ∃ x, w.cell? (ad.add (i + j)) = some x ∧ DRep M w d x
  | [], _, _, j, d, h => by simp at h
  | d :: ds, i, hr, 0, d', h => by unfold LRep at hr; simp at h; subst h; simpa using hr.1
  | d :: ds, i, hr, j + 1, d', h => by
    unfold LRep at hr
    have := hr.2.get j d' (by simpa using h)
    simpa [Nat.add_assoc, Nat.add_comm 1 j] using this
theorem LRep.mk {M : Nat → Prop} {w : World} {ad : Addr} : ∀ {ds : List Dat} {i : Nat}, (∀ (j : Nat) (d : Dat), ds[j]? = some d → ∃ x, w.cell? (ad.add (i + j)) = some x ∧ DRep M w d x) → LRep M w ds ad i
  | [], _, _ => by unfold LRep; trivial
  | d :: ds, i, hr => by
    unfold LRep
    refine ⟨by have := hr 0 d rfl; rwa [Nat.add_zero] at this, LRep.mk fun j d' h => ?_⟩
    have := hr (j + 1) d' (by simpa using h)
    simpa [Nat.add_assoc, Nat.add_comm 1 j] using this
theorem SRep.flat {M : Nat → Prop} {w : World} {ad : Addr} : ∀ {es : List (List Dat)} {i : Nat}, SRep M w es ad i ↔ LRep M w es.flatten ad i
  | [], i => by unfold SRep; simp; unfold LRep; trivial
  | e :: es, i => by
    unfold SRep
    rw [List.flatten_cons, SRep.flat]
    constructor
    · rintro ⟨h1, h2⟩
      refine LRep.mk fun j d h => ?_
      by_cases hj : j < e.length
      · rw [List.getElem?_append_left hj] at h; exact h1.get j d h
      · rw [List.getElem?_append_right (by omega)] at h
        have := h2.get _ d h
        rwa [show i + e.length + (j - e.length) = i + j by omega] at this
    · intro h0
      refine ⟨LRep.mk fun j d h => ?_, LRep.mk fun j d h => ?_⟩
      · exact h0.get j d (by rw [List.getElem?_append_left (List.getElem?_eq_some_iff.1 h).1]; exact h)
      · have := h0.get (e.length + j) d (by rw [List.getElem?_append_right (by omega)]; simpa using h)
        rwa [← Nat.add_assoc] at this
theorem VRep.len {M : Nat → Prop} {w : World} : ∀ {ds : List Dat} {xs : List Value}, VRep M w ds xs → xs.length = ds.length
  | [], xs, h => by unfold VRep at h; simp [h]
  | d :: ds, xs, h => by unfold VRep at h; obtain ⟨x, r, rfl, _, h2⟩ := h; simp [h2.len]
theorem VRep.get {M : Nat → Prop} {w : World} : ∀ {ds : List Dat} {xs : List Value}, VRep M w ds xs → ∀ (j : Nat) (d : Dat), ds[j]? = some d → ∃ x, xs[j]? = some x ∧ DRep M w d x
  | [], xs, h, j, d, hd => by simp at hd
  | d :: ds, xs, h, j, d', hd => by
    unfold VRep at h
    obtain ⟨y, r, rfl, h1, h2⟩ := h
    cases j with
    | zero => simp at hd; subst hd; exact ⟨y, rfl, h1⟩
    | succ j => exact h2.get j d' (by simpa using hd)
theorem VRep.mk {M : Nat → Prop} {w : World} : ∀ {ds : List Dat} {xs : List Value}, xs.length = ds.length → (∀ (j : Nat) (d : Dat), ds[j]? = some d → ∃ x, xs[j]? = some x ∧ DRep M w d x) → VRep M w ds xs
  | [], xs, hl, h => by unfold VRep; exact List.eq_nil_of_length_eq_zero (by simpa using hl)
  | d :: ds, [], hl, h => by simp at hl
  | d :: ds, x :: xs, hl, h => by
    unfold VRep
    obtain ⟨x', hx, hd⟩ := h 0 d rfl
    simp at hx
    subst hx
    exact ⟨x, xs, rfl, hd, VRep.mk (by simpa using hl) fun j d' hd' => by simpa using h (j + 1) d' (by simpa using hd')⟩
theorem VRep.nil {M : Nat → Prop} {w : World} : VRep M w [] [] := by unfold VRep; rfl
theorem VRep.cons {M : Nat → Prop} {w : World} {d : Dat} {ds : List Dat} {x : Value} {xs : List Value} (h : DRep M w d x) (h2 : VRep M w ds xs) : VRep M w (d :: ds) (x :: xs) := by unfold VRep; exact ⟨x, xs, rfl, h, h2⟩
theorem VRep.app {M : Nat → Prop} {w : World} : ∀ {ds ds2 : List Dat} {xs xs2 : List Value}, VRep M w ds xs → VRep M w ds2 xs2 → VRep M w (ds ++ ds2) (xs ++ xs2)
  | [], ds2, xs, xs2, h, h2 => by unfold VRep at h; subst h; simpa using h2
  | d :: ds, ds2, xs, xs2, h, h2 => by
    unfold VRep at h
    obtain ⟨x, r, rfl, h1, h3⟩ := h
    exact VRep.cons h1 (h3.app h2)
theorem VRep.split {M : Nat → Prop} {w : World} : ∀ {ds ds2 : List Dat} {xs : List Value}, VRep M w (ds ++ ds2) xs → VRep M w ds (xs.take ds.length) ∧ VRep M w ds2 (xs.drop ds.length)
  | [], ds2, xs, h => ⟨by simpa using VRep.nil, by simpa using h⟩
  | d :: ds, ds2, xs, h => by
    rw [List.cons_append] at h
    unfold VRep at h
    obtain ⟨x, r, rfl, h1, h3⟩ := h
    obtain ⟨h4, h5⟩ := h3.split
    exact ⟨by simpa using VRep.cons h1 h4, by simpa using h5⟩
theorem DRep.one {M : Nat → Prop} {w : World} {d : Dat} {x : Value} (h : DRep M w d x) : x.oneCell' = true := by
  cases d <;> unfold DRep at h
  · rw [h.1]; exact h.2
  · obtain ⟨A, c, rfl, _⟩ := h; rfl
  · obtain ⟨u, rfl, _⟩ := h; rfl
  · obtain ⟨ad, rfl, _⟩ := h; rfl
theorem VRep.one {M : Nat → Prop} {w : World} : ∀ {ds : List Dat} {xs : List Value}, VRep M w ds xs → ∀ x ∈ xs, x.oneCell' = true
  | [], xs, h, x, hx => by unfold VRep at h; subst h; simp at hx
  | d :: ds, xs, h, x, hx => by
    unfold VRep at h
    obtain ⟨y, r, rfl, h1, h3⟩ := h
    rcases List.mem_cons.1 hx with rfl | hx
    · exact h1.one
    · exact h3.one x hx
/-- The cells that a part of the memory holds, as values. -/
theorem LRep.vals {M : Nat → Prop} {w : World} {ad : Addr} {ds : List Dat} {i : Nat} (h : LRep M w ds ad i) : ∃ xs, VRep M w ds xs ∧ Cells w (ad.add i) xs ∧ xs.length = ds.length := by
  have hadd : ∀ j, (ad.add i).add j = ad.add (i + j) := by
    intro j
    unfold Addr.add
    by_cases hi : i = 0
    · subst hi; simp
    · by_cases hj : j = 0
      · subst hj; simp [hi]
      · simp [hi, hj, Nat.add_assoc]
  refine ⟨(List.range ds.length).map fun j => (w.cell? (ad.add (i + j))).getD undef, VRep.mk (by simp) fun j d hd => ?_, fun j x hx => ?_, by simp⟩
  · obtain ⟨x, hx, hr⟩ := h.get j d hd
    have hj := (List.getElem?_eq_some_iff.1 hd).1
    exact ⟨x, by rw [List.getElem?_map, List.getElem?_range hj]; simp [hx], hr⟩
  · rw [hadd]
    have hj : j < ds.length := by have := (List.getElem?_eq_some_iff.1 hx).1; simpa using this
    rw [List.getElem?_map, List.getElem?_range hj] at hx
    obtain ⟨y, hy, _⟩ := h.get j _ (List.getElem?_eq_getElem hj)
    simp [hy] at hx
    rw [hy, hx]
theorem add_add (a : Addr) (i j : Nat) : (a.add i).add j = a.add (i + j) := by
  unfold Addr.add
  by_cases hi : i = 0
  · subst hi; simp
  · by_cases hj : j = 0
    · subst hj; simp [hi]
    · simp [hi, hj, Nat.add_assoc]

/-! ### Values -/
inductive AV where
  | v (x : Value) (h : Nat)
  | d (x : Dat)
  | row (x : Value) (h : Nat)
  | agg (cs : List AV)
  | tup (vs : List AV)
  | ifc (t : TypeId) (a : AV)
  | fn (g : FuncId) (cs : List AV)
  | any
mutual
def Rep (M : Nat → Prop) (w : World) : AV → Value → Prop
  | .v x _, y => y = x
  | .d x, y => DRep M w x y
  | .row x _, y => y = x ∧ x.oneCell' = true
  | .agg cs, y => ∃ ys : List Value, y = .agg ys.toArray ∧ Reps M w cs ys ∧ ∀ u ∈ ys, u.oneCell' = true
  | .tup cs, y => ∃ ys : List Value, y = .tuple ys.toArray ∧ Reps M w cs ys
  | .ifc t a, y => ∃ u, y = .iface t u ∧ Rep M w a u
  | .fn g cs, y => ∃ ys : List Value, y = .func (.func g) #[] ys.toArray ∧ Reps M w cs ys
  | .any, _ => True
def Reps (M : Nat → Prop) (w : World) : List AV → List Value → Prop
  | [], ys => ys = []
  | a :: as, ys => ∃ y r, ys = y :: r ∧ Rep M w a y ∧ Reps M w as r
end
mutual
theorem Rep.ev {M M' N : Nat → Prop} {w w' : World} (he : Ev N w w') (hm : ∀ b, b < w.heap.size → N b ∨ M' b → M b) : ∀ {a : AV} {x : Value}, Rep M w a x → Rep M' w' a x
  | .v u _, x, h => by unfold Rep at h ⊢; exact h
  | .d d, x, h => by unfold Rep at h ⊢; exact DRep.ev he hm h
  | .row u _, x, h => by unfold Rep at h ⊢; exact h
  | .agg cs, x, h => by unfold Rep at h ⊢; obtain ⟨ys, e, h1, h2⟩ := h; exact ⟨ys, e, Reps.ev he hm h1, h2⟩
  | .tup cs, x, h => by unfold Rep at h ⊢; obtain ⟨ys, e, h1⟩ := h; exact ⟨ys, e, Reps.ev he hm h1⟩
  | .ifc t a, x, h => by unfold Rep at h ⊢; obtain ⟨u, e, h1⟩ := h; exact ⟨u, e, Rep.ev he hm h1⟩
  | .fn g cs, x, h => by unfold Rep at h ⊢; obtain ⟨ys, e, h1⟩ := h; exact ⟨ys, e, Reps.ev he hm h1⟩
  | .any, x, h => by unfold Rep; trivial
theorem Reps.ev {M M' N : Nat → Prop} {w w' : World} (he : Ev N w w') (hm : ∀ b, b < w.heap.size → N b ∨ M' b → M b) : ∀ {as : List AV} {xs : List Value}, Reps M w as xs → Reps M' w' as xs
  | [], xs, h => by unfold Reps at h ⊢; exact h
  | a :: as, xs, h => by
    unfold Reps at h ⊢
    obtain ⟨x, r, e, hx, h2⟩ := h
    exact ⟨x, r, e, Rep.ev he hm hx, Reps.ev he hm h2⟩
end
theorem Reps.len {M : Nat → Prop} {w : World} : ∀ {ds : List AV} {xs : List Value}, Reps M w ds xs → xs.length = ds.length
  | [], xs, h => by unfold Reps at h; simp [h]
  | d :: ds, xs, h => by unfold Reps at h; obtain ⟨x, r, rfl, _, h2⟩ := h; simp [h2.len]
theorem Reps.get {M : Nat → Prop} {w : World} : ∀ {ds : List AV} {xs : List Value}, Reps M w ds xs → ∀ (j : Nat) (d : AV), ds[j]? = some d → ∃ x, xs[j]? = some x ∧ Rep M w d x
  | [], xs, h, j, d, hd => by simp at hd
  | d :: ds, xs, h, j, d', hd => by
    unfold Reps at h
    obtain ⟨y, r, rfl, h1, h2⟩ := h
    cases j with
    | zero => simp at hd; subst hd; exact ⟨y, rfl, h1⟩
    | succ j => exact h2.get j d' (by simpa using hd)
theorem Reps.mk {M : Nat → Prop} {w : World} : ∀ {ds : List AV} {xs : List Value}, xs.length = ds.length → (∀ (j : Nat) (d : AV), ds[j]? = some d → ∃ x, xs[j]? = some x ∧ Rep M w d x) → Reps M w ds xs
  | [], xs, hl, h => by unfold Reps; exact List.eq_nil_of_length_eq_zero (by simpa using hl)
  | d :: ds, [], hl, h => by simp at hl
  | d :: ds, x :: xs, hl, h => by
    unfold Reps
    obtain ⟨x', hx, hd⟩ := h 0 d rfl
    simp at hx
    subst hx
    exact ⟨x, xs, rfl, hd, Reps.mk (by simpa using hl) fun j d' hd' => by simpa using h (j + 1) d' (by simpa using hd')⟩
theorem Reps.nil {M : Nat → Prop} {w : World} : Reps M w [] [] := by unfold Reps; rfl
theorem Reps.cons {M : Nat → Prop} {w : World} {d : AV} {ds : List AV} {x : Value} {xs : List Value} (h : Rep M w d x) (h2 : Reps M w ds xs) : Reps M w (d :: ds) (x :: xs) := by unfold Reps; exact ⟨x, xs, rfl, h, h2⟩
theorem Reps.app {M : Nat → Prop} {w : World} : ∀ {ds ds2 : List AV} {xs xs2 : List Value}, Reps M w ds xs → Reps M w ds2 xs2 → Reps M w (ds ++ ds2) (xs ++ xs2)
  | [], ds2, xs, xs2, h, h2 => by unfold Reps at h; subst h; simpa using h2
  | d :: ds, ds2, xs, xs2, h, h2 => by
    unfold Reps at h
    obtain ⟨x, r, rfl, h1, h3⟩ := h
    exact Reps.cons h1 (h3.app h2)
theorem Reps.take {M : Nat → Prop} {w : World} : ∀ {ds : List AV} {xs : List Value}, Reps M w ds xs → ∀ n, Reps M w (ds.take n) (xs.take n)
  | [], xs, h, n => by unfold Reps at h; subst h; simp; exact Reps.nil
  | d :: ds, xs, h, 0 => by simp; exact Reps.nil
  | d :: ds, xs, h, n + 1 => by
    unfold Reps at h
    obtain ⟨x, r, rfl, h1, h3⟩ := h
    exact Reps.cons h1 (h3.take n)
theorem Reps.drop {M : Nat → Prop} {w : World} : ∀ {ds : List AV} {xs : List Value}, Reps M w ds xs → ∀ n, Reps M w (ds.drop n) (xs.drop n)
  | [], xs, h, n => by unfold Reps at h; subst h; simp; exact Reps.nil
  | d :: ds, xs, h, 0 => by simpa using h
  | d :: ds, xs, h, n + 1 => by
    unfold Reps at h
    obtain ⟨x, r, rfl, h1, h3⟩ := h
    exact h3.drop n
theorem Reps.set {M : Nat → Prop} {w : World} : ∀ {ds : List AV} {xs : List Value}, Reps M w ds xs → ∀ (i : Nat) (d : AV) (x : Value), Rep M w d x → Reps M w (ds.set i d) (xs.set i x)
  | [], xs, h, i, d', x', h' => by unfold Reps at h; subst h; simp; exact Reps.nil
  | d :: ds, xs, h, 0, d', x', h' => by
    unfold Reps at h
    obtain ⟨x, r, rfl, h1, h3⟩ := h
    exact Reps.cons h' h3
  | d :: ds, xs, h, i + 1, d', x', h' => by
    unfold Reps at h
    obtain ⟨x, r, rfl, h1, h3⟩ := h
    exact Reps.cons h1 (h3.set i d' x' h')
theorem Reps.ofV {M : Nat → Prop} {w : World} : ∀ {ds : List Dat} {xs : List Value}, VRep M w ds xs → Reps M w (ds.map .d) xs
  | [], xs, h => by unfold VRep at h; subst h; exact Reps.nil
  | d :: ds, xs, h => by
    unfold VRep at h
    obtain ⟨x, r, rfl, h1, h2⟩ := h
    exact Reps.cons (by unfold Rep; exact h1) (Reps.ofV h2)
/-- Surely one cell. -/
def one1 : AV → Bool
  | .v x _ => match x with | .agg _ | .tuple _ => false | .bool _ | .int _ _ | .string _ | .pointer _ | .slice _ _ _ | .map _ | .nilFunc | .iface _ _ | .nilIface | .func _ _ _ => true | _ => false
  | .d _ => true
  | .row _ _ => true
  | .ifc _ _ => true
  | .fn _ _ => true
  | _ => false
theorem one1_one {M : Nat → Prop} {w : World} {a : AV} {x : Value} (h : one1 a = true) (hr : Rep M w a x) : x.oneCell' = true := by
  cases a <;> unfold Rep at hr
  · subst hr; cases x <;> first | rfl | simp [one1] at h
  · exact hr.one
  · rw [hr.1]; exact hr.2
  · simp [one1] at h
  · simp [one1] at h
  · obtain ⟨u, rfl, _⟩ := hr; rfl
  · obtain ⟨u, rfl, _⟩ := hr; rfl
  · simp [one1] at h

/-! ### Memory of one's own -/
/-- Anything that some blocks hold. -/
structure Asrt where
  h : (Nat → Prop) → (Nat → Prop) → World → Prop
  ev : ∀ {M S w M' N w'}, h M S w → Ev N w w' → (∀ b, S b → ¬ N b) → (∀ b, b < w.heap.size → N b ∨ M' b → M b) → h M' S w'
  lt : ∀ {M S w}, h M S w → ∀ b, S b → b < w.heap.size
inductive Chunk where
  | blk (g : Nat) (t : TypeId) (cs : List AV)
  | row (x : Value) (e : TypeId) (k : Nat) (es : List (List Dat))
  | map (r : Nat) (es : List (Value × AV))
  | ext (a : Asrt)
abbrev Store := List (Nat × Chunk)
/-- An entry of a map: key and value. -/
def EntRep (M : Nat → Prop) (w : World) (p : Value × AV) (e : MapEntry) : Prop := e.key = p.1 ∧ Rep M w p.2 e.val
def EntsRep (M : Nat → Prop) (w : World) : List (Value × AV) → List MapEntry → Prop
  | [], es => es = []
  | p :: ps, es => ∃ e r, es = e :: r ∧ EntRep M w p e ∧ EntsRep M w ps r
def CRep (M : Nat → Prop) (w : World) : Chunk → (Nat → Prop) → Prop
  | .blk g t cs, S => (∀ b, S b ↔ b = g) ∧ ∃ xs : List Value, Blk w g t xs ∧ Reps M w cs xs ∧ ∀ u ∈ xs, u.oneCell' = true
  | .row x e k es, S => (∀ b, S b ↔ ob x b) ∧ (∀ e' ∈ es, e'.length = k) ∧ ∃ xs, w.ownsRow 0 e k x es.length xs ∧ VRep M w es.flatten xs
  | .map r es, S => (∀ b, S b ↔ b = r) ∧ ∃ (ents : Array MapEntry) (clock : Nat), w.heap[r]? = some (.map ents clock) ∧ EntsRep M w es ents.toList ∧ (ents.toList.map (·.born)).Nodup ∧ (∀ e ∈ ents.toList, e.born < clock)
  | .ext a, S => a.h M S w
def Holds (M : Nat → Prop) (w : World) : Store → (Nat → Prop) → Prop
  | [], S => ∀ b, ¬ S b
  | (_, c) :: σ, S => ∃ S1 S2 : Nat → Prop, (∀ b, S b ↔ S1 b ∨ S2 b) ∧ (∀ b, S1 b → ¬ S2 b) ∧ CRep M w c S1 ∧ Holds M w σ S2
theorem EntsRep.ev {M M' N : Nat → Prop} {w w' : World} (he : Ev N w w') (hm : ∀ b, b < w.heap.size → N b ∨ M' b → M b) : ∀ {ps : List (Value × AV)} {es : List MapEntry}, EntsRep M w ps es → EntsRep M' w' ps es
  | [], es, h => h
  | p :: ps, es, ⟨e, r, h1, h2, h3⟩ => ⟨e, r, h1, ⟨h2.1, Rep.ev he hm h2.2⟩, EntsRep.ev he hm h3⟩
theorem CRep.ev {M M' N : Nat → Prop} {w w' : World} (he : Ev N w w') (hm : ∀ b, b < w.heap.size → N b ∨ M' b → M b) {c : Chunk} {S : Nat → Prop} (h : CRep M w c S) (hN : ∀ b, S b → ¬ N b) : CRep M' w' c S := by
  cases c with
  | blk g t cs =>
    obtain ⟨hS, xs, hb, hr, h1⟩ := h
    exact ⟨hS, xs, hb.ev he (hN g ((hS g).2 rfl)), Reps.ev he hm hr, h1⟩
  | row x e k es =>
    obtain ⟨hS, hk, xs, ho, hr⟩ := h
    refine ⟨hS, hk, xs, ?_, VRep.ev he hm hr⟩
    obtain ⟨hl, ho⟩ := ho
    refine ⟨hl, ?_⟩
    rcases ho with ho | ⟨g, cap, cur, rfl, hb, hh, r⟩
    · exact .inl ho
    · exact .inr ⟨g, cap, cur, rfl, hb, by rw [he.block g (Array.getElem?_eq_some_iff.1 hh).1 (hN g ((hS g).2 rfl))]; exact hh, r⟩
  | map r es =>
    obtain ⟨hS, ents, clock, hh, hr, h1, h2⟩ := h
    exact ⟨hS, ents, clock, by rw [he.block r (Array.getElem?_eq_some_iff.1 hh).1 (hN r ((hS r).2 rfl))]; exact hh, EntsRep.ev he hm hr, h1, h2⟩
  | ext a => exact a.ev h he hN hm
theorem CRep.lt {M : Nat → Prop} {w : World} {c : Chunk} {S : Nat → Prop} (h : CRep M w c S) : ∀ b, S b → b < w.heap.size := by
  cases c with
  | blk g t cs =>
    obtain ⟨hS, xs, hb, _⟩ := h
    intro b hb'
    rw [(hS b).1 hb']
    exact hb.lt
  | row x e k es =>
    obtain ⟨hS, hk, xs, ho, hr⟩ := h
    exact fun b hb => (ho.lt b ((hS b).1 hb)).2
  | map r es =>
    obtain ⟨hS, ents, clock, hh, _⟩ := h
    intro b hb'
    rw [(hS b).1 hb']
    exact (Array.getElem?_eq_some_iff.1 hh).1
  | ext a => exact a.lt h
theorem CRep.iff {M : Nat → Prop} {w : World} {c : Chunk} {S S' : Nat → Prop} (h : CRep M w c S) (hS : ∀ b, S' b ↔ S b) : CRep M w c S' := by
  have : S' = S := funext fun b => propext (hS b)
  rw [this]; exact h
theorem Holds.iff {M : Nat → Prop} {w : World} {σ : Store} {S S' : Nat → Prop} (h : Holds M w σ S) (hS : ∀ b, S' b ↔ S b) : Holds M w σ S' := by
  have : S' = S := funext fun b => propext (hS b)
  rw [this]; exact h
theorem Holds.lt {M : Nat → Prop} {w : World} : ∀ {σ : Store} {S : Nat → Prop}, Holds M w σ S → ∀ b, S b → b < w.heap.size
  | [], S, h, b, hb => absurd hb (h b)
  | (_, c) :: σ, S, ⟨S1, S2, h1, h2, h3, h4⟩, b, hb => ((h1 b).1 hb).elim (h3.lt b) (h4.lt b)
theorem Holds.ev {M M' N : Nat → Prop} {w w' : World} (he : Ev N w w') (hm : ∀ b, b < w.heap.size → N b ∨ M' b → M b) : ∀ {σ : Store} {S : Nat → Prop}, Holds M w σ S → (∀ b, S b → ¬ N b) → Holds M' w' σ S
  | [], S, h, _ => h
  | (_, c) :: σ, S, ⟨S1, S2, h1, h2, h3, h4⟩, hN => ⟨S1, S2, h1, h2, h3.ev he hm fun b hb => hN b ((h1 b).2 (.inl hb)), h4.ev he hm fun b hb => hN b ((h1 b).2 (.inr hb))⟩
/-- M may be told anew. -/
theorem Holds.of {M M' : Nat → Prop} {w : World} {σ : Store} {S : Nat → Prop} (h : Holds M w σ S) (hm : ∀ b, b < w.heap.size → M' b → M b) : Holds M' w σ S :=
  h.ev (Ev.refl no w) (fun b hb h => h.elim (fun h => h.elim) (hm b hb)) fun _ _ h => h
theorem Rep.of {M M' : Nat → Prop} {w : World} {a : AV} {x : Value} (h : Rep M w a x) (hm : ∀ b, b < w.heap.size → M' b → M b) : Rep M' w a x :=
  h.ev (Ev.refl no w) (fun b hb h => h.elim (fun h => h.elim) (hm b hb))
theorem Reps.of {M M' : Nat → Prop} {w : World} {a : List AV} {x : List Value} (h : Reps M w a x) (hm : ∀ b, b < w.heap.size → M' b → M b) : Reps M' w a x :=
  h.ev (Ev.refl no w) (fun b hb h => h.elim (fun h => h.elim) (hm b hb))
theorem VRep.of {M M' : Nat → Prop} {w : World} {a : List Dat} {x : List Value} (h : VRep M w a x) (hm : ∀ b, b < w.heap.size → M' b → M b) : VRep M' w a x :=
  h.ev (Ev.refl no w) (fun b hb h => h.elim (fun h => h.elim) (hm b hb))
theorem Holds.append {M : Nat → Prop} {w : World} : ∀ {σ τ : Store} {S T U : Nat → Prop}, Holds M w σ S → Holds M w τ T → (∀ b, S b → ¬ T b) → (∀ b, U b ↔ S b ∨ T b) → Holds M w (σ ++ τ) U
  | [], τ, S, T, U, h1, h2, hd, hU => h2.iff fun b => (hU b).trans ⟨fun h => h.elim (fun h => absurd h (h1 b)) id, .inr⟩
  | (k, c) :: σ, τ, S, T, U, ⟨S1, S2, h1, h2, h3, h4⟩, h5, hd, hU =>
    ⟨S1, fun b => S2 b ∨ T b, fun b => (hU b).trans ⟨fun h => h.elim (fun h => ((h1 b).1 h).imp id .inl) (fun h => .inr (.inr h)), fun h => h.elim (fun h => .inl ((h1 b).2 (.inl h))) fun h => h.imp (fun h => (h1 b).2 (.inr h)) id⟩,
      fun b hb h => h.elim (h2 b hb) (hd b ((h1 b).2 (.inl hb))), h3, h4.append h5 (fun b hb => hd b ((h1 b).2 (.inr hb))) fun b => Iff.rfl⟩
theorem Holds.parts {M : Nat → Prop} {w : World} : ∀ {σ τ : Store} {U : Nat → Prop}, Holds M w (σ ++ τ) U → ∃ S T : Nat → Prop, Holds M w σ S ∧ Holds M w τ T ∧ (∀ b, S b → ¬ T b) ∧ ∀ b, U b ↔ S b ∨ T b
  | [], τ, U, h => ⟨no, U, fun _ h => h, h, fun _ h => h.elim, fun b => ⟨.inr, fun h => h.elim (fun h => h.elim) id⟩⟩
  | (k, c) :: σ, τ, U, ⟨S1, S2, h1, h2, h3, h4⟩ => by
    obtain ⟨S, T, k1, k2, k3, k4⟩ := h4.parts
    refine ⟨fun b => S1 b ∨ S b, T, ⟨S1, S, fun b => Iff.rfl, fun b hb h => h2 b hb ((k4 b).2 (.inl h)), h3, k1⟩, k2, fun b hb h => hb.elim (fun hb => h2 b hb ((k4 b).2 (.inr h))) fun hb => k3 b hb h, fun b => ?_⟩
    rw [h1 b, k4 b, or_assoc]

/-! ### The store by keys -/
def lookK {α : Type} : Store → Nat → (Chunk → α) → α → α
  | [], _, _, z => z
  | (j, c) :: σ, k, f, z => match Nat.beq j k with | true => f c | false => lookK σ k f z
def del : Store → Nat → Store
  | [], _ => []
  | (j, c) :: σ, k => match Nat.beq j k with | true => σ | false => (j, c) :: del σ k
def upd : Store → Nat → Chunk → Store
  | [], _, _ => []
  | (j, c) :: σ, k, c' => match Nat.beq j k with | true => (j, c') :: σ | false => (j, c) :: upd σ k c'
def look (σ : Store) (k : Nat) : Option Chunk := lookK σ k some none
theorem lookK_eq {α : Type} : ∀ (σ : Store) (k : Nat) (f : Chunk → α) (z : α), lookK σ k f z = match look σ k with | some c => f c | none => z
  | [], _, _, _ => rfl
  | (j, c) :: σ, k, f, z => by
    unfold look lookK
    cases Nat.beq j k
    · exact lookK_eq σ k f z
    · rfl
/-- A chunk is taken out. -/
theorem Holds.take {M : Nat → Prop} {w : World} {k : Nat} {c : Chunk} : ∀ {σ : Store} {S : Nat → Prop}, Holds M w σ S → look σ k = some c →
    ∃ S1 S2 : Nat → Prop, (∀ b, S b ↔ S1 b ∨ S2 b) ∧ (∀ b, S1 b → ¬ S2 b) ∧ CRep M w c S1 ∧ Holds M w (del σ k) S2
  | [], S, h, hl => by simp [look, lookK] at hl
  | (j, c') :: σ, S, ⟨S1, S2, h1, h2, h3, h4⟩, hl => by
    unfold look lookK at hl
    unfold del
    cases hj : Nat.beq j k
    · rw [hj] at hl
      obtain ⟨T1, T2, k1, k2, k3, k4⟩ := h4.take hl
      refine ⟨T1, fun b => S1 b ∨ T2 b, fun b => ?_, fun b hb h => h.elim (fun h => h2 b h ((k1 b).2 (.inl hb))) (k2 b hb), k3, S1, T2, fun b => Iff.rfl, fun b hb h => h2 b hb ((k1 b).2 (.inr h)), h3, k4⟩
      rw [h1 b, k1 b]
      constructor
      · rintro (h | h | h)
        · exact .inr (.inl h)
        · exact .inl h
        · exact .inr (.inr h)
      · rintro (h | h | h)
        · exact .inr (.inl h)
        · exact .inl h
        · exact .inr (.inr h)
    · rw [hj] at hl
      simp at hl
      subst hl
      exact ⟨S1, S2, h1, h2, h3, h4⟩
/-- A chunk is another one now. -/
theorem Holds.upd {M M' N : Nat → Prop} {w w' : World} {k : Nat} {c c' : Chunk} {T : Nat → Prop} (he : Ev N w w') (hm : ∀ b, b < w.heap.size → N b ∨ M' b → M b) :
    ∀ {σ : Store} {S S1 S2 : Nat → Prop}, Holds M w σ S → look σ k = some c → Holds M w (del σ k) S2 → (∀ b, S2 b → ¬ N b) → (∀ b, T b → ¬ S2 b) → CRep M' w' c' T → Holds M' w' (upd σ k c') (fun b => T b ∨ S2 b)
  | [], S, S1, S2, h, hl, _, _, _, _ => by simp [look, lookK] at hl
  | (j, d) :: σ, S, S1, S2, ⟨U1, U2, h1, h2, h3, h4⟩, hl, hd, hN, hT, hc => by
    unfold look lookK at hl
    unfold del at hd
    unfold A.upd
    cases hj : Nat.beq j k
    · rw [hj] at hl hd
      obtain ⟨V1, V2, k1, k2, k3, k4⟩ := hd
      have := h4.upd (T := T) (c' := c') (S1 := S1) he hm hl k4 (fun b hb => hN b ((k1 b).2 (.inr hb))) (fun b hb h => hT b hb ((k1 b).2 (.inr h))) hc
      refine ⟨V1, fun b => T b ∨ V2 b, fun b => ?_, fun b hb h => h.elim (fun h => hT b h ((k1 b).2 (.inl hb))) (k2 b hb), k3.ev he hm fun b hb => hN b ((k1 b).2 (.inl hb)), this⟩
      constructor
      · rintro (h | h)
        · exact .inr (.inl h)
        · exact ((k1 b).1 h).imp id .inr
      · rintro (h | h | h)
        · exact .inr ((k1 b).2 (.inl h))
        · exact .inl h
        · exact .inr ((k1 b).2 (.inr h))
    · rw [hj] at hl hd
      exact ⟨T, S2, fun b => Iff.rfl, hT, hc, hd.ev he hm hN⟩

end Go.Proofs.Ytepjnmocepkfjaa.A
