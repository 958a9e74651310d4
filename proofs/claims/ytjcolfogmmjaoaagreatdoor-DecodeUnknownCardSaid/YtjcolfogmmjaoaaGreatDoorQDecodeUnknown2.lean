import Derived.Test.YtjcolfogmmjaoaaGreatDoorQDecodeUnknown1
import Derived.Maps.AppendAt
import Derived.RowKit3
import Derived.Below
section
set_option linter.unusedVariables false
set_option linter.unusedSimpArgs false
namespace Go.Proofs.YtjcolfogmmjaoaaGreatDoor.V
structure Ev (M : Nat → Prop) (w w' : World) : Prop where
  os : w'.os = w.os
  tape : w'.tape = w.tape
  output : w'.output = w.output
  size : w.heap.size ≤ w'.heap.size
  block : ∀ b, b < w.heap.size → ¬ M b → w'.heap[b]? = w.heap[b]?
def no : Nat → Prop := fun _ => False
def at1 (g : Nat) : Nat → Prop := fun b => b = g
def ob (v : Value) : Nat → Prop := fun b => v.ownBlock = some b
def or2 (M N : Nat → Prop) : Nat → Prop := fun b => M b ∨ N b
def lim : Nat := 4294967296
theorem Ev.refl (M : Nat → Prop) (w : World) : Ev M w w := ⟨rfl, rfl, rfl, Nat.le_refl _, fun _ _ _ => rfl⟩
theorem Ev.mono {M M' : Nat → Prop} {w w' : World} (h : Ev M w w') (hm : ∀ b, b < w.heap.size → M b → M' b) : Ev M' w w' :=
  ⟨h.os, h.tape, h.output, h.size, fun b hb hn => h.block b hb fun hM => hn (hm b hb hM)⟩
theorem Ev.then {M N : Nat → Prop} {a b c : World} (h : Ev M a b) (k : Ev N b c) (hm : ∀ i, i < a.heap.size → N i → M i) : Ev M a c :=
  ⟨k.os.trans h.os, k.tape.trans h.tape, k.output.trans h.output, Nat.le_trans h.size k.size,
    fun i hi hn => (k.block i (Nat.lt_of_lt_of_le hi h.size) fun h1 => hn (hm i hi h1)).trans (h.block i hi hn)⟩
theorem Ev.trans {M : Nat → Prop} {a b c : World} (h : Ev M a b) (k : Ev M b c) : Ev M a c := h.then k fun _ _ h => h
theorem Ev.no {M : Nat → Prop} {w w' : World} (h : Ev no w w') : Ev M w w' := h.mono fun _ _ h => h.elim
theorem Ev.to {M : Nat → Prop} {a b c : World} (h : Ev M a b) (k : Ev V.no b c) : Ev M a c := h.then k fun _ _ h => h.elim
theorem Ev.below {w w' : World} (h : Ev V.no w w') : RowKit.Below w.heap.size w w' := ⟨h.os, h.tape, h.output, h.size, fun k hk => h.block k hk fun h => h⟩
theorem Ev.grown {M : Nat → Prop} {w w' : World} {row : Option Nat} (h : w.grownBy w' row) (hr : ∀ k, row = some k → M k) : Ev M w w' :=
  ⟨h.os, h.tape, h.output, h.size, fun b hb hn => h.block b hb fun e => hn (hr b e.symm)⟩
theorem Ev.alloc (w : World) (o : Obj) : Ev V.no w (w.alloc o) := ⟨rfl, rfl, rfl, by simp, fun b hb _ => RowKit.Below.heap_alloc _ _ _ hb⟩
theorem Ev.drew (w : World) : Ev V.no w w.drew := ⟨rfl, rfl, rfl, Nat.le_refl _, fun _ _ _ => rfl⟩
theorem Ev.setCell (w : World) (p : Addr) (u : Value) : Ev (at1 p.block) w (w.setCell p u) :=
  ⟨rfl, rfl, rfl, by simp [World.setCell], fun b hb hn => RowKit.Below.heap_setCell _ _ _ _ hn⟩
theorem Ev.cell {M : Nat → Prop} {w w' : World} (h : Ev M w w') {a : Addr} {v : Value} (hc : w.cell? a = some v) (hM : ¬ M a.block) : w'.cell? a = some v :=
  (World.cell?_of_block (w := w) (h.block _ (World.block_lt_of_cell? w a hc) hM)).trans hc
def Blk (w : World) (g : Nat) (t : TypeId) (cs : List Value) : Prop := w.heap[g]? = some (.cells cs.toArray t (0, 0))
theorem Blk.lt {w : World} {g : Nat} {t : TypeId} {cs : List Value} (h : Blk w g t cs) : g < w.heap.size := (Array.getElem?_eq_some_iff.1 h).1
theorem Blk.cell {w : World} {g : Nat} {t : TypeId} {cs : List Value} (h : Blk w g t cs) (i : Nat) {v : Value} (hv : cs[i]? = some v) : w.cell? ⟨g, i, none⟩ = some v := by
  rw [cell_of_row w g i _ t (0, 0) h]; simpa using hv
theorem Blk.free {w : World} {g : Nat} {t : TypeId} {cs : List Value} (h : Blk w g t cs) (i : Nat) : w.frozen? ⟨g, i, none⟩ = false := frozen_of_row w g i _ t h
theorem Blk.ev {M : Nat → Prop} {w w' : World} {g : Nat} {t : TypeId} {cs : List Value} (h : Blk w g t cs) (he : Ev M w w') (hM : ¬ M g) : Blk w' g t cs := by
  unfold Blk; rw [he.block g h.lt hM]; exact h
theorem Blk.new (w : World) (t : TypeId) (cs : List Value) : Blk (w.alloc (.cells cs.toArray t)) w.heap.size t cs := heap_alloc_new w _
theorem Blk.set {w : World} {g : Nat} {t : TypeId} {cs : List Value} (h : Blk w g t cs) (i : Nat) (v : Value) : Blk (w.setCell ⟨g, i, none⟩ v) g t (cs.set i v) := by
  unfold Blk
  rw [heap_setCell_same w g i _ t v h]
  simp
theorem Blk.cells {w : World} {g : Nat} {t : TypeId} {cs : List Value} (h : Blk w g t cs) : Cells w ⟨g, 0, none⟩ cs := by
  intro j v hv
  have : (⟨g, 0, none⟩ : Addr).add j = ⟨g, j, none⟩ := by unfold Addr.add; split <;> simp_all
  rw [this]; exact h.cell j hv
section
variable {P : Program} {L : List TD} {n : Nat} {Q : Exit → Act → World → Prop} {s : MS} {f f' : Env} {w : World} {κ : List Kt} {all : Array Oper} {dec : List Nat} {o : Oper} {al : Bool} {rest : List (Oper × Bool)} {S : World → Prop} {ex : Ex}
end
inductive Dat where
  | v (x : Value)
  | sl (k : Nat) (ds : List Dat)
  | ifc (t : TypeId) (ag : Bool) (ds : List Dat)
mutual
def ARep (M : Nat → Prop) (w : World) : Dat → Value → Prop
  | .v u, x => x = u ∧ u.oneCell' = true
  | .sl k ds, x => ∃ A m c, x = .slice A m c ∧ ds.length = m * k ∧ m ≤ c ∧ (ds ≠ [] → ∃ ad, A = some ad ∧ ¬ M ad.block ∧ LRep M w ds ad 0)
  | .ifc t ag ds, x => ∃ u : Value, x = .iface t u ∧ (ag = true → u = .agg u.cells) ∧ (ag = false → u.oneCell' = true) ∧ VRep M w ds u.cells.toList
def LRep (M : Nat → Prop) (w : World) : List Dat → Addr → Nat → Prop
  | [], _, _ => True
  | d :: ds, ad, i => (∃ x, w.cell? (ad.add i) = some x ∧ ARep M w d x) ∧ LRep M w ds ad (i + 1)
def VRep (M : Nat → Prop) (w : World) : List Dat → List Value → Prop
  | [], xs => xs = []
  | d :: ds, xs => ∃ x r, xs = x :: r ∧ ARep M w d x ∧ VRep M w ds r
end
theorem add_block (a : Addr) (i : Nat) : (a.add i).block = a.block := by unfold Addr.add; split <;> rfl
theorem add_plain (g j : Nat) : (⟨g, 0, none⟩ : Addr).add j = ⟨g, j, none⟩ := by unfold Addr.add; split <;> simp_all
theorem add_off (g i j : Nat) : (⟨g, i, none⟩ : Addr).add j = ⟨g, i + j, none⟩ := by unfold Addr.add; split <;> simp_all
theorem LRep.get {M : Nat → Prop} {w : World} {ad : Addr} : ∀ {ds : List Dat} {i : Nat}, LRep M w ds ad i → ∀ j (h : j < ds.length), ∃ x, w.cell? (ad.add (i + j)) = some x ∧ ARep M w ds[j] x
  | [], _, _, j, h => absurd h (by simp)
  | d :: ds, i, hr, 0, h => by unfold LRep at hr; simpa using hr.1
  | d :: ds, i, hr, j + 1, h => by
    unfold LRep at hr
    have := hr.2.get j (by simpa using h)
    simpa [Nat.add_assoc, Nat.add_comm 1 j] using this
theorem LRep.mk {M : Nat → Prop} {w : World} {ad : Addr} : ∀ {ds : List Dat} {i : Nat}, (∀ j (h : j < ds.length), ∃ x, w.cell? (ad.add (i + j)) = some x ∧ ARep M w ds[j] x) → LRep M w ds ad i
  | [], _, _ => by unfold LRep; trivial
  | d :: ds, i, hr => by
    unfold LRep
    refine ⟨by have := hr 0 (by simp); rwa [Nat.add_zero] at this, LRep.mk fun j h => ?_⟩
    have := hr (j + 1) (by simpa using h)
    simpa [Nat.add_assoc, Nat.add_comm 1 j] using this
theorem VRep.len {M : Nat → Prop} {w : World} : ∀ {ds : List Dat} {xs : List Value}, VRep M w ds xs → xs.length = ds.length
  | [], xs, h => by unfold VRep at h; simp [h]
  | d :: ds, xs, h => by unfold VRep at h; obtain ⟨x, r, rfl, _, h2⟩ := h; simp [h2.len]
theorem VRep.get {M : Nat → Prop} {w : World} : ∀ {ds : List Dat} {xs : List Value}, VRep M w ds xs → ∀ (j : Nat) (x : Value) (d : Dat), xs[j]? = some x → ds[j]? = some d → ARep M w d x
  | [], xs, h, j, x, d, hx, hd => by simp at hd
  | d :: ds, xs, h, j, x, d', hx, hd => by
    unfold VRep at h
    obtain ⟨y, r, rfl, h1, h2⟩ := h
    cases j with
    | zero => simp at hx hd; subst hx; subst hd; exact h1
    | succ j => exact h2.get j x d' (by simpa using hx) (by simpa using hd)
theorem VRep.mk {M : Nat → Prop} {w : World} : ∀ {ds : List Dat} {xs : List Value}, xs.length = ds.length → (∀ (j : Nat) (x : Value) (d : Dat), xs[j]? = some x → ds[j]? = some d → ARep M w d x) → VRep M w ds xs
  | [], xs, hl, h => by unfold VRep; exact List.eq_nil_of_length_eq_zero (by simpa using hl)
  | d :: ds, [], hl, h => by simp at hl
  | d :: ds, x :: xs, hl, h => by
    unfold VRep
    exact ⟨x, xs, rfl, h 0 x d rfl rfl, VRep.mk (by simpa using hl) fun j y e hy he => h (j + 1) y e (by simpa using hy) (by simpa using he)⟩
theorem VRep.nil {M : Nat → Prop} {w : World} : VRep M w [] [] := by unfold VRep; rfl
theorem VRep.cons {M : Nat → Prop} {w : World} {d : Dat} {ds : List Dat} {x : Value} {xs : List Value} (h : ARep M w d x) (h2 : VRep M w ds xs) : VRep M w (d :: ds) (x :: xs) := by unfold VRep; exact ⟨x, xs, rfl, h, h2⟩
theorem VRep.app {M : Nat → Prop} {w : World} : ∀ {ds ds2 : List Dat} {xs xs2 : List Value}, VRep M w ds xs → VRep M w ds2 xs2 → VRep M w (ds ++ ds2) (xs ++ xs2)
  | [], ds2, xs, xs2, h, h2 => by unfold VRep at h; subst h; simpa using h2
  | d :: ds, ds2, xs, xs2, h, h2 => by
    unfold VRep at h
    obtain ⟨x, r, rfl, h1, h3⟩ := h
    exact VRep.cons h1 (h3.app h2)
mutual
theorem ARep.ev {M M' N : Nat → Prop} {w w' : World} (he : Ev N w w') (hm : ∀ b, b < w.heap.size → (N b ∨ M' b) → M b) : ∀ {d : Dat} {x : Value}, ARep M w d x → ARep M' w' d x
  | .v u, x, h => by unfold ARep at h ⊢; exact h
  | .sl k ds, x, h => by
    unfold ARep at h ⊢
    obtain ⟨A, n, c, e, hl, hc, hr⟩ := h
    refine ⟨A, n, c, e, hl, hc, fun hn => ?_⟩
    obtain ⟨ad, ha, hM, hL⟩ := hr hn
    have hlt : ad.block < w.heap.size := by
      cases ds with
      | nil => exact absurd rfl hn
      | cons d ds =>
        unfold LRep at hL
        obtain ⟨⟨x, hc, _⟩, _⟩ := hL
        have := World.block_lt_of_cell? w _ hc
        rwa [add_block] at this
    exact ⟨ad, ha, fun h' => hM (hm _ hlt (.inr h')), LRep.ev he hm (fun h' => hM (hm _ hlt (.inl h'))) hL⟩
  | .ifc t ag ds, x, h => by
    unfold ARep at h ⊢
    obtain ⟨u, e, h1, h2, h3⟩ := h
    exact ⟨u, e, h1, h2, VRep.ev he hm h3⟩
theorem LRep.ev {M M' N : Nat → Prop} {w w' : World} (he : Ev N w w') (hm : ∀ b, b < w.heap.size → (N b ∨ M' b) → M b) : ∀ {ds : List Dat} {ad : Addr} {i : Nat}, ¬ N ad.block → LRep M w ds ad i → LRep M' w' ds ad i
  | [], _, _, _, _ => by unfold LRep; trivial
  | d :: ds, ad, i, hN, h => by
    unfold LRep at h ⊢
    obtain ⟨⟨x, hc, hx⟩, h2⟩ := h
    exact ⟨⟨x, he.cell hc (by rwa [add_block]), ARep.ev he hm hx⟩, LRep.ev he hm hN h2⟩
theorem VRep.ev {M M' N : Nat → Prop} {w w' : World} (he : Ev N w w') (hm : ∀ b, b < w.heap.size → (N b ∨ M' b) → M b) : ∀ {ds : List Dat} {xs : List Value}, VRep M w ds xs → VRep M' w' ds xs
  | [], xs, h => by unfold VRep at h ⊢; exact h
  | d :: ds, xs, h => by
    unfold VRep at h ⊢
    obtain ⟨x, r, e, hx, h2⟩ := h
    exact ⟨x, r, e, ARep.ev he hm hx, VRep.ev he hm h2⟩
end
theorem ARep.to {M : Nat → Prop} {w w' : World} {d : Dat} {x : Value} (h : ARep M w d x) (he : Ev no w w') : ARep M w' d x := h.ev he (fun _ _ h => h.elim (fun h => h.elim) id)
theorem ARep.any {M M' : Nat → Prop} {w : World} {d : Dat} {x : Value} (h : ARep M w d x) (hm : ∀ b, b < w.heap.size → M' b → M b) : ARep M' w d x := h.ev (Ev.refl no w) (fun b hb h => h.elim (fun h => h.elim) (hm b hb))
theorem VRep.to {M : Nat → Prop} {w w' : World} {d : List Dat} {x : List Value} (h : VRep M w d x) (he : Ev no w w') : VRep M w' d x := h.ev he (fun _ _ h => h.elim (fun h => h.elim) id)
theorem ARep.slice {M : Nat → Prop} {w : World} {k : Nat} {ds : List Dat} {x : Value} (h : ARep M w (.sl k ds) x) :
    ∃ A m c, x = .slice A m c ∧ ds.length = m * k ∧ m ≤ c ∧ (ds ≠ [] → ∃ ad, A = some ad ∧ ¬ M ad.block ∧ ∀ j (hj : j < ds.length), ∃ y, w.cell? (ad.add j) = some y ∧ ARep M w ds[j] y) := by
  unfold ARep at h
  obtain ⟨A, m, c, e, hl, hc, hr⟩ := h
  refine ⟨A, m, c, e, hl, hc, fun hn => ?_⟩
  obtain ⟨ad, ha, hM, hL⟩ := hr hn
  exact ⟨ad, ha, hM, fun j hj => by have := hL.get j hj; rwa [Nat.zero_add] at this⟩
theorem ARep.val {M : Nat → Prop} {w : World} {u x : Value} (h : ARep M w (.v u) x) : x = u := by unfold ARep at h; exact h.1
theorem ARep.one {M : Nat → Prop} {w : World} {d : Dat} {x : Value} (h : ARep M w d x) : x.oneCell' = true := by
  cases d <;> unfold ARep at h
  · rw [h.1]; exact h.2
  · obtain ⟨A, m, c, rfl, _⟩ := h; rfl
  · obtain ⟨u, rfl, _⟩ := h; rfl
theorem VRep.one {M : Nat → Prop} {w : World} {ds : List Dat} {xs : List Value} (h : VRep M w ds xs) : ∀ x ∈ xs, x.oneCell' = true := by
  intro x hx
  obtain ⟨j, hj, rfl⟩ := List.getElem_of_mem hx
  have hl := h.len
  exact (h.get j _ _ (List.getElem?_eq_getElem hj) (List.getElem?_eq_getElem (by omega))).one
def Own (M : Nat → Prop) (w : World) (base : Nat) (e : TypeId) (k : Nat) (ds : List Dat) (v : Value) : Prop :=
  ∃ m xs, w.ownsRow base e k v m xs ∧ VRep (or2 M (ob v)) w ds xs
theorem Own.nil (M : Nat → Prop) (w : World) (base : Nat) (e : TypeId) (k : Nat) : Own M w base e k [] (.slice none 0 0) := ⟨0, [], World.ownsRow_nil w base e k, VRep.nil⟩
theorem Own.lt {M : Nat → Prop} {w : World} {base : Nat} {e : TypeId} {k : Nat} {ds : List Dat} {v : Value} (h : Own M w base e k ds v) : ∀ b, ob v b → base ≤ b ∧ b < w.heap.size := by
  obtain ⟨m, xs, ho, _⟩ := h; exact ho.lt
theorem Own.ev {M M' N : Nat → Prop} {w w' : World} {base : Nat} {e : TypeId} {k : Nat} {ds : List Dat} {v : Value} (h : Own M w base e k ds v) (he : Ev N w w') (hm : ∀ b, b < w.heap.size → (N b ∨ M' b) → M b) (hN : ∀ b, ob v b → ¬ N b) : Own M' w' base e k ds v := by
  obtain ⟨m, xs, ⟨hl, ho⟩, hx⟩ := h
  refine ⟨m, xs, ⟨hl, ?_⟩, ?_⟩
  · rcases ho with ho | ⟨g, cap, cur, rfl, hb, hh, r⟩
    · exact .inl ho
    · exact .inr ⟨g, cap, cur, rfl, hb, by rw [he.block g (Array.getElem?_eq_some_iff.1 hh).1 (hN g rfl)]; exact hh, r⟩
  ·
    have he' : Ev (fun b => N b ∧ ¬ ob v b) w w' := he.mono fun b hb hn => ⟨hn, fun ho => hN b ho hn⟩
    exact hx.ev he' (fun b hb h => by
      rcases h with h | h
      · exact .inl (hm b hb (.inl h.1))
      · rcases h with h | h
        · exact .inl (hm b hb (.inr h))
        · exact .inr h)
theorem Own.to {M : Nat → Prop} {w w' : World} {base : Nat} {e : TypeId} {k : Nat} {ds : List Dat} {v : Value} (h : Own M w base e k ds v) (he : Ev no w w') : Own M w' base e k ds v := h.ev he (fun _ _ h => h.elim (fun h => h.elim) id) (fun _ _ h => h.elim)
def elemOk (P : Program) (e : TypeId) (k : Nat) : Bool :=
  match P.info? e with
  | some i => i.size == k && Nat.ble i.bytes 32768 && Nat.blt 0 k && (match i.zero with | some z => z.cells.size == k | none => false)
  | none => false
theorem elemOk_spec {P : Program} {e : TypeId} {k : Nat} (h : elemOk P e k = true) : ∃ i z, P.info? e = some i ∧ i.size = k ∧ i.bytes ≤ 32768 ∧ 0 < k ∧ i.zero = some z ∧ z.cells.size = k := by
  unfold elemOk at h
  split at h
  · rename_i i hi
    simp only [Bool.and_eq_true, beq_iff_eq] at h
    obtain ⟨⟨⟨h1, h2⟩, h3⟩, h4⟩ := h
    split at h4
    · rename_i z hz
      exact ⟨i, z, hi, h1, Nat.le_of_ble_eq_true h2, by simpa [Nat.blt_eq] using h3, hz, by simpa using h4⟩
    · cases h4
  · cases h
section
variable {P : Program} {L : List TD} {n : Nat} {Q : Exit → Act → World → Prop} {s : MS} {f f' : Env} {w : World} {κ : List Kt} {all : Array Oper} {dec : List Nat} {o : Oper} {al : Bool} {rest : List (Oper × Bool)} {S : World → Prop} {ex : Ex}
theorem sl_tl (hT : TOk P L) {t e : TypeId} {k : Nat} (ht : tl L t = .sl e k) : P.underlying t = some (.slice e) ∧ (P.info? e).isSome = true ∧ P.cellsOf e = k := by
  rcases hT t with h | h
  · rw [h] at ht; cases ht
  · rw [h] at ht; exact tdOf_sl ht
theorem foldl_set (off : Nat) : ∀ (vs : List Value) (i : Nat) (cs : Array Value), off + i + vs.length ≤ cs.size → ∀ j : Nat,
    ((vs.zipIdx i).foldl (fun cs (x : Value × Nat) => cs.setIfInBounds (off + x.2) x.1) cs)[j]? = if off + i ≤ j ∧ j < off + i + vs.length then vs[j - (off + i)]? else cs[j]?
  | [], i, cs, h, j => by simp; omega
  | v :: vs, i, cs, h, j => by
    simp only [List.zipIdx_cons, List.foldl_cons]
    simp at h
    rw [foldl_set off vs (i + 1) _ (by simp; omega) j, Array.getElem?_setIfInBounds]
    by_cases h1 : off + i = j
    · subst h1
      simp [show off + i < cs.size by omega, show ¬ (off + (i + 1) ≤ off + i) by omega]
    · by_cases h2 : off + (i + 1) ≤ j ∧ j < off + (i + 1) + vs.length
      · obtain ⟨d, rfl⟩ : ∃ d, j = off + (i + 1) + d := ⟨j - (off + (i + 1)), by omega⟩
        simp only [h2, and_self, if_true, List.length_cons]
        rw [if_pos (by omega), show off + (i + 1) + d - (off + (i + 1)) = d by omega, show off + (i + 1) + d - (off + i) = d + 1 by omega]
        simp
      · rw [if_neg h2, if_neg h1, if_neg (by simp; omega)]
theorem run_appendR {P : Program} {w : World} {base : Nat} {t ty e : TypeId} {k m0 m c : Nat} {xs news : List Value} {v : Value} {A : Option Addr} (ht : P.underlying t = some (.slice e)) (he : elemOk P e k = true) (hown : w.ownsRow base e k v m0 xs) (hbase : base ≤ w.heap.size)
    (hnl : news.length = m * k) (hc : news ≠ [] → ∃ ad, A = some ad ∧ Cells w ad news) (h1 : ∀ u ∈ news, u.oneCell' = true) (hl : m0 + m ≤ lim) :
    ∃ v' w', (Builtin.append_ #[t, t] ty #[v, .slice A m c]).run P w = .ok v' w' ∧ w'.ownsRow base e k v' (m0 + m) (xs ++ news) ∧ Ev (ob v) w w' ∧ (∀ b, ob v' b → ob v b ∨ w.heap.size ≤ b) := by
  obtain ⟨i, z, hi, hsz, hby, hk, hz, hzk⟩ := elemOk_spec he
  have hsum : m0 + m ≤ 4294967296 := by unfold lim at hl; omega
  cases A with
  | none =>
    have hnil : news = [] := by
      by_cases hne : news = []
      · exact hne
      · obtain ⟨ad, h, _⟩ := hc hne; cases h
    subst hnil
    have hm : m = 0 := by
      rcases Nat.eq_zero_or_pos m with h | h
      · exact h
      · have : 0 < m * k := Nat.mul_pos h hk
        simp at hnl; omega
    subst hm
    refine ⟨v, w, ?_, by simpa using hown, Ev.refl _ _, fun b hb => .inl hb⟩
    rcases hown.2 with ⟨rfl, hn⟩ | ⟨g, cap, cur, rfl, _, _, hnc, _⟩
    · simp [Builtin.append_, run_underlying ht, sizeOf, typeInfo, hi, Builtin.lenOf, Builtin.firstCells]
    · simp [Builtin.append_, run_underlying ht, sizeOf, typeInfo, hi, Builtin.lenOf, Builtin.firstCells, hnc, storeCells]
  | some ad =>
    have hb : (m0 + m) * i.bytes ≤ 140737488355328 := Nat.le_trans (Nat.mul_le_mul hsum hby) (by decide)
    obtain ⟨v', w', hrun, h1, h2, _, h3⟩ := run_append_own_at (P := P) w base t ty e i z k i.bytes ht hi hz hsz rfl hzk hk v m0 xs hown ad m c news hnl (fun j u h => by
      have hne : news ≠ [] := by intro e; rw [e] at h; simp at h
      obtain ⟨ad', e, hcc⟩ := hc hne
      cases e
      exact hcc j u h) h1 (by unfold maxLen; omega) hb hbase
    refine ⟨v', w', hrun, h1, Ev.grown h2 fun k hk => hk, fun b hb => ?_⟩
    unfold ob at hb ⊢
    rcases h3 with h3 | h3
    · left; rw [← h3]; exact hb
    · right; rw [h3] at hb; cases hb; exact Nat.le_refl _
def setL : List Value → Nat → List Value → List Value
  | cs, _, [] => cs
  | cs, i, v :: vs => setL (cs.set i v) (i + 1) vs
theorem setAll_blk {g : Nat} {t : TypeId} (off : Nat) : ∀ (vs : List Value) (i : Nat) (w : World) (cs : List Value), Blk w g t cs → Blk (setAll w ⟨g, off, none⟩ i vs) g t (setL cs (off + i) vs) ∧ Ev (at1 g) w (setAll w ⟨g, off, none⟩ i vs)
  | [], i, w, cs, h => ⟨h, Ev.refl _ _⟩
  | v :: vs, i, w, cs, h => by
    unfold setAll setL
    rw [add_off]
    obtain ⟨h1, h2⟩ := setAll_blk off vs (i + 1) _ _ (h.set (off + i) v)
    exact ⟨h1, (Ev.setCell w ⟨g, off + i, none⟩ v).trans h2⟩
end
end Go.Proofs.YtjcolfogmmjaoaaGreatDoor.V
end

section
set_option linter.unusedVariables false
set_option linter.unusedSimpArgs false
namespace Go.Proofs.YtjcolfogmmjaoaaGreatDoor.V
section
variable {P : Program} {L : List TD} {n : Nat} {Q : Exit → Act → World → Prop} {s : MS} {f f' : Env} {w : World} {κ : List Kt} {all : Array Oper} {dec : List Nat} {o : Oper} {al : Bool} {rest : List (Oper × Bool)} {S : World → Prop} {ex : Ex}
def bld (z : Array Value) (fs : List (Nat × Nat × Bool)) (parts : List (Nat × Value)) : Option (Array Value) := Instr.fill (fun i => (fs[i]?).map fun q => (q.1, q.2.1)) z parts
def byV (b : UInt8) : Value := .int .u8 b.toNat
def byD (b : UInt8) : Dat := .v (byV b)
def bytesD (l : List UInt8) : Dat := .sl 1 (l.map byD)
theorem run_pushes {P : Program} {w : World} (g : Value → ByteArray → Sem (ForInStep ByteArray)) (hg : ∀ (b : UInt8) (r : ByteArray), (g (byV b) r).run P w = .ok (.yield (r.push b)) w) : ∀ (l : List UInt8) (s : ByteArray),
    (forIn (m := Sem) (l.map byV) s g).run P w = .ok ⟨s.data ++ l.toArray⟩ w
  | [], s => by simp
  | b :: l, s => by
    simp only [List.map_cons, List.forIn_cons, Sem.run_bind, hg, Result.andThen_ok]
    rw [run_pushes g hg l]
    simp [ByteArray.push]
theorem int_tl (hT : TOk P L) {t : TypeId} {k : IntKind} (ht : tl L t = .int k) : P.underlying t = some (.int k) := by
  rcases hT t with h | h
  · rw [h] at ht; cases ht
  · rw [h] at ht; exact tdOf_int ht
theorem str_tl (hT : TOk P L) {t : TypeId} (ht : tl L t = .str) : P.underlying t = some .string := by
  rcases hT t with h | h
  · rw [h] at ht; cases ht
  · rw [h] at ht; exact tdOf_str ht
theorem cell_freeze (w : World) (a : Addr) (m : Nat) (b : Addr) : (w.freeze a m).cell? b = w.cell? b := by
  unfold World.freeze
  split
  · rfl
  · by_cases he : a.block = b.block
    · simp only [World.cell?, Array.getElem?_modify, he, if_true]
      cases w.heap[b.block]? with
      | none => rfl
      | some o => cases o <;> rfl
    · simp only [World.cell?, Array.getElem?_modify, he, if_false]
theorem Ev.freeze (w : World) (a : Addr) (m : Nat) : Ev (at1 a.block) w (w.freeze a m) := by
  unfold World.freeze
  split
  · exact Ev.refl _ _
  · refine ⟨rfl, rfl, rfl, by simp, fun b hb hn => ?_⟩
    simp only [Array.getElem?_modify]
    rw [if_neg (fun e => hn e.symm)]
theorem ARep.cells {M : Nat → Prop} {w w' : World} (hc : ∀ a, w'.cell? a = w.cell? a) {d : Dat} {x : Value} (h : ARep M w d x) : ARep M w' d x := by
  have key : ∀ (d : Dat) (x : Value), ARep M w d x → ARep M w' d x := by
    intro d
    refine Dat.rec (motive_1 := fun d => ∀ x, ARep M w d x → ARep M w' d x) (motive_2 := fun ds => (∀ ad i, LRep M w ds ad i → LRep M w' ds ad i) ∧ (∀ xs, VRep M w ds xs → VRep M w' ds xs)) ?_ ?_ ?_ ?_ ?_ d
    · intro u x h; unfold ARep at h ⊢; exact h
    · intro k ds ih x h
      unfold ARep at h ⊢
      obtain ⟨A, m, c, e, hl, hc, hr⟩ := h
      exact ⟨A, m, c, e, hl, hc, fun hn => let ⟨ad, ha, hM, hL⟩ := hr hn; ⟨ad, ha, hM, ih.1 _ _ hL⟩⟩
    · intro t ag ds ih x h
      unfold ARep at h ⊢
      obtain ⟨u, e, h1, h2, h3⟩ := h
      exact ⟨u, e, h1, h2, ih.2 _ h3⟩
    · exact ⟨fun ad i _ => by unfold LRep; trivial, fun xs h => by unfold VRep at h ⊢; exact h⟩
    · intro d ds ih1 ih2
      refine ⟨fun ad i h => ?_, fun xs h => ?_⟩
      · unfold LRep at h ⊢
        obtain ⟨⟨x, hx, hd⟩, h2⟩ := h
        exact ⟨⟨x, by rw [hc]; exact hx, ih1 x hd⟩, ih2.1 _ _ h2⟩
      · unfold VRep at h ⊢
        obtain ⟨x, r, e, hx, h2⟩ := h
        exact ⟨x, r, e, ih1 x hx, ih2.2 _ h2⟩
  exact key d x h
end
end Go.Proofs.YtjcolfogmmjaoaaGreatDoor.V
end
