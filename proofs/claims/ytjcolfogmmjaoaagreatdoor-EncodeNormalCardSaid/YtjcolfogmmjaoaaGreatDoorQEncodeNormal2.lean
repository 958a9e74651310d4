import Derived.Test.YtjcolfogmmjaoaaGreatDoorQEncodeNormal1
import Derived.Maps.AppendAt
import Derived.RowKit3
import Derived.Below
section
/- Memory: what an event leaves as it was, blocks of one's own, data that is read, rows of one's own. It holds of any program. -/
set_option linter.unusedVariables false
set_option linter.unusedSimpArgs false
namespace Go.Proofs.YtjcolfogmmjaoaaGreatDoor.V

/-- What happened: blocks of M may have turned, new ones have come. -/
structure Ev (M : Nat → Prop) (w w' : World) : Prop where
  os : w'.os = w.os
  tape : w'.tape = w.tape
  output : w'.output = w.output
  size : w.heap.size ≤ w'.heap.size
  block : ∀ b, b < w.heap.size → ¬ M b → w'.heap[b]? = w.heap[b]?
/-- No block. -/
def no : Nat → Prop := fun _ => False
/-- One block. -/
def at1 (g : Nat) : Nat → Prop := fun b => b = g
/-- A row's own block. -/
def ob (v : Value) : Nat → Prop := fun b => v.ownBlock = some b
def or2 (M N : Nat → Prop) : Nat → Prop := fun b => M b ∨ N b
/-- A bound on lengths. -/
def lim : Nat := 4294967296
theorem Ev.refl (M : Nat → Prop) (w : World) : Ev M w w := ⟨rfl, rfl, rfl, Nat.le_refl _, fun _ _ _ => rfl⟩
theorem Ev.mono {M M' : Nat → Prop} {w w' : World} (h : Ev M w w') (hm : ∀ b, b < w.heap.size → M b → M' b) : Ev M' w w' :=
  ⟨h.os, h.tape, h.output, h.size, fun b hb hn => h.block b hb fun hM => hn (hm b hb hM)⟩
/-- One event behind another; what the second may turn is M's, or was new. -/
theorem Ev.then {M N : Nat → Prop} {a b c : World} (h : Ev M a b) (k : Ev N b c) (hm : ∀ i, i < a.heap.size → N i → M i) : Ev M a c :=
  ⟨k.os.trans h.os, k.tape.trans h.tape, k.output.trans h.output, Nat.le_trans h.size k.size,
    fun i hi hn => (k.block i (Nat.lt_of_lt_of_le hi h.size) fun h1 => hn (hm i hi h1)).trans (h.block i hi hn)⟩
theorem Ev.trans {M : Nat → Prop} {a b c : World} (h : Ev M a b) (k : Ev M b c) : Ev M a c := h.then k fun _ _ h => h
theorem Ev.no {M : Nat → Prop} {w w' : World} (h : Ev no w w') : Ev M w w' := h.mono fun _ _ h => h.elim
theorem Ev.to {M : Nat → Prop} {a b c : World} (h : Ev M a b) (k : Ev V.no b c) : Ev M a c := h.then k fun _ _ h => h.elim
theorem Ev.below {w w' : World} (h : Ev V.no w w') : RowKit.Below w.heap.size w w' := ⟨h.os, h.tape, h.output, h.size, fun k hk => h.block k hk fun h => h⟩
theorem Ev.grown {M : Nat → Prop} {w w' : World} {row : Option Nat} (h : w.grownBy w' row) (hr : ∀ k, row = some k → M k) : Ev M w w' :=
  ⟨h.os, h.tape, h.output, h.size, fun b hb hn => h.block b hb fun e => hn (hr b e.symm)⟩
theorem Ev.alloc (w : World) (o : Obj) : Ev V.no w (w.alloc o) := ⟨rfl, rfl, rfl, by simp, fun b hb _ => RowKit.Below.heap_alloc _ _ _ hb⟩
theorem Ev.drew (w : World) : Ev V.no w w.drew := ⟨rfl, rfl, rfl, Nat.le_refl _, fun _ _ _ => rfl⟩
theorem Ev.setCell (w : World) (p : Addr) (u : Value) : Ev (at1 p.block) w (w.setCell p u) :=
  ⟨rfl, rfl, rfl, by simp [World.setCell], fun b hb hn => RowKit.Below.heap_setCell _ _ _ _ hn⟩
theorem Ev.cell {M : Nat → Prop} {w w' : World} (h : Ev M w w') {a : Addr} {v : Value} (hc : w.cell? a = some v) (hM : ¬ M a.block) : w'.cell? a = some v :=
  (World.cell?_of_block (w := w) (h.block _ (World.block_lt_of_cell? w a hc) hM)).trans hc

/-! ### A block known whole -/
def Blk (w : World) (g : Nat) (t : TypeId) (cs : List Value) : Prop := w.heap[g]? = some (.cells cs.toArray t (0, 0))
theorem Blk.lt {w : World} {g : Nat} {t : TypeId} {cs : List Value} (h : Blk w g t cs) : g < w.heap.size := (Array.getElem?_eq_some_iff.1 h).1
theorem Blk.cell {w : World} {g : Nat} {t : TypeId} {cs : List Value} (h : Blk w g t cs) (i : Nat) {v : Value} (hv : cs[i]? = some v) : w.cell? ⟨g, i, none⟩ = some v := by
  rw [cell_of_row w g i _ t (0, 0) h]; simpa using hv
theorem Blk.free {w : World} {g : Nat} {t : TypeId} {cs : List Value} (h : Blk w g t cs) (i : Nat) : w.frozen? ⟨g, i, none⟩ = false := frozen_of_row w g i _ t h
theorem Blk.ev {M : Nat → Prop} {w w' : World} {g : Nat} {t : TypeId} {cs : List Value} (h : Blk w g t cs) (he : Ev M w w') (hM : ¬ M g) : Blk w' g t cs := by
  unfold Blk; rw [he.block g h.lt hM]; exact h
theorem Blk.new (w : World) (t : TypeId) (cs : List Value) : Blk (w.alloc (.cells cs.toArray t)) w.heap.size t cs := heap_alloc_new w _
theorem Blk.set {w : World} {g : Nat} {t : TypeId} {cs : List Value} (h : Blk w g t cs) (i : Nat) (v : Value) : Blk (w.setCell ⟨g, i, none⟩ v) g t (cs.set i v) := by
  unfold Blk
  rw [heap_setCell_same w g i _ t v h]
  simp
theorem Blk.cells {w : World} {g : Nat} {t : TypeId} {cs : List Value} (h : Blk w g t cs) : Cells w ⟨g, 0, none⟩ cs := by
  intro j v hv
  have : (⟨g, 0, none⟩ : Addr).add j = ⟨g, j, none⟩ := by unfold Addr.add; split <;> simp_all
  rw [this]; exact h.cell j hv

section
variable {P : Program} {L : List TD} {n : Nat} {Q : Exit → Act → World → Prop} {s : MS} {f f' : Env} {w : World} {κ : List Kt} {all : Array Oper} {dec : List Nat} {o : Oper} {al : Bool} {rest : List (Oper × Bool)} {S : World → Prop} {ex : Ex}

/-- A cell of a block known whole is read. -/
theorem go_ldB (hT : TOk P L) {t t' : TypeId} {x : Operand} {g i : Nat} {cs : List Value} {v : Value} (h : mach L n fuel s f = .op none κ all dec o al rest f') (ho : o.op = .load t x) (ht : oneT (tl L t) = true) (hx : ev n f' x = .pointer (some ⟨g, i, none⟩))
    (hb : Blk w g t' cs) (hv : cs[i]? = some v) (hk : DenS P n Q (.ops none κ all dec rest) (put f' o.dst v) w) : DenS P n Q s f w := go_ld hT h ho ht hx (hb.cell i hv) hk
/-- .. is written. -/
theorem go_stB (hT : TOk P L) {t t' : TypeId} {x y : Operand} {g i : Nat} {cs : List Value} {v : Value} (h : mach L n fuel s f = .op none κ all dec o true rest f') (ho : o.op = .store t x y) (ht : oneT (tl L t) = true) (hx : ev n f' x = .pointer (some ⟨g, i, none⟩)) (hy : ev n f' y = v) (hv : v.oneCell' = true)
    (hb : Blk w g t' cs) (hi : Nat.blt i cs.length = true) (hk : ∀ w', Ev (at1 g) w w' → Blk w' g t' (cs.set i v) → DenS P n Q (.ops none κ all dec rest) (put f' o.dst undef) w') : DenS P n Q s f w := by
  have hi' : i < cs.length := by simpa [Nat.blt_eq] using hi
  exact go_st hT h ho ht hx hy hv (hb.cell i (List.getElem?_eq_getElem hi')) (hb.free i) (hk _ (Ev.setCell w ⟨g, i, none⟩ v) (hb.set i v))
theorem go_stBS (hT : TOk P L) {t t' : TypeId} {x y : Operand} {g i : Nat} {cs : List Value} {v : Value} (h : mach L n fuel s f = .op (some (S, ex)) κ all dec o true rest f') (ho : o.op = .store t x y) (ht : oneT (tl L t) = true) (hx : ev n f' x = .pointer (some ⟨g, i, none⟩)) (hy : ev n f' y = v) (hv : v.oneCell' = true)
    (hb : Blk w g t' cs) (hi : Nat.blt i cs.length = true) (hk : ∀ w', Ev (at1 g) w w' → Blk w' g t' (cs.set i v) → ((ex.b && rest.isEmpty) = true ∨ S w') ∧ DenS P n Q (.ops (some (S, ex)) κ all dec rest) (put f' o.dst undef) w') : DenS P n Q s f w := by
  have hi' : i < cs.length := by simpa [Nat.blt_eq] using hi
  have := hk _ (Ev.setCell w ⟨g, i, none⟩ v) (hb.set i v)
  exact go_stS hT h ho ht hx hy hv (hb.cell i (List.getElem?_eq_getElem hi')) (hb.free i) this.1 this.2
/-- A variable of its own. -/
theorem go_boxB (hT : TOk P L) {D : Dr} {t : TypeId} {x : Operand} {v : Value} {cs : List Value} (h : mach L n fuel s f = .op D κ all dec o true rest f') (ho : o.op = .box t x) (hx : ev n f' x = v) (hcs : v.cells = cs.toArray)
    (hk : ∀ w' g, Ev no w w' → w.heap.size ≤ g → Blk w' g t cs → Keep D rest.isEmpty w' ∧ DenS P n Q (.ops D κ all dec rest) (put f' o.dst (.pointer (some ⟨g, 0, none⟩))) w') : DenS P n Q s f w := by
  have := hk _ _ (Ev.alloc w (.cells v.cells t)) (Nat.le_refl _) (by rw [hcs]; exact Blk.new w t cs)
  exact go_box hT h ho hx this.1 this.2
theorem go_newB (hT : TOk P L) {D : Dr} {t : TypeId} (z : Value) {cs : List Value} (h : mach L n fuel s f = .op D κ all dec o true rest f') (ho : o.op = .alloc t) (hz : (P.info? t).map (·.zero) = some (some z)) (hcs : z.cells = cs.toArray)
    (hk : ∀ w' g, Ev no w w' → w.heap.size ≤ g → Blk w' g t cs → Keep D rest.isEmpty w' ∧ DenS P n Q (.ops D κ all dec rest) (put f' o.dst (.pointer (some ⟨g, 0, none⟩))) w') : DenS P n Q s f w := by
  have := hk _ _ (Ev.alloc w (.cells z.cells t)) (Nat.le_refl _) (by rw [hcs]; exact Blk.new w t cs)
  exact go_new hT z h ho hz this.1 this.2
end

/-! ### Data that is read -/
inductive Dat where
  | v (x : Value)
  | sl (k : Nat) (ds : List Dat)
  | ifc (t : TypeId) (ag : Bool) (ds : List Dat)
mutual
/-- In world w the value x is the datum; what it leads to lies outside M. -/
def ARep (M : Nat → Prop) (w : World) : Dat → Value → Prop
  | .v u, x => x = u ∧ u.oneCell' = true
  | .sl k ds, x => ∃ A m c, x = .slice A m c ∧ ds.length = m * k ∧ m ≤ c ∧ (ds ≠ [] → ∃ ad, A = some ad ∧ ¬ M ad.block ∧ LRep M w ds ad 0)
  | .ifc t ag ds, x => ∃ u : Value, x = .iface t u ∧ (ag = true → u = .agg u.cells) ∧ (ag = false → u.oneCell' = true) ∧ VRep M w ds u.cells.toList
/-- The cells from a + i on. -/
def LRep (M : Nat → Prop) (w : World) : List Dat → Addr → Nat → Prop
  | [], _, _ => True
  | d :: ds, ad, i => (∃ x, w.cell? (ad.add i) = some x ∧ ARep M w d x) ∧ LRep M w ds ad (i + 1)
/-- The cells of a value. -/
def VRep (M : Nat → Prop) (w : World) : List Dat → List Value → Prop
  | [], xs => xs = []
  | d :: ds, xs => ∃ x r, xs = x :: r ∧ ARep M w d x ∧ VRep M w ds r
end
theorem add_block (a : Addr) (i : Nat) : (a.add i).block = a.block := by unfold Addr.add; split <;> rfl
theorem add_plain (g j : Nat) : (⟨g, 0, none⟩ : Addr).add j = ⟨g, j, none⟩ := by unfold Addr.add; split <;> simp_all
theorem add_off (g i j : Nat) : (⟨g, i, none⟩ : Addr).add j = ⟨g, i + j, none⟩ := by unfold Addr.add; split <;> simp_all
theorem LRep.get {M : Nat → Prop} {w : World} {ad : Addr} : ∀ {ds : List Dat} {i : Nat}, LRep M w ds ad i → ∀ j (h : j < ds.length), ∃ x, w.cell? (ad.add (i + j)) = some x ∧ ARep M w ds[j] x
  | [], _, _, j, h => absurd h (by simp)
  | d :: ds, i, hr, 0, h => by unfold LRep at hr; simpa using hr.1
  | d :: ds, i, hr, j + 1, h => by
    unfold LRep at hr
    have := hr.2.get j (by simpa using h)
    simpa [Nat.add_assoc, Nat.add_comm 1 j] using this
theorem LRep.mk {M : Nat → Prop} {w : World} {ad : Addr} : ∀ {ds : List Dat} {i : Nat}, (∀ j (h : j < ds.length), ∃ x, w.cell? (ad.add (i + j)) = some x ∧ ARep M w ds[j] x) → LRep M w ds ad i
  | [], _, _ => by unfold LRep; trivial
  | d :: ds, i, hr => by
    unfold LRep
    refine ⟨by have := hr 0 (by simp); rwa [Nat.add_zero] at this, LRep.mk fun j h => ?_⟩
    have := hr (j + 1) (by simpa using h)
    simpa [Nat.add_assoc, Nat.add_comm 1 j] using this
theorem VRep.len {M : Nat → Prop} {w : World} : ∀ {ds : List Dat} {xs : List Value}, VRep M w ds xs → xs.length = ds.length
  | [], xs, h => by unfold VRep at h; simp [h]
  | d :: ds, xs, h => by unfold VRep at h; obtain ⟨x, r, rfl, _, h2⟩ := h; simp [h2.len]
theorem VRep.get {M : Nat → Prop} {w : World} : ∀ {ds : List Dat} {xs : List Value}, VRep M w ds xs → ∀ (j : Nat) (x : Value) (d : Dat), xs[j]? = some x → ds[j]? = some d → ARep M w d x
  | [], xs, h, j, x, d, hx, hd => by simp at hd
  | d :: ds, xs, h, j, x, d', hx, hd => by
    unfold VRep at h
    obtain ⟨y, r, rfl, h1, h2⟩ := h
    cases j with
    | zero => simp at hx hd; subst hx; subst hd; exact h1
    | succ j => exact h2.get j x d' (by simpa using hx) (by simpa using hd)
theorem VRep.mk {M : Nat → Prop} {w : World} : ∀ {ds : List Dat} {xs : List Value}, xs.length = ds.length → (∀ (j : Nat) (x : Value) (d : Dat), xs[j]? = some x → ds[j]? = some d → ARep M w d x) → VRep M w ds xs
  | [], xs, hl, h => by unfold VRep; exact List.eq_nil_of_length_eq_zero (by simpa using hl)
  | d :: ds, [], hl, h => by simp at hl
  | d :: ds, x :: xs, hl, h => by
    unfold VRep
    exact ⟨x, xs, rfl, h 0 x d rfl rfl, VRep.mk (by simpa using hl) fun j y e hy he => h (j + 1) y e (by simpa using hy) (by simpa using he)⟩
theorem VRep.nil {M : Nat → Prop} {w : World} : VRep M w [] [] := by unfold VRep; rfl
theorem VRep.cons {M : Nat → Prop} {w : World} {d : Dat} {ds : List Dat} {x : Value} {xs : List Value} (h : ARep M w d x) (h2 : VRep M w ds xs) : VRep M w (d :: ds) (x :: xs) := by unfold VRep; exact ⟨x, xs, rfl, h, h2⟩
theorem VRep.app {M : Nat → Prop} {w : World} : ∀ {ds ds2 : List Dat} {xs xs2 : List Value}, VRep M w ds xs → VRep M w ds2 xs2 → VRep M w (ds ++ ds2) (xs ++ xs2)
  | [], ds2, xs, xs2, h, h2 => by unfold VRep at h; subst h; simpa using h2
  | d :: ds, ds2, xs, xs2, h, h2 => by
    unfold VRep at h
    obtain ⟨x, r, rfl, h1, h3⟩ := h
    exact VRep.cons h1 (h3.app h2)
mutual
/-- Data outlive what happens elsewhere; and what is theirs may be told anew, as long as it is true of the blocks that there are. -/
theorem ARep.ev {M M' N : Nat → Prop} {w w' : World} (he : Ev N w w') (hm : ∀ b, b < w.heap.size → (N b ∨ M' b) → M b) : ∀ {d : Dat} {x : Value}, ARep M w d x → ARep M' w' d x
  | .v u, x, h => by unfold ARep at h ⊢; exact h
  | .sl k ds, x, h => by
    unfold ARep at h ⊢
    obtain ⟨A, n, c, e, hl, hc, hr⟩ := h
    refine ⟨A, n, c, e, hl, hc, fun hn => ?_⟩
    obtain ⟨ad, ha, hM, hL⟩ := hr hn
    have hlt : ad.block < w.heap.size := by
      cases ds with
      | nil => exact absurd rfl hn
      | cons d ds =>
        unfold LRep at hL
        obtain ⟨⟨x, hc, _⟩, _⟩ := hL
        have := World.block_lt_of_cell? w _ hc
        rwa [add_block] at this
    exact ⟨ad, ha, fun h' => hM (hm _ hlt (.inr h')), LRep.ev he hm (fun h' => hM (hm _ hlt (.inl h'))) hL⟩
  | .ifc t ag ds, x, h => by
    unfold ARep at h ⊢
    obtain ⟨u, e, h1, h2, h3⟩ := h
    exact ⟨u, e, h1, h2, VRep.ev he hm h3⟩
theorem LRep.ev {M M' N : Nat → Prop} {w w' : World} (he : Ev N w w') (hm : ∀ b, b < w.heap.size → (N b ∨ M' b) → M b) : ∀ {ds : List Dat} {ad : Addr} {i : Nat}, ¬ N ad.block → LRep M w ds ad i → LRep M' w' ds ad i
  | [], _, _, _, _ => by unfold LRep; trivial
  | d :: ds, ad, i, hN, h => by
    unfold LRep at h ⊢
    obtain ⟨⟨x, hc, hx⟩, h2⟩ := h
    exact ⟨⟨x, he.cell hc (by rwa [add_block]), ARep.ev he hm hx⟩, LRep.ev he hm hN h2⟩
theorem VRep.ev {M M' N : Nat → Prop} {w w' : World} (he : Ev N w w') (hm : ∀ b, b < w.heap.size → (N b ∨ M' b) → M b) : ∀ {ds : List Dat} {xs : List Value}, VRep M w ds xs → VRep M' w' ds xs
  | [], xs, h => by unfold VRep at h ⊢; exact h
  | d :: ds, xs, h => by
    unfold VRep at h ⊢
    obtain ⟨x, r, e, hx, h2⟩ := h
    exact ⟨x, r, e, ARep.ev he hm hx, VRep.ev he hm h2⟩
end
theorem ARep.to {M : Nat → Prop} {w w' : World} {d : Dat} {x : Value} (h : ARep M w d x) (he : Ev no w w') : ARep M w' d x := h.ev he (fun _ _ h => h.elim (fun h => h.elim) id)
theorem ARep.any {M M' : Nat → Prop} {w : World} {d : Dat} {x : Value} (h : ARep M w d x) (hm : ∀ b, b < w.heap.size → M' b → M b) : ARep M' w d x := h.ev (Ev.refl no w) (fun b hb h => h.elim (fun h => h.elim) (hm b hb))
/-- Over an event that only makes: it lies outside what is new, too. -/
theorem ARep.past {M M' : Nat → Prop} {w w' : World} {d : Dat} {x : Value} (h : ARep M w d x) (he : Ev no w w') (hn : ∀ b, M' b → M b ∨ w.heap.size ≤ b) : ARep M' w' d x :=
  h.ev he (fun b hb hm => hm.elim (fun h => h.elim) fun hm => (hn b hm).elim id fun h => absurd hb (Nat.not_lt.2 h))
theorem VRep.past {M M' : Nat → Prop} {w w' : World} {d : List Dat} {x : List Value} (h : VRep M w d x) (he : Ev no w w') (hn : ∀ b, M' b → M b ∨ w.heap.size ≤ b) : VRep M' w' d x :=
  h.ev he (fun b hb hm => hm.elim (fun h => h.elim) fun hm => (hn b hm).elim id fun h => absurd hb (Nat.not_lt.2 h))
theorem VRep.to {M : Nat → Prop} {w w' : World} {d : List Dat} {x : List Value} (h : VRep M w d x) (he : Ev no w w') : VRep M w' d x := h.ev he (fun _ _ h => h.elim (fun h => h.elim) id)

/-- A slice that is read: its shape, and its elements' cells. -/
theorem ARep.slice {M : Nat → Prop} {w : World} {k : Nat} {ds : List Dat} {x : Value} (h : ARep M w (.sl k ds) x) :
    ∃ A m c, x = .slice A m c ∧ ds.length = m * k ∧ m ≤ c ∧ (ds ≠ [] → ∃ ad, A = some ad ∧ ¬ M ad.block ∧ ∀ j (hj : j < ds.length), ∃ y, w.cell? (ad.add j) = some y ∧ ARep M w ds[j] y) := by
  unfold ARep at h
  obtain ⟨A, m, c, e, hl, hc, hr⟩ := h
  refine ⟨A, m, c, e, hl, hc, fun hn => ?_⟩
  obtain ⟨ad, ha, hM, hL⟩ := hr hn
  exact ⟨ad, ha, hM, fun j hj => by have := hL.get j hj; rwa [Nat.zero_add] at this⟩
theorem ARep.mkSlice {M : Nat → Prop} {w : World} {k : Nat} {ds : List Dat} {A : Option Addr} {m c : Nat} (hl : ds.length = m * k) (hc : m ≤ c) (h : ds ≠ [] → ∃ ad, A = some ad ∧ ¬ M ad.block ∧ ∀ j (hj : j < ds.length), ∃ y, w.cell? (ad.add j) = some y ∧ ARep M w ds[j] y) :
    ARep M w (.sl k ds) (.slice A m c) := by
  unfold ARep
  refine ⟨A, m, c, rfl, hl, hc, fun hn => ?_⟩
  obtain ⟨ad, ha, hM, hL⟩ := h hn
  exact ⟨ad, ha, hM, LRep.mk fun j hj => by rw [Nat.zero_add]; exact hL j hj⟩
theorem ARep.val {M : Nat → Prop} {w : World} {u x : Value} (h : ARep M w (.v u) x) : x = u := by unfold ARep at h; exact h.1
theorem ARep.mkVal {M : Nat → Prop} {w : World} {u : Value} (h : u.oneCell' = true) : ARep M w (.v u) u := by unfold ARep; exact ⟨rfl, h⟩
theorem ARep.one {M : Nat → Prop} {w : World} {d : Dat} {x : Value} (h : ARep M w d x) : x.oneCell' = true := by
  cases d <;> unfold ARep at h
  · rw [h.1]; exact h.2
  · obtain ⟨A, m, c, rfl, _⟩ := h; rfl
  · obtain ⟨u, rfl, _⟩ := h; rfl
theorem VRep.one {M : Nat → Prop} {w : World} {ds : List Dat} {xs : List Value} (h : VRep M w ds xs) : ∀ x ∈ xs, x.oneCell' = true := by
  intro x hx
  obtain ⟨j, hj, rfl⟩ := List.getElem_of_mem hx
  have hl := h.len
  exact (h.get j _ _ (List.getElem?_eq_getElem hj) (List.getElem?_eq_getElem (by omega))).one

/-! ### A row of one's own -/
/-- v is a row of one's own (from block base on), its elements are ds; what they lead to lies neither in M nor in the row. -/
def Own (M : Nat → Prop) (w : World) (base : Nat) (e : TypeId) (k : Nat) (ds : List Dat) (v : Value) : Prop :=
  ∃ m xs, w.ownsRow base e k v m xs ∧ VRep (or2 M (ob v)) w ds xs
theorem Own.nil (M : Nat → Prop) (w : World) (base : Nat) (e : TypeId) (k : Nat) : Own M w base e k [] (.slice none 0 0) := ⟨0, [], World.ownsRow_nil w base e k, VRep.nil⟩
theorem Own.lt {M : Nat → Prop} {w : World} {base : Nat} {e : TypeId} {k : Nat} {ds : List Dat} {v : Value} (h : Own M w base e k ds v) : ∀ b, ob v b → base ≤ b ∧ b < w.heap.size := by
  obtain ⟨m, xs, ho, _⟩ := h; exact ho.lt
theorem Own.lower {M : Nat → Prop} {w : World} {base base' : Nat} {e : TypeId} {k : Nat} {ds : List Dat} {v : Value} (h : Own M w base e k ds v) (hb : base' ≤ base) : Own M w base' e k ds v := by
  obtain ⟨m, xs, ⟨hl, ho⟩, hv⟩ := h
  refine ⟨m, xs, ⟨hl, ?_⟩, hv⟩
  rcases ho with ho | ⟨g, cap, cur, e1, e2, r⟩
  · exact .inl ho
  · exact .inr ⟨g, cap, cur, e1, by omega, r⟩
/-- It is read, once more. -/
theorem Own.read {M : Nat → Prop} {w : World} {base : Nat} {e : TypeId} {k : Nat} {ds : List Dat} {v : Value} (h : Own M w base e k ds v) (hM : ∀ b, ob v b → ¬ M b) : ARep M w (.sl k ds) v := by
  obtain ⟨m, xs, ho, hx⟩ := h
  have hlen := hx.len
  have hx' : VRep M w ds xs := hx.ev (Ev.refl no w) (fun b _ h => h.elim (fun h => h.elim) .inl)
  rcases ho.2 with ⟨rfl, rfl⟩ | ⟨g, cap, cur, rfl, hb, hh, hn, hc, hs, ht⟩
  · refine ARep.mkSlice (by rw [← hlen, ho.1]) (Nat.le_refl _) fun hne => ?_
    have := ho.1
    simp at this
    subst this
    simp at hlen
    exact absurd hlen.symm (by simpa using hne)
  · refine ARep.mkSlice (by rw [← hlen, ho.1]) hn fun hne => ⟨⟨g, 0, none⟩, rfl, hM g rfl, fun j hj => ?_⟩
    have hjx : j < xs.length := by omega
    exact ⟨xs[j], ho.cells (g := g) rfl j _ (List.getElem?_eq_getElem hjx), hx'.get j _ _ (List.getElem?_eq_getElem hjx) (List.getElem?_eq_getElem hj)⟩
/-- It outlives what happens elsewhere. -/
theorem Own.ev {M M' N : Nat → Prop} {w w' : World} {base : Nat} {e : TypeId} {k : Nat} {ds : List Dat} {v : Value} (h : Own M w base e k ds v) (he : Ev N w w') (hm : ∀ b, b < w.heap.size → (N b ∨ M' b) → M b) (hN : ∀ b, ob v b → ¬ N b) : Own M' w' base e k ds v := by
  obtain ⟨m, xs, ⟨hl, ho⟩, hx⟩ := h
  refine ⟨m, xs, ⟨hl, ?_⟩, ?_⟩
  · rcases ho with ho | ⟨g, cap, cur, rfl, hb, hh, r⟩
    · exact .inl ho
    · exact .inr ⟨g, cap, cur, rfl, hb, by rw [he.block g (Array.getElem?_eq_some_iff.1 hh).1 (hN g rfl)]; exact hh, r⟩
  · -- a block of N that is the row's own: none
    have he' : Ev (fun b => N b ∧ ¬ ob v b) w w' := he.mono fun b hb hn => ⟨hn, fun ho => hN b ho hn⟩
    exact hx.ev he' (fun b hb h => by
      rcases h with h | h
      · exact .inl (hm b hb (.inl h.1))
      · rcases h with h | h
        · exact .inl (hm b hb (.inr h))
        · exact .inr h)
theorem Own.to {M : Nat → Prop} {w w' : World} {base : Nat} {e : TypeId} {k : Nat} {ds : List Dat} {v : Value} (h : Own M w base e k ds v) (he : Ev no w w') : Own M w' base e k ds v := h.ev he (fun _ _ h => h.elim (fun h => h.elim) id) (fun _ _ h => h.elim)

/-- What append and literals ask of an element's type. -/
def elemOk (P : Program) (e : TypeId) (k : Nat) : Bool :=
  match P.info? e with
  | some i => i.size == k && Nat.ble i.bytes 32768 && Nat.blt 0 k && (match i.zero with | some z => z.cells.size == k | none => false)
  | none => false
theorem elemOk_spec {P : Program} {e : TypeId} {k : Nat} (h : elemOk P e k = true) : ∃ i z, P.info? e = some i ∧ i.size = k ∧ i.bytes ≤ 32768 ∧ 0 < k ∧ i.zero = some z ∧ z.cells.size = k := by
  unfold elemOk at h
  split at h
  · rename_i i hi
    simp only [Bool.and_eq_true, beq_iff_eq] at h
    obtain ⟨⟨⟨h1, h2⟩, h3⟩, h4⟩ := h
    split at h4
    · rename_i z hz
      exact ⟨i, z, hi, h1, Nat.le_of_ble_eq_true h2, by simpa [Nat.blt_eq] using h3, hz, by simpa using h4⟩
    · cases h4
  · cases h

theorem run_append_Own {P : Program} {M : Nat → Prop} {w : World} {base : Nat} {t ty e : TypeId} {k : Nat} {ds ds2 : List Dat} {v u : Value} (ht : P.underlying t = some (.slice e)) (he : elemOk P e k = true) (hown : Own M w base e k ds v) (hbase : base ≤ w.heap.size)
    (hr : ARep (or2 M (ob v)) w (.sl k ds2) u) (hl : ds.length + ds2.length ≤ lim) :
    ∃ v' w', (Builtin.append_ #[t, t] ty #[v, u]).run P w = .ok v' w' ∧ Own M w' base e k (ds ++ ds2) v' ∧ Ev (ob v) w w' ∧ (∀ b, ob v' b → ob v b ∨ w.heap.size ≤ b) := by
  obtain ⟨i, z, hi, hsz, hby, hk, hz, hzk⟩ := elemOk_spec he
  obtain ⟨A, m, c, rfl, hlen, hmc, hcells⟩ := hr.slice
  obtain ⟨m0, xs, ho, hx⟩ := hown
  have hm0 : ds.length = m0 * k := by rw [← hx.len]; exact ho.1
  have hd1 : m0 ≤ ds.length := by rw [hm0]; exact Nat.le_mul_of_pos_right _ hk
  have hd2 : m ≤ ds2.length := by rw [hlen]; exact Nat.le_mul_of_pos_right _ hk
  have hsum : m0 + m ≤ 4294967296 := by unfold lim at hl; omega
  -- the new elements' cells
  obtain ⟨news, hnl, hnr, hnc⟩ : ∃ news : List Value, news.length = ds2.length ∧ VRep (or2 M (ob v)) w ds2 news ∧ (∀ ad, A = some ad → ∀ (j : Nat) (y : Value), news[j]? = some y → w.cell? (ad.add j) = some y) := by
    by_cases hne : ds2 = []
    · subst hne; exact ⟨[], rfl, VRep.nil, by simp⟩
    · obtain ⟨ad, rfl, _, hc⟩ := hcells hne
      refine ⟨(List.range ds2.length).map fun j => (w.cell? (ad.add j)).getD undef, by simp, ?_, ?_⟩
      · refine VRep.mk (by simp) fun j x d hx hd => ?_
        obtain ⟨hj, rfl⟩ := List.getElem?_eq_some_iff.1 hd
        rw [List.getElem?_map, List.getElem?_range hj] at hx
        obtain ⟨y, hy, hr⟩ := hc j hj
        simp [hy] at hx
        subst hx
        exact hr
      · intro ad' e j y hy
        cases e
        have hj : j < ds2.length := by
          have := (List.getElem?_eq_some_iff.1 hy).1
          simpa using this
        rw [List.getElem?_map, List.getElem?_range hj] at hy
        obtain ⟨y', hy', _⟩ := hc j hj
        simp [hy'] at hy
        rw [hy', hy]
  have fin : ∀ v' w', w'.ownsRow base e k v' (m0 + m) (xs ++ news) → w.grownBy w' v.ownBlock → (v'.ownBlock = v.ownBlock ∨ v'.ownBlock = some w.heap.size) → Own M w' base e k (ds ++ ds2) v' ∧ Ev (ob v) w w' ∧ (∀ b, ob v' b → ob v b ∨ w.heap.size ≤ b) := by
    intro v' w' h1 h2 h3
    have hev : Ev (ob v) w w' := Ev.grown h2 fun k hk => hk
    have hblk : ∀ b, ob v' b → ob v b ∨ w.heap.size ≤ b := by
      intro b hb
      unfold ob at hb ⊢
      rcases h3 with h3 | h3
      · left; rw [← h3]; exact hb
      · right; rw [h3] at hb; cases hb; exact Nat.le_refl _
    refine ⟨⟨m0 + m, xs ++ news, h1, (hx.app hnr).ev hev fun b hb h => ?_⟩, hev, hblk⟩
    rcases h with h | h | h
    · exact .inr h
    · exact .inl h
    · rcases hblk b h with h | h
      · exact .inr h
      · omega
  cases A with
  | none =>
    have hnil : ds2 = [] := by
      by_cases hne : ds2 = []
      · exact hne
      · obtain ⟨ad, h, _⟩ := hcells hne; cases h
    subst hnil
    have hm : m = 0 := by
      rcases Nat.eq_zero_or_pos m with h | h
      · exact h
      · have : 0 < m * k := Nat.mul_pos h hk
        simp at hlen; omega
    subst hm
    have hnn : news = [] := List.eq_nil_of_length_eq_zero hnl
    subst hnn
    refine ⟨v, w, ?_, fin v w (by simpa using ho) ⟨rfl, rfl, rfl, Nat.le_refl _, fun _ _ _ => rfl⟩ (.inl rfl)⟩
    rcases ho.2 with ⟨rfl, hn⟩ | ⟨g, cap, cur, rfl, _, _, hnc, _⟩
    · simp [Builtin.append_, run_underlying ht, sizeOf, typeInfo, hi, Builtin.lenOf, Builtin.firstCells]
    · simp [Builtin.append_, run_underlying ht, sizeOf, typeInfo, hi, Builtin.lenOf, Builtin.firstCells, hnc, storeCells]
  | some ad =>
    have hb : (m0 + m) * i.bytes ≤ 140737488355328 := Nat.le_trans (Nat.mul_le_mul hsum hby) (by decide)
    obtain ⟨v', w', hrun, h1, h2, _, h3⟩ := run_append_own_at (P := P) w base t ty e i z k i.bytes ht hi hz hsz rfl hzk hk v m0 xs ho ad m c news (by rw [hnl, hlen]) (fun j u h => hnc ad rfl j u h) hnr.one (by unfold maxLen; omega) hb hbase
    exact ⟨v', w', hrun, fin v' w' h1 h2 h3⟩

section
variable {P : Program} {L : List TD} {n : Nat} {Q : Exit → Act → World → Prop} {s : MS} {f f' : Env} {w : World} {κ : List Kt} {all : Array Oper} {dec : List Nat} {o : Oper} {al : Bool} {rest : List (Oper × Bool)} {S : World → Prop} {ex : Ex}
theorem sl_tl (hT : TOk P L) {t e : TypeId} {k : Nat} (ht : tl L t = .sl e k) : P.underlying t = some (.slice e) ∧ (P.info? e).isSome = true ∧ P.cellsOf e = k := by
  rcases hT t with h | h
  · rw [h] at ht; cases ht
  · rw [h] at ht; exact tdOf_sl ht
/-- append(v, u...). -/
theorem go_app (hT : TOk P L) {D : Dr} {t e : TypeId} {k : Nat} {x y : Operand} {v u : Value} {M : Nat → Prop} {base : Nat} {ds ds2 : List Dat} (h : mach L n fuel s f = .op D κ all dec o true rest f') (ho : o.op = .call ⟨.builtin .append, #[x, y], #[t, t]⟩) (ht : tl L t = .sl e k) (he : elemOk P e k = true)
    (hx : ev n f' x = v) (hy : ev n f' y = u) (hown : Own M w base e k ds v) (hbase : base ≤ w.heap.size) (hr : ARep (or2 M (ob v)) w (.sl k ds2) u) (hl : ds.length + ds2.length ≤ lim)
    (hk : ∀ v' w', Own M w' base e k (ds ++ ds2) v' → Ev (ob v) w w' → (∀ b, ob v' b → ob v b ∨ w.heap.size ≤ b) → Keep D rest.isEmpty w' ∧ DenS P n Q (.ops D κ all dec rest) (put f' o.dst v') w') : DenS P n Q s f w := by
  obtain ⟨v', w', hrun, h1, h2, h3⟩ := run_append_Own (P := P) (ty := o.type) (sl_tl hT ht).1 he hown hbase hr hl
  obtain ⟨hS, hn⟩ := hk v' w' h1 h2 h3
  refine go hT h (den_new v' ?_ hS hn)
  unfold execOp
  simp only [ho, resolve, invoke, builtin, Sem.run_bind, Sem.run_pure, Result.andThen_ok, List.map_toArray, List.map_cons, List.map_nil, hx, hy, hrun]

theorem foldl_set (off : Nat) : ∀ (vs : List Value) (i : Nat) (cs : Array Value), off + i + vs.length ≤ cs.size → ∀ j : Nat,
    ((vs.zipIdx i).foldl (fun cs (x : Value × Nat) => cs.setIfInBounds (off + x.2) x.1) cs)[j]? = if off + i ≤ j ∧ j < off + i + vs.length then vs[j - (off + i)]? else cs[j]?
  | [], i, cs, h, j => by simp; omega
  | v :: vs, i, cs, h, j => by
    simp only [List.zipIdx_cons, List.foldl_cons]
    simp at h
    rw [foldl_set off vs (i + 1) _ (by simp; omega) j, Array.getElem?_setIfInBounds]
    by_cases h1 : off + i = j
    · subst h1
      simp [show off + i < cs.size by omega, show ¬ (off + (i + 1) ≤ off + i) by omega]
    · by_cases h2 : off + (i + 1) ≤ j ∧ j < off + (i + 1) + vs.length
      · obtain ⟨d, rfl⟩ : ∃ d, j = off + (i + 1) + d := ⟨j - (off + (i + 1)), by omega⟩
        simp only [h2, and_self, if_true, List.length_cons]
        rw [if_pos (by omega), show off + (i + 1) + d - (off + (i + 1)) = d by omega, show off + (i + 1) + d - (off + i) = d + 1 by omega]
        simp
      · rw [if_neg h2, if_neg h1, if_neg (by simp; omega)]
theorem fold_all (v : Array Value) (cs : Array Value) (h : v.size = cs.size) : v.zipIdx.foldl (fun cs (x : Value × Nat) => cs.setIfInBounds (0 + x.2) x.1) cs = v := by
  obtain ⟨v⟩ := v
  apply Array.ext_getElem?
  intro j
  have := foldl_set 0 v 0 cs (by simp at h; omega) j
  rw [← Array.foldl_toList, Array.toList_zipIdx, this]
  by_cases hj : j < v.length
  · simp [hj]
  · simp at h; simp [hj, show ¬ j < cs.size by omega]

theorem run_lit1 {P : Program} {w : World} {t e : TypeId} {k : Nat} {v : Value} (ht : P.underlying t = some (.slice e)) (he : elemOk P e k = true) (hv : v.cells.size = k) (hk : k ≤ 1000) :
    (Instr.buildSlice t 1 #[(0, v)]).run P w = .ok (.slice (some ⟨w.heap.size, 0, none⟩) 1 1) (w.alloc (.cells v.cells e)) := by
  obtain ⟨i, z, hi, hsz, hby, hk0, hz, hzk⟩ := elemOk_spec he
  unfold Instr.buildSlice
  simp only [Sem.run_bind, run_underlying ht, Result.andThen_ok, sizeOf, typeInfo, run_program, hi, Sem.run_pure, hsz, Nat.one_mul, zeroValue, hz]
  rw [if_neg (by omega), if_neg (by omega)]
  simp only [Sem.run_bind, Sem.run_pure, Result.andThen_ok]
  have hf : Instr.fill (fun i => some (i * k, k)) ((Array.range k).map fun x => z.cells[x % z.cells.size]!) [(0, v)] = some v.cells := by
    unfold Instr.fill
    simp only [Nat.zero_mul, hv, ne_eq, not_true, decide_false, Bool.false_or, Nat.zero_add]
    rw [if_neg (by simp)]
    unfold Instr.fill
    have := fold_all v.cells ((Array.range k).map fun x => z.cells[x % z.cells.size]!) (by simp [hv])
    simpa using this
  simp only [hzk] at hf ⊢
  simp [hi, hz, hzk, hf, newRow]

theorem own_new {w : World} {M : Nat → Prop} {e : TypeId} {k m : Nat} {ds : List Dat} {cs : Array Value} (hm : cs.size = m * k) (hmax : m ≤ 1000000) (hv : VRep M w ds cs.toList) :
    Own M (w.alloc (.cells cs e)) w.heap.size e k ds (.slice (some ⟨w.heap.size, 0, none⟩) m m) := by
  have hown := World.ownsRow_lit (base := w.heap.size) (e := e) (size := k) w cs m (Nat.le_refl _) (by unfold maxLen; omega) (by simp [hm])
  refine ⟨m, cs.toList, hown, hv.ev (Ev.alloc w _) fun b hb h => ?_⟩
  rcases h with h | h | h
  · exact h.elim
  · exact h
  · have : w.heap.size = b := by simpa [ob, Value.ownBlock] using h
    omega
/-- A slice literal of one element. -/
theorem go_lit1 (hT : TOk P L) {D : Dr} {t e : TypeId} {k : Nat} {x : Operand} {v : Value} {M : Nat → Prop} {ds : List Dat} (h : mach L n fuel s f = .op D κ all dec o true rest f') (ho : o.op = .buildSlice t 1 #[(0, x)]) (ht : tl L t = .sl e k) (he : elemOk P e k = true)
    (hx : ev n f' x = v) (hk1 : Nat.beq v.cells.size k = true) (hk2 : Nat.ble k 1000 = true) (hv : VRep M w ds v.cells.toList)
    (hk : ∀ u w', Own M w' w.heap.size e k ds u → Ev no w w' → Keep D rest.isEmpty w' ∧ DenS P n Q (.ops D κ all dec rest) (put f' o.dst u) w') : DenS P n Q s f w := by
  have hs : v.cells.size = k := Nat.eq_of_beq_eq_true hk1
  have hrun := run_lit1 (w := w) (sl_tl hT ht).1 he hs (Nat.le_of_ble_eq_true hk2)
  obtain ⟨hS, hn⟩ := hk _ _ (own_new (m := 1) (e := e) (by rw [hs, Nat.one_mul]) (by decide) hv) (Ev.alloc w _)
  refine go hT h (den_new _ ?_ hS hn)
  unfold execOp
  simp [ho, hx, hrun]
/-- An empty one. -/
theorem go_lit0 (hT : TOk P L) {D : Dr} {t e : TypeId} {k : Nat} {M : Nat → Prop} (h : mach L n fuel s f = .op D κ all dec o true rest f') (ho : o.op = .buildSlice t 0 #[]) (ht : tl L t = .sl e k)
    (hk : ∀ u w', Own M w' w.heap.size e k [] u → Ev no w w' → Keep D rest.isEmpty w' ∧ DenS P n Q (.ops D κ all dec rest) (put f' o.dst u) w') : DenS P n Q s f w := by
  have hT1 := sl_tl hT ht
  obtain ⟨hS, hn⟩ := hk _ _ (own_new (m := 0) (e := e) (cs := #[]) (w := w) (by simp) (by decide) (by unfold VRep; rfl)) (Ev.alloc w _)
  refine go hT h (den_new _ ?_ hS hn)
  unfold execOp
  simp [ho, Instr.buildSlice, run_underlying hT1.1, run_sizeOf' hT1.2.1, Instr.fill, newRow]
  exact congrArg (fun c => w.alloc (Obj.cells c e)) (Array.eq_empty_of_size_eq_zero (by simp))
theorem fill_ones : ∀ (vs : List Value) (i : Nat) (cs : Array Value), (∀ v ∈ vs, v.oneCell' = true) → i + vs.length ≤ cs.size →
    Instr.fill (fun i => some (i * 1, 1)) cs ((vs.zipIdx i).map fun x => (x.2, x.1)) = some ((vs.zipIdx i).foldl (fun cs (x : Value × Nat) => cs.setIfInBounds (0 + x.2) x.1) cs)
  | [], i, cs, _, _ => rfl
  | v :: vs, i, cs, h1, hl => by
    simp only [List.zipIdx_cons, List.map_cons, List.foldl_cons]
    simp at hl
    have hc : v.cells = #[v] := by
      have := h1 v (by simp)
      cases v <;> first | rfl | simp [Value.oneCell'] at this
    unfold Instr.fill
    simp only [Nat.mul_one, hc]
    rw [if_neg (by simp; omega)]
    have ih := fill_ones vs (i + 1) (cs.setIfInBounds i v) (fun u hu => h1 u (by simp [hu])) (by simp; omega)
    simp only [Nat.mul_one] at ih
    simpa using ih
/-- A literal of elements of one cell. -/
theorem go_litN (hT : TOk P L) {D : Dr} {t e : TypeId} {m : Nat} {ps : Array (Nat × Operand)} {M : Nat → Prop} {ds : List Dat} (vs : List Value) (h : mach L n fuel s f = .op D κ all dec o true rest f') (ho : o.op = .buildSlice t m ps) (ht : tl L t = .sl e 1) (he : elemOk P e 1 = true)
    (hp : ps.toList.map (fun p => (p.1, ev n f' p.2)) = (vs.zipIdx 0).map fun x => (x.2, x.1)) (hm : vs.length = m) (hm2 : Nat.ble m 1000 = true) (hv : VRep M w ds vs)
    (hk : ∀ u w', Own M w' w.heap.size e 1 ds u → Ev no w w' → Keep D rest.isEmpty w' ∧ DenS P n Q (.ops D κ all dec rest) (put f' o.dst u) w') : DenS P n Q s f w := by
  have hT1 := sl_tl hT ht
  have hm3 : m ≤ 1000 := Nat.le_of_ble_eq_true hm2
  obtain ⟨i, z, hi, hsz, hby, hk0, hz, hzk⟩ := elemOk_spec he
  obtain ⟨hS, hn⟩ := hk _ _ (own_new (m := m) (e := e) (cs := vs.toArray) (w := w) (by simp [hm]) (by omega) (by simpa using hv)) (Ev.alloc w _)
  refine go hT h (den_new _ ?_ hS hn)
  have hfill : ∀ cs : Array Value, cs.size = m → Instr.fill (fun i => some (i * 1, 1)) cs (ps.toList.map fun p => (p.1, ev n f' p.2)) = some vs.toArray := by
    intro cs hcs
    rw [hp, fill_ones vs 0 cs hv.one (by omega)]
    have := fold_all vs.toArray cs (by simp [hm, hcs])
    rw [← Array.foldl_toList, Array.toList_zipIdx] at this
    rw [this]
  have hbs : (Instr.buildSlice t m (ps.map fun p => (p.1, ev n f' p.2))).run P w = .ok (.slice (some ⟨w.heap.size, 0, none⟩) m m) (w.alloc (.cells vs.toArray e)) := by
    have hf2 := hfill ((Array.range (m * 1)).map fun x => (if m * 1 = 0 then #[] else z.cells)[x % (if m * 1 = 0 then #[] else z.cells).size]!) (by simp)
    unfold Instr.buildSlice
    simp only [Sem.run_bind, run_underlying hT1.1, Result.andThen_ok, run_sizeOf' hT1.2.1, hT1.2.2]
    rw [if_neg (by omega)]
    by_cases h0 : m * 1 = 0
    · simp only [h0, if_true] at hf2 ⊢
      simp only [Sem.run_pure, Sem.run_bind, Result.andThen_ok, Array.toList_map]
      rw [hf2]
      simp [newRow]
    · simp only [h0, if_false] at hf2 ⊢
      simp only [zeroValue, typeInfo, Sem.run_pure, Sem.run_bind, run_program, hi, hz, Result.andThen_ok, Array.toList_map]
      rw [hf2]
      simp [newRow]
  unfold execOp
  simp only [ho, Sem.run_bind, Sem.run_pure]
  rw [hbs]
  rfl

/-- append(v, u...), cell by cell. -/
theorem run_appendR {P : Program} {w : World} {base : Nat} {t ty e : TypeId} {k m0 m c : Nat} {xs news : List Value} {v : Value} {A : Option Addr} (ht : P.underlying t = some (.slice e)) (he : elemOk P e k = true) (hown : w.ownsRow base e k v m0 xs) (hbase : base ≤ w.heap.size)
    (hnl : news.length = m * k) (hc : news ≠ [] → ∃ ad, A = some ad ∧ Cells w ad news) (h1 : ∀ u ∈ news, u.oneCell' = true) (hl : m0 + m ≤ lim) :
    ∃ v' w', (Builtin.append_ #[t, t] ty #[v, .slice A m c]).run P w = .ok v' w' ∧ w'.ownsRow base e k v' (m0 + m) (xs ++ news) ∧ Ev (ob v) w w' ∧ (∀ b, ob v' b → ob v b ∨ w.heap.size ≤ b) := by
  obtain ⟨i, z, hi, hsz, hby, hk, hz, hzk⟩ := elemOk_spec he
  have hsum : m0 + m ≤ 4294967296 := by unfold lim at hl; omega
  cases A with
  | none =>
    have hnil : news = [] := by
      by_cases hne : news = []
      · exact hne
      · obtain ⟨ad, h, _⟩ := hc hne; cases h
    subst hnil
    have hm : m = 0 := by
      rcases Nat.eq_zero_or_pos m with h | h
      · exact h
      · have : 0 < m * k := Nat.mul_pos h hk
        simp at hnl; omega
    subst hm
    refine ⟨v, w, ?_, by simpa using hown, Ev.refl _ _, fun b hb => .inl hb⟩
    rcases hown.2 with ⟨rfl, hn⟩ | ⟨g, cap, cur, rfl, _, _, hnc, _⟩
    · simp [Builtin.append_, run_underlying ht, sizeOf, typeInfo, hi, Builtin.lenOf, Builtin.firstCells]
    · simp [Builtin.append_, run_underlying ht, sizeOf, typeInfo, hi, Builtin.lenOf, Builtin.firstCells, hnc, storeCells]
  | some ad =>
    have hb : (m0 + m) * i.bytes ≤ 140737488355328 := Nat.le_trans (Nat.mul_le_mul hsum hby) (by decide)
    obtain ⟨v', w', hrun, h1, h2, _, h3⟩ := run_append_own_at (P := P) w base t ty e i z k i.bytes ht hi hz hsz rfl hzk hk v m0 xs hown ad m c news hnl (fun j u h => by
      have hne : news ≠ [] := by intro e; rw [e] at h; simp at h
      obtain ⟨ad', e, hcc⟩ := hc hne
      cases e
      exact hcc j u h) h1 (by unfold maxLen; omega) hb hbase
    refine ⟨v', w', hrun, h1, Ev.grown h2 fun k hk => hk, fun b hb => ?_⟩
    unfold ob at hb ⊢
    rcases h3 with h3 | h3
    · left; rw [← h3]; exact hb
    · right; rw [h3] at hb; cases hb; exact Nat.le_refl _
theorem go_appR (hT : TOk P L) {D : Dr} {t e : TypeId} {k m0 m c : Nat} {x y : Operand} {v : Value} {A : Option Addr} {base : Nat} {xs news : List Value} (h : mach L n fuel s f = .op D κ all dec o true rest f') (ho : o.op = .call ⟨.builtin .append, #[x, y], #[t, t]⟩) (ht : tl L t = .sl e k) (he : elemOk P e k = true)
    (hx : ev n f' x = v) (hy : ev n f' y = .slice A m c) (hown : w.ownsRow base e k v m0 xs) (hbase : base ≤ w.heap.size) (hnl : news.length = m * k) (hc : news ≠ [] → ∃ ad, A = some ad ∧ Cells w ad news) (h1 : ∀ u ∈ news, u.oneCell' = true) (hl : m0 + m ≤ lim)
    (hk : ∀ v' w', w'.ownsRow base e k v' (m0 + m) (xs ++ news) → Ev (ob v) w w' → (∀ b, ob v' b → ob v b ∨ w.heap.size ≤ b) → Keep D rest.isEmpty w' ∧ DenS P n Q (.ops D κ all dec rest) (put f' o.dst v') w') : DenS P n Q s f w := by
  obtain ⟨v', w', hrun, h1, h2, h3⟩ := run_appendR (P := P) (ty := o.type) (c := c) (sl_tl hT ht).1 he hown hbase hnl hc h1 hl
  obtain ⟨hS, hn⟩ := hk v' w' h1 h2 h3
  refine go hT h (den_new v' ?_ hS hn)
  unfold execOp
  simp only [ho, resolve, invoke, builtin, Sem.run_bind, Sem.run_pure, Result.andThen_ok, List.map_toArray, List.map_cons, List.map_nil, hx, hy, hrun]
/-- A slice literal of one element, cell by cell. -/
theorem go_lit1R (hT : TOk P L) {D : Dr} {t e : TypeId} {k : Nat} {x : Operand} {v : Value} {cs : List Value} (h : mach L n fuel s f = .op D κ all dec o true rest f') (ho : o.op = .buildSlice t 1 #[(0, x)]) (ht : tl L t = .sl e k) (he : elemOk P e k = true)
    (hx : ev n f' x = v) (hcs : v.cells = cs.toArray) (hk1 : Nat.beq cs.length k = true) (hk2 : Nat.ble k 1000 = true)
    (hk : ∀ g w', Blk w' g e cs → w.heap.size ≤ g → Ev no w w' → Keep D rest.isEmpty w' ∧ DenS P n Q (.ops D κ all dec rest) (put f' o.dst (.slice (some ⟨g, 0, none⟩) 1 1)) w') : DenS P n Q s f w := by
  have hs : v.cells.size = k := by rw [hcs]; simpa using Nat.eq_of_beq_eq_true hk1
  have hrun := run_lit1 (w := w) (sl_tl hT ht).1 he hs (Nat.le_of_ble_eq_true hk2)
  obtain ⟨hS, hn⟩ := hk w.heap.size _ (by rw [hcs]; exact Blk.new w e cs) (Nat.le_refl _) (Ev.alloc w (.cells v.cells e))
  refine go hT h (den_new _ ?_ hS hn)
  unfold execOp
  simp [ho, hx, hrun]

def setL : List Value → Nat → List Value → List Value
  | cs, _, [] => cs
  | cs, i, v :: vs => setL (cs.set i v) (i + 1) vs
theorem setAll_blk {g : Nat} {t : TypeId} (off : Nat) : ∀ (vs : List Value) (i : Nat) (w : World) (cs : List Value), Blk w g t cs → Blk (setAll w ⟨g, off, none⟩ i vs) g t (setL cs (off + i) vs) ∧ Ev (at1 g) w (setAll w ⟨g, off, none⟩ i vs)
  | [], i, w, cs, h => ⟨h, Ev.refl _ _⟩
  | v :: vs, i, w, cs, h => by
    unfold setAll setL
    rw [add_off]
    obtain ⟨h1, h2⟩ := setAll_blk off vs (i + 1) _ _ (h.set (off + i) v)
    exact ⟨h1, (Ev.setCell w ⟨g, off + i, none⟩ v).trans h2⟩
/-- A struct is written into a block known whole. -/
theorem go_staB (hT : TOk P L) {D : Dr} {t t' : TypeId} {fs : List (Nat × Nat × Bool)} {x y : Operand} {g off : Nat} {cs : List Value} (vs : List Value) (h : mach L n fuel s f = .op D κ all dec o true rest f') (ho : o.op = .store t x y) (ht : tl L t = .agg vs.length fs) (hx : ev n f' x = .pointer (some ⟨g, off, none⟩)) (hy : ev n f' y = .agg vs.toArray) (h1 : ∀ u ∈ vs, u.oneCell' = true)
    (hb : Blk w g t' cs) (hl : Nat.ble (off + vs.length) cs.length = true) (hk : ∀ w', Ev (at1 g) w w' → Blk w' g t' (setL cs off vs) → Keep D rest.isEmpty w' ∧ DenS P n Q (.ops D κ all dec rest) (put f' o.dst undef) w') : DenS P n Q s f w := by
  obtain ⟨h2, h3⟩ := setAll_blk off vs 0 w cs hb
  obtain ⟨hS, hn⟩ := hk _ h3 h2
  have hl' : off + vs.length ≤ cs.length := Nat.le_of_ble_eq_true hl
  refine go_sta hT vs h ho ht hx hy h1 (fun j hj => ?_) hS hn
  rw [add_off, hb.cell (off + j) (List.getElem?_eq_getElem (by omega))]
  exact ⟨rfl, hb.free _⟩

end
end Go.Proofs.YtjcolfogmmjaoaaGreatDoor.V
end

section
/- More operations: structs built, conversions of bytes and texts, a string's byte. They hold of any program. -/
set_option linter.unusedVariables false
set_option linter.unusedSimpArgs false
namespace Go.Proofs.YtjcolfogmmjaoaaGreatDoor.V

section
variable {P : Program} {L : List TD} {n : Nat} {Q : Exit → Act → World → Prop} {s : MS} {f f' : Env} {w : World} {κ : List Kt} {all : Array Oper} {dec : List Nat} {o : Oper} {al : Bool} {rest : List (Oper × Bool)} {S : World → Prop} {ex : Ex}

def bld (z : Array Value) (fs : List (Nat × Nat × Bool)) (parts : List (Nat × Value)) : Option (Array Value) := Instr.fill (fun i => (fs[i]?).map fun q => (q.1, q.2.1)) z parts
/-- A struct is built. -/
theorem go_build (hT : TOk P L) {D : Dr} {t : TypeId} {m : Nat} {fs : List (Nat × Nat × Bool)} {ps : Array (Nat × Operand)} {z : Array Value} (cs : Array Value) (h : mach L n fuel s f = .op D κ all dec o al rest f') (ho : o.op = .build t ps) (ht : tl L t = .agg m fs) (hz : (P.info? t).map (·.zero) = some (some (.agg z)))
    (hf : bld z fs (ps.toList.map fun p => (p.1, ev n f' p.2)) = some cs) (hk : DenS P n Q (.ops D κ all dec rest) (put f' o.dst (.agg cs)) w) : DenS P n Q s f w := by
  have htd : tdOf P t = .agg m fs := by rcases hT t with e | e <;> rw [e] at ht; cases ht; exact ht
  obtain ⟨Fs, i, hu, hi, hm, hall, rfl⟩ := tdOf_agg htd
  have hiz : i.zero = some (.agg z) := by simpa [hi] using hz
  refine go hT h (den_val _ (fun w' _ => ?_) hk)
  have hmap : (Fs.mapM fun (f : Field) => (do pure (f.offset, ← sizeOf f.type) : Sem (Nat × Nat))).run P w' = .ok (Fs.map fun f => (f.offset, P.cellsOf f.type)) w' := by
    obtain ⟨Fs⟩ := Fs
    rw [List.mapM_toArray]
    have : ∀ l : List Field, (∀ f ∈ l, (P.info? f.type).isSome = true) → (l.mapM fun (f : Field) => (do pure (f.offset, ← sizeOf f.type) : Sem (Nat × Nat))).run P w' = .ok (l.map fun f => (f.offset, P.cellsOf f.type)) w' := by
      intro l
      induction l with
      | nil => intro _; simp
      | cons f l ih =>
        intro h
        have h1 := ih fun g hg => h g (by simp [hg])
        simp only [List.mapM_cons, Sem.run_bind, run_sizeOf' (h f (by simp)), Result.andThen_ok, Sem.run_pure] at h1 ⊢
        rw [h1]
        simp
    have := this Fs fun f hf => (hall f (by simpa using hf)).1
    simp only [Sem.run_map, Sem.run_bind, Sem.run_pure] at this ⊢
    rw [this]
    simp
  have hfill : Instr.fill (fun i => (Fs.map fun f => (f.offset, P.cellsOf f.type))[i]?) z ((ps.map fun (i, x) => (i, ev n f' x)).toList) = some cs := by
    rw [← hf]
    unfold bld
    congr 1
    · funext i
      rw [List.getElem?_map, Option.map_map, Array.getElem?_map, Array.getElem?_toList]
      rfl
    · simp
  unfold execOp
  simp only [ho, Instr.build, Sem.run_bind, zeroValue, typeInfo, run_program, Result.andThen_ok, hi, hiz, Sem.run_pure, run_underlying hu, hmap, Value.cells]
  rw [hfill]
  rfl

/-- The bytes of a text, as cells. -/
def byV (b : UInt8) : Value := .int .u8 b.toNat
def byD (b : UInt8) : Dat := .v (byV b)
def bytesD (l : List UInt8) : Dat := .sl 1 (l.map byD)
theorem oneCells {M : Nat → Prop} {w : World} {α : Type} (g : α → Value) (h1 : ∀ x, (g x).oneCell' = true) : ∀ l : List α, VRep M w (l.map fun x => .v (g x)) (l.map g)
  | [] => VRep.nil
  | x :: l => VRep.cons (ARep.mkVal (h1 x)) (oneCells g h1 l)
theorem bytes_cells {M : Nat → Prop} {w : World} {l : List UInt8} {x : Value} (h : ARep M w (bytesD l) x) :
    ∃ A c, x = .slice A l.length c ∧ l.length ≤ c ∧ (l ≠ [] → ∃ ad, A = some ad ∧ ¬ M ad.block ∧ Cells w ad (l.map byV)) := by
  obtain ⟨A, m, c, rfl, hl, hc, hr⟩ := h.slice
  simp at hl
  subst hl
  refine ⟨A, c, rfl, hc, fun hn => ?_⟩
  obtain ⟨ad, ha, hM, hL⟩ := hr (by simpa using hn)
  refine ⟨ad, ha, hM, fun j v hv => ?_⟩
  obtain ⟨hj, rfl⟩ := List.getElem?_eq_some_iff.1 hv
  obtain ⟨y, hy, hr⟩ := hL j (by simpa using hj)
  rw [hy]
  simp [byD] at hr
  rw [hr.val]
  simp

theorem run_pushes {P : Program} {w : World} (g : Value → ByteArray → Sem (ForInStep ByteArray)) (hg : ∀ (b : UInt8) (r : ByteArray), (g (byV b) r).run P w = .ok (.yield (r.push b)) w) : ∀ (l : List UInt8) (s : ByteArray),
    (forIn (m := Sem) (l.map byV) s g).run P w = .ok ⟨s.data ++ l.toArray⟩ w
  | [], s => by simp
  | b :: l, s => by
    simp only [List.map_cons, List.forIn_cons, Sem.run_bind, hg, Result.andThen_ok]
    rw [run_pushes g hg l]
    simp [ByteArray.push]
theorem run_toString {P : Program} {w : World} {src dst e : TypeId} {l : List UInt8} {x : Value} {M : Nat → Prop} (hs : P.underlying src = some (.slice e)) (he : P.underlying e = some (.int .u8)) (hd : P.underlying dst = some .string) (h : ARep M w (bytesD l) x) :
    (convert src dst x).run P w = .ok (.string ⟨l.toArray⟩) w := by
  obtain ⟨A, c, rfl, hc, hr⟩ := bytes_cells h
  have hconv : (convert src dst (.slice A l.length c)).run P w = (Conv.bytesToString (.slice A l.length c)).run P w := by
    simp [convert, underlying, hs, hd, he]
  rw [hconv]
  cases A with
  | none =>
    have : l = [] := by
      cases l with
      | nil => rfl
      | cons b l => obtain ⟨ad, h, _⟩ := hr (by simp); cases h
    subst this
    simp [Conv.bytesToString]
    rfl
  | some ad =>
    have hcells : Cells w ad (l.map byV) := by
      by_cases hne : l = []
      · subst hne; intro j v hv; simp at hv
      · obtain ⟨ad', e, _, h⟩ := hr hne; cases e; exact h
    have hl := run_loadCells_list (P := P) (w := w) ad (l.map byV) hcells
    simp only [List.length_map] at hl
    unfold Conv.bytesToString
    simp only [Sem.run_bind, hl, Result.andThen_ok, List.forIn_toArray]
    rw [run_pushes (P := P) (w := w) _ (fun b r => by simp [byV]) l .empty]
    simp [ByteArray.empty, ByteArray.emptyWithCapacity]
    rfl

theorem int_tl (hT : TOk P L) {t : TypeId} {k : IntKind} (ht : tl L t = .int k) : P.underlying t = some (.int k) := by
  rcases hT t with h | h
  · rw [h] at ht; cases ht
  · rw [h] at ht; exact tdOf_int ht
theorem str_tl (hT : TOk P L) {t : TypeId} (ht : tl L t = .str) : P.underlying t = some .string := by
  rcases hT t with h | h
  · rw [h] at ht; cases ht
  · rw [h] at ht; exact tdOf_str ht
/-- string(b). -/
theorem go_str (hT : TOk P L) {src dst e : TypeId} {x : Operand} {v : Value} {M : Nat → Prop} {l : List UInt8} (h : mach L n fuel s f = .op none κ all dec o al rest f') (ho : o.op = .convert src dst x) (hs : tl L src = .sl e 1) (he : tl L e = .int .u8) (hd : tl L dst = .str) (hx : ev n f' x = v)
    (hr : ARep M w (bytesD l) v) (hk : DenS P n Q (.ops none κ all dec rest) (put f' o.dst (.string ⟨l.toArray⟩)) w) : DenS P n Q s f w :=
  go hT h (den_val _ (fun w' e' => by
    cases e'
    unfold execOp
    simp only [ho, Sem.run_bind, Sem.run_pure, hx, run_toString (sl_tl hT hs).1 (int_tl hT he) (str_tl hT hd) hr, Result.andThen_ok]) hk)
theorem go_strS (hT : TOk P L) {src dst e : TypeId} {x : Operand} {v : Value} {M : Nat → Prop} {l : List UInt8} (h : mach L n fuel s f = .op (some (S, ex)) κ all dec o al rest f') (ho : o.op = .convert src dst x) (hs : tl L src = .sl e 1) (he : tl L e = .int .u8) (hd : tl L dst = .str) (hx : ev n f' x = v)
    (hr : ∀ w', S w' → ARep M w' (bytesD l) v) (hk : DenS P n Q (.ops (some (S, ex)) κ all dec rest) (put f' o.dst (.string ⟨l.toArray⟩)) w) : DenS P n Q s f w :=
  go hT h (den_val _ (fun w' e' => by
    unfold execOp
    simp only [ho, Sem.run_bind, Sem.run_pure, hx, run_toString (sl_tl hT hs).1 (int_tl hT he) (str_tl hT hd) (hr w' e'), Result.andThen_ok]) hk)

theorem cell_freeze (w : World) (a : Addr) (m : Nat) (b : Addr) : (w.freeze a m).cell? b = w.cell? b := by
  unfold World.freeze
  split
  · rfl
  · by_cases he : a.block = b.block
    · simp only [World.cell?, Array.getElem?_modify, he, if_true]
      cases w.heap[b.block]? with
      | none => rfl
      | some o => cases o <;> rfl
    · simp only [World.cell?, Array.getElem?_modify, he, if_false]
theorem Ev.freeze (w : World) (a : Addr) (m : Nat) : Ev (at1 a.block) w (w.freeze a m) := by
  unfold World.freeze
  split
  · exact Ev.refl _ _
  · refine ⟨rfl, rfl, rfl, by simp, fun b hb hn => ?_⟩
    simp only [Array.getElem?_modify]
    rw [if_neg (fun e => hn e.symm)]
/-- What is read goes by the cells alone. -/
theorem ARep.cells {M : Nat → Prop} {w w' : World} (hc : ∀ a, w'.cell? a = w.cell? a) {d : Dat} {x : Value} (h : ARep M w d x) : ARep M w' d x := by
  have key : ∀ (d : Dat) (x : Value), ARep M w d x → ARep M w' d x := by
    intro d
    refine Dat.rec (motive_1 := fun d => ∀ x, ARep M w d x → ARep M w' d x) (motive_2 := fun ds => (∀ ad i, LRep M w ds ad i → LRep M w' ds ad i) ∧ (∀ xs, VRep M w ds xs → VRep M w' ds xs)) ?_ ?_ ?_ ?_ ?_ d
    · intro u x h; unfold ARep at h ⊢; exact h
    · intro k ds ih x h
      unfold ARep at h ⊢
      obtain ⟨A, m, c, e, hl, hc, hr⟩ := h
      exact ⟨A, m, c, e, hl, hc, fun hn => let ⟨ad, ha, hM, hL⟩ := hr hn; ⟨ad, ha, hM, ih.1 _ _ hL⟩⟩
    · intro t ag ds ih x h
      unfold ARep at h ⊢
      obtain ⟨u, e, h1, h2, h3⟩ := h
      exact ⟨u, e, h1, h2, ih.2 _ h3⟩
    · exact ⟨fun ad i _ => by unfold LRep; trivial, fun xs h => by unfold VRep at h ⊢; exact h⟩
    · intro d ds ih1 ih2
      refine ⟨fun ad i h => ?_, fun xs h => ?_⟩
      · unfold LRep at h ⊢
        obtain ⟨⟨x, hx, hd⟩, h2⟩ := h
        exact ⟨⟨x, by rw [hc]; exact hx, ih1 x hd⟩, ih2.1 _ _ h2⟩
      · unfold VRep at h ⊢
        obtain ⟨x, r, e, hx, h2⟩ := h
        exact ⟨x, r, e, ih1 x hx, ih2.2 _ h2⟩
  exact key d x h
/-- A conversion of bytes to bytes: a mark is laid, what is read stays. -/
theorem go_mark (hT : TOk P L) {D : Dr} {src e : TypeId} {k : Nat} {x : Operand} {v : Value} {M : Nat → Prop} {d : Dat} (h : mach L n fuel s f = .op D κ all dec o true rest f') (ho : o.op = .convert src src x) (hs : tl L src = .sl e k) (he : tl L e = .int .u8) (hx : ev n f' x = v) (hv : ∃ a m c, v = .slice (some a) m c)
    (hr : ARep M w d v) (hk : ∀ w', Ev (ob v) w w' → ARep M w' d v → Keep D rest.isEmpty w' ∧ DenS P n Q (.ops D κ all dec rest) (put f' o.dst v) w') : DenS P n Q s f w := by
  obtain ⟨a, m, c, rfl⟩ := hv
  have h1 := (sl_tl hT hs).1
  have h2 := int_tl hT he
  have hrun : ∃ w', (convert src src (.slice (some a) m c)).run P w = .ok (.slice (some a) m c) w' ∧ Ev (at1 a.block) w w' ∧ ∀ b, w'.cell? b = w.cell? b := by
    unfold convert
    simp only [Sem.run_bind, run_underlying h1, Result.andThen_ok, run_underlying h2, beq_self_eq_true, markStringish, run_shape]
    cases hsh : w.shape? a.block with
    | none => exact ⟨w, by simp, Ev.refl _ _, fun _ => rfl⟩
    | some p =>
      obtain ⟨t, q⟩ := p
      exact ⟨_, by simp only [Sem.run_bind, run_freeze, Result.andThen_ok, Sem.run_pure], Ev.freeze w ⟨a.block, q, none⟩ 1, cell_freeze w _ _⟩
  obtain ⟨w', hrun, he, hc⟩ := hrun
  obtain ⟨hS, hn⟩ := hk w' (he.mono fun b _ hb => by simp only [at1] at hb; subst hb; rfl) (hr.cells hc)
  refine go hT h (den_new _ ?_ hS hn)
  unfold execOp
  simp only [ho, Sem.run_bind, Sem.run_pure, hx, hrun, Result.andThen_ok]
/-- []byte(s). -/
theorem go_bytes (hT : TOk P L) {D : Dr} {src dst e : TypeId} {x : Operand} {b : ByteArray} (h : mach L n fuel s f = .op D κ all dec o true rest f') (ho : o.op = .convert src dst x) (hs : tl L src = .str) (hd : tl L dst = .sl e 1) (he : tl L e = .int .u8) (hx : ev n f' x = .string b) (hb : b.size ≤ lim)
    (hk : ∀ u w', Ev no w w' → (∀ M : Nat → Prop, (∀ b, M b → b < w.heap.size) → ARep M w' (bytesD b.data.toList) u) → Keep D rest.isEmpty w' ∧ DenS P n Q (.ops D κ all dec rest) (put f' o.dst u) w') : DenS P n Q s f w := by
  have h1 := str_tl hT hs
  have h2 := (sl_tl hT hd).1
  have h3 := int_tl hT he
  unfold lim at hb
  obtain ⟨cap, hcap, hrun⟩ : ∃ cap, b.size ≤ cap ∧ (convert src dst (.string b)).run P w = .ok (.slice (some ⟨w.heap.size, 0, none⟩) b.size cap)
      ((w.drew.alloc (.cells ((b.data.map byV) ++ Array.replicate (cap - b.size) (.int .u8 0)) e)).freeze ⟨w.heap.size, ((b.data.map byV) ++ Array.replicate (cap - b.size) (Value.int .u8 0)).size, none⟩ 1) := by
    refine ⟨Question.cut (.appendCap b.size 0 e) (w.tape w.drawn (.appendCap b.size 0 e)), by simp [Question.cut], ?_⟩
    unfold convert
    simp only [Sem.run_bind, run_underlying h1, run_underlying h2, run_underlying h3, Result.andThen_ok, Conv.stringToBytes, run_choose, Question.forced, Bool.false_eq_true, if_false, newRow, run_newObj, Sem.run_pure, World.alloc_eq, World.drew_eq, markStringish, run_shape]
    have hsh : (w.drew.alloc (.cells ((b.data.map byV) ++ Array.replicate (Question.cut (.appendCap b.size 0 e) (w.tape w.drawn (.appendCap b.size 0 e)) - b.size) (.int .u8 0)) e)).shape? w.heap.size = some (e, ((b.data.map byV) ++ Array.replicate (Question.cut (.appendCap b.size 0 e) (w.tape w.drawn (.appendCap b.size 0 e)) - b.size) (Value.int .u8 0)).size) := by
      unfold World.shape?
      have := heap_alloc_new w.drew (.cells ((b.data.map byV) ++ Array.replicate (Question.cut (.appendCap b.size 0 e) (w.tape w.drawn (.appendCap b.size 0 e)) - b.size) (.int .u8 0)) e)
      rw [show w.drew.heap.size = w.heap.size from rfl] at this
      rw [this]
    have hsz : w.drew.heap.size = w.heap.size := rfl
    simp only [hsz]
    rw [show (b.data.map fun b => Value.int .u8 b.toNat) = b.data.map byV from rfl, hsh]
    rfl
  have hev : Ev no w ((w.drew.alloc (.cells ((b.data.map byV) ++ Array.replicate (cap - b.size) (.int .u8 0)) e)).freeze ⟨w.heap.size, ((b.data.map byV) ++ Array.replicate (cap - b.size) (Value.int .u8 0)).size, none⟩ 1) := by
    refine (((Ev.drew w).trans (Ev.alloc w.drew _)).then (Ev.freeze _ _ _) fun i hi h => ?_)
    simp only [at1] at h
    omega
  obtain ⟨hS, hn⟩ := hk (.slice (some ⟨w.heap.size, 0, none⟩) b.size cap) _ hev (fun M hM => by
    refine ARep.mkSlice (by simp) hcap fun hne => ⟨_, rfl, fun hm => Nat.lt_irrefl _ (hM _ hm), fun j hj => ?_⟩
    simp at hj
    refine ⟨byV b.data[j], ?_, ?_⟩
    · rw [cell_freeze, add_plain]
      have hd : w.heap.size = w.drew.heap.size := rfl
      rw [hd, World.cell?_alloc_new]
      rw [Array.getElem?_append_left (by simpa using hj)]
      simp [hj]
    · simp only [List.getElem_map, byD]
      exact ARep.mkVal rfl)
  refine go hT h (den_new _ ?_ hS hn)
  unfold execOp
  simp only [ho, Sem.run_bind, Sem.run_pure, hx, hrun, Result.andThen_ok]

end
end Go.Proofs.YtjcolfogmmjaoaaGreatDoor.V
end
