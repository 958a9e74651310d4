import Derived.Test.YtjcolfogmmjaoaaGreatDoorQDecodeUnknown2
import GoSem.ClaimChange
import Derived.Carry
import Derived.ChangeShapes
import Derived.DataElems
import Derived.ChangeOld
import Derived.SizedLaws
import Derived.ShutString
section
set_option linter.unusedVariables false
set_option linter.unusedSimpArgs false
namespace Go.Proofs.YtjcolfogmmjaoaaGreatDoor.V
theorem wrap64 {x : Int} (h1 : -9223372036854775808 ≤ x) (h2 : x ≤ 9223372036854775807) : IntKind.wrap .i64 x = x := by simp [IntKind.wrap, IntKind.bits, IntKind.signed]; omega
inductive Ty where
  | int (k : IntKind)
  | bool
  | str
  | sl (es : List Ty)
mutual
def HasTy : Ty → Dat → Prop
  | .int k, d => ∃ m, d = .v (.int k m) ∧ (Lit.int k m).wf = true
  | .bool, d => ∃ b, d = .v (.bool b)
  | .str, d => ∃ s : ByteArray, d = .v (.string s) ∧ s.size ≤ reachBytes
  | .sl es, d => ∃ xs : List (List Dat), d = .sl es.length xs.flatten ∧ xs.length ≤ reachBytes ∧ AllTy es xs
def HasTys : List Ty → List Dat → Prop
  | [], ds => ds = []
  | t :: ts, ds => ∃ d r, ds = d :: r ∧ HasTy t d ∧ HasTys ts r
def AllTy (es : List Ty) : List (List Dat) → Prop
  | [] => True
  | x :: xs => HasTys es x ∧ AllTy es xs
end
theorem HasTys.len : ∀ {ts : List Ty} {ds : List Dat}, HasTys ts ds → ds.length = ts.length
  | [], ds, h => by unfold HasTys at h; simp [h]
  | t :: ts, ds, h => by unfold HasTys at h; obtain ⟨d, r, rfl, _, h⟩ := h; simp [h.len]
theorem HasTys.app : ∀ {ts ts' : List Ty} {ds ds' : List Dat}, HasTys ts ds → HasTys ts' ds' → HasTys (ts ++ ts') (ds ++ ds')
  | [], ts', ds, ds', h, h' => by unfold HasTys at h; subst h; simpa using h'
  | t :: ts, ts', ds, ds', h, h' => by
    unfold HasTys at h
    obtain ⟨d, r, rfl, h1, h2⟩ := h
    simp only [List.cons_append]
    unfold HasTys
    exact ⟨d, _, rfl, h1, h2.app h'⟩
theorem AllTy.all : ∀ {es : List Ty} {xs : List (List Dat)}, AllTy es xs → ∀ x ∈ xs, HasTys es x
  | es, [], _, x, h => by simp at h
  | es, y :: ys, h, x, hx => by
    unfold AllTy at h
    rcases List.mem_cons.1 hx with rfl | hx
    · exact h.1
    · exact h.2.all x hx
theorem AllTy.mk : ∀ {es : List Ty} {xs : List (List Dat)}, (∀ x ∈ xs, HasTys es x) → AllTy es xs
  | es, [], _ => by unfold AllTy; trivial
  | es, y :: ys, h => by unfold AllTy; exact ⟨h y (by simp), AllTy.mk fun x hx => h x (by simp [hx])⟩
theorem mapM_some {α β : Type} {g : α → Option β} : ∀ {l : List α} {ys : List β}, l.mapM g = some ys → ys.length = l.length ∧ ∀ (i : Nat) x, l[i]? = some x → ∃ y, ys[i]? = some y ∧ g x = some y
  | [], ys, h => by simp at h; subst h; simp
  | x :: l, ys, h => by
    rw [List.mapM_cons] at h
    cases hx : g x with
    | none => simp [hx] at h
    | some y =>
      cases hl : l.mapM g with
      | none => simp [hx, hl] at h
      | some zs =>
        simp [hx, hl] at h
        subst h
        obtain ⟨h1, h2⟩ := mapM_some hl
        refine ⟨by simp [h1], fun i z hi => ?_⟩
        cases i with
        | zero => simp at hi; subst hi; exact ⟨y, rfl, hx⟩
        | succ i => simpa using h2 i z (by simpa using hi)
theorem cells_some {w : World} {base : Nat} {a : Addr} {m : Nat} {cs : List Value} (h : w.cells? base a m = some cs) : cs.length = m ∧ Cells w a cs := by
  unfold World.cells? at h
  split at h
  · obtain ⟨h1, h2⟩ := mapM_some h
    simp at h1
    refine ⟨h1, fun i v hi => ?_⟩
    have hlt : i < m := by
      have := (List.getElem?_eq_some_iff.1 hi).1
      omega
    obtain ⟨y, hy, hc⟩ := h2 i i (by simp [List.getElem?_range, hlt])
    rw [hi] at hy
    cases hy
    exact hc
  · cases h
theorem LRep.app {M : Nat → Prop} {w : World} {ad : Addr} : ∀ {ds ds' : List Dat} {i : Nat}, LRep M w ds ad i → LRep M w ds' ad (i + ds.length) → LRep M w (ds ++ ds') ad i
  | [], ds', i, _, h => by simpa using h
  | d :: ds, ds', i, h, h' => by
    unfold LRep at h
    simp only [List.cons_append]
    unfold LRep
    exact ⟨h.1, h.2.app (by simpa [Nat.add_assoc, Nat.add_comm 1] using h')⟩
section
variable {H : Type} {enc : TypeId × Value → H} {P : Program} {w : World} {sp : Nat → Bool}
end
theorem HasTys.cons {t : Ty} {ts : List Ty} {ds : List Dat} (h : HasTys (t :: ts) ds) : ∃ d r, ds = d :: r ∧ HasTy t d ∧ HasTys ts r := by unfold HasTys at h; exact h
theorem HasTys.nil {ds : List Dat} (h : HasTys [] ds) : ds = [] := by unfold HasTys at h; exact h
theorem HasTy.int {k : IntKind} {d : Dat} (h : HasTy (.int k) d) : ∃ m, d = .v (.int k m) ∧ k.min ≤ m ∧ m ≤ k.max := by
  unfold HasTy at h
  obtain ⟨m, e, h⟩ := h
  simp only [Lit.wf, Bool.and_eq_true, decide_eq_true_eq] at h
  exact ⟨m, e, h⟩
theorem HasTy.i64 {d : Dat} (h : HasTy (.int .i64) d) : ∃ m : Int, d = .v (.int .i64 m) ∧ -9223372036854775808 ≤ m ∧ m ≤ 9223372036854775807 := by
  obtain ⟨m, e, h1, h2⟩ := h.int
  exact ⟨m, e, by simpa [IntKind.min, IntKind.bits, IntKind.signed] using h1, by simpa [IntKind.max, IntKind.bits, IntKind.signed] using h2⟩
theorem HasTy.u64 {d : Dat} (h : HasTy (.int .u64) d) : ∃ m : Nat, d = .v (.int .u64 m) ∧ m < 18446744073709551616 := by
  obtain ⟨m, e, h1, h2⟩ := h.int
  have h1 : 0 ≤ m := by simpa [IntKind.min, IntKind.bits, IntKind.signed] using h1
  have h2 : m ≤ 18446744073709551615 := by simpa [IntKind.max, IntKind.bits, IntKind.signed] using h2
  exact ⟨m.toNat, by rw [e, Int.toNat_of_nonneg h1], by omega⟩
theorem HasTy.u8 {d : Dat} (h : HasTy (.int .u8) d) : ∃ b : UInt8, d = byD b := by
  obtain ⟨m, e, h1, h2⟩ := h.int
  have h1 : 0 ≤ m := by simpa [IntKind.min, IntKind.bits, IntKind.signed] using h1
  have h2 : m ≤ 255 := by simpa [IntKind.max, IntKind.bits, IntKind.signed] using h2
  refine ⟨UInt8.ofNat m.toNat, ?_⟩
  rw [e]
  unfold byD byV
  rw [UInt8.toNat_ofNat']
  congr 2
  omega
theorem HasTy.str {d : Dat} (h : HasTy .str d) : ∃ b : ByteArray, d = .v (.string b) ∧ b.size ≤ reachBytes := by unfold HasTy at h; exact h
theorem HasTy.many {α : Type} {es : List Ty} {d : Dat} (h : HasTy (.sl es) d) (g : α → List Dat) (ok : α → Prop) (h1 : ∀ ds, HasTys es ds → ∃ x, ds = g x ∧ ok x) : ∃ l : List α, d = .sl es.length (l.flatMap g) ∧ l.length ≤ reachBytes ∧ ∀ x ∈ l, ok x := by
  unfold HasTy at h
  obtain ⟨xs, e, hl, ha⟩ := h
  have key : ∀ xs : List (List Dat), AllTy es xs → ∃ l : List α, xs.flatten = l.flatMap g ∧ l.length = xs.length ∧ ∀ x ∈ l, ok x := by
    intro xs
    induction xs with
    | nil => exact fun _ => ⟨[], rfl, rfl, fun x h => by simp at h⟩
    | cons x xs ih =>
      intro h
      unfold AllTy at h
      obtain ⟨l, h2, h3, h4⟩ := ih h.2
      obtain ⟨y, h5, h6⟩ := h1 x h.1
      exact ⟨y :: l, by simp [h2, h5], by simp [h3], fun z hz => by rcases List.mem_cons.1 hz with rfl | hz; exact h6; exact h4 z hz⟩
  obtain ⟨l, h2, h3, h4⟩ := key xs ha
  exact ⟨l, by rw [e, h2], by omega, h4⟩
theorem HasTy.bytes {d : Dat} (h : HasTy (.sl [.int .u8]) d) : ∃ l : List UInt8, d = bytesD l ∧ l.length ≤ reachBytes := by
  obtain ⟨l, e, h1, _⟩ := h.many (fun b : UInt8 => [byD b]) (fun _ => True) fun ds hd => by
    obtain ⟨d, r, rfl, h1, h2⟩ := hd.cons
    obtain ⟨b, rfl⟩ := h1.u8
    exact ⟨b, by rw [h2.nil], trivial⟩
  refine ⟨l, ?_, h1⟩
  rw [e, bytesD]
  simp [List.map_eq_flatMap]
theorem LRep.cut {M : Nat → Prop} {w : World} {ad : Addr} : ∀ {ds : List Dat} {i : Nat}, LRep M w ds ad i → ∃ cs, VRep M w ds cs ∧ Cells w (ad.add i) cs
  | [], i, _ => ⟨[], VRep.nil, fun j v h => by simp at h⟩
  | d :: ds, i, h => by
    unfold LRep at h
    obtain ⟨⟨x, h1, h2⟩, h⟩ := h
    obtain ⟨cs, h3, h4⟩ := h.cut
    refine ⟨x :: cs, h3.cons h2, fun j v hv => ?_⟩
    cases j with
    | zero => simp at hv; subst hv; rw [Addr.add_add]; exact h1
    | succ j =>
      have := h4 j v (by simpa using hv)
      simpa [Addr.add_add, Nat.add_assoc, Nat.add_comm 1] using this
def isStruct (P : Program) (t : TypeId) : Bool := match P.underlying t with | some (.struct _) => true | _ => false
def ArgForm (P : Program) (t : TypeId) (v : Value) : Prop := (isStruct P t = true → v = .agg v.cells) ∧ (isStruct P t = false → ∀ cs, v ≠ .agg cs)
section
open Go.ChangeShapes Go.RowKit
variable {H : Type} {enc : TypeId × Value → H} {P : Program}
theorem args_same (hl : laidOutB P = true) {W W' : World} (hb : Below W.heap.size W W') : ∀ {ts : List TypeId} {vs : List Value} {ds : List (DataW H)} {ps : List MemPlace}, ts.all (fun t => P.readableRec t && decide (t < P.types.size)) = true →
    DataW.TrodAll enc P W 0 (fun _ => true) true ts vs ds ps → (∀ x ∈ ps, x.block < W.heap.size) → DataW.TrodAll enc P W' 0 (fun b => decide (b < W.heap.size)) true ts vs ds ps
  | [], vs, ds, ps, _, h, _ => by
    obtain ⟨rfl, rfl, rfl⟩ := trodAll_nil h
    unfold DataW.TrodAll; rfl
  | t :: ts, vs, ds, ps, ht, h, hlt => by
    obtain ⟨v, vs, d, ds, p, q, rfl, rfl, rfl, h0, h1⟩ := trodAll_cons h
    simp only [List.all_cons, Bool.and_eq_true, decide_eq_true_eq] at ht
    exact ⟨p, q, Below.trod hl ht.1.1 ht.1.2 h0 hb fun x hx => hlt x (by simp [hx]), args_same hl hb ht.2 h1 fun x hx => hlt x (by simp [hx]), rfl⟩
def LawR (w : World) (e : Ending) (w' : World) : Prop := e = .returned (.bool true) ∧ Ev no w w'
end
end Go.Proofs.YtjcolfogmmjaoaaGreatDoor.V
end

section
set_option linter.unusedVariables false
set_option linter.unusedSimpArgs false
namespace Go.Proofs.YtjcolfogmmjaoaaGreatDoor.V
theorem setL_eq : ∀ (vs : List Value) (cs : List Value) (i : Nat), i + vs.length ≤ cs.length → setL cs i vs = cs.take i ++ vs ++ cs.drop (i + vs.length)
  | [], cs, i, h => by simp [setL]
  | v :: vs, cs, i, h => by
    simp at h
    unfold setL
    rw [setL_eq vs _ (i + 1) (by simp; omega)]
    have h1 : (cs.set i v).take (i + 1) = cs.take i ++ [v] := by
      apply List.ext_getElem?
      intro j
      by_cases hj : j < i
      · rw [List.getElem?_take_of_lt (by omega), List.getElem?_append_left (by simp; omega), List.getElem?_take_of_lt hj, List.getElem?_set_ne (by omega)]
      · by_cases hi : j = i
        · subst hi
          rw [List.getElem?_take_of_lt (by omega), List.getElem?_append_right (by simp; omega)]
          simp [show min j cs.length = j by omega, show j < cs.length by omega]
        · rw [List.getElem?_eq_none (by simp; omega), List.getElem?_eq_none (by simp; omega)]
    rw [h1, List.drop_set_of_lt (by omega)]
    simp [Nat.add_assoc, Nat.add_comm 1]
section
variable {P : Program} {L : List TD} {n : Nat} {Q : Exit → Act → World → Prop} {s : MS} {f f' : Env} {w : World} {κ : List Kt} {all : Array Oper} {dec : List Nat} {o : Oper} {al : Bool} {rest : List (Oper × Bool)} {S : World → Prop} {ex : Ex} {D : Dr}
theorem run_storeB {g off : Nat} {t : TypeId} {cs vs : List Value} (hb : Blk w g t cs) (hl : off + vs.length ≤ cs.length) (h1 : ∀ u ∈ vs, u.oneCell' = true) :
    (storeCells ⟨g, off, none⟩ vs).run P w = .ok () (setAll w ⟨g, off, none⟩ 0 vs) ∧ Blk (setAll w ⟨g, off, none⟩ 0 vs) g t (cs.take off ++ vs ++ cs.drop (off + vs.length)) ∧ Ev (at1 g) w (setAll w ⟨g, off, none⟩ 0 vs) := by
  obtain ⟨h2, h3⟩ := setAll_blk off vs 0 w cs hb
  rw [Nat.add_zero, setL_eq vs cs off hl] at h2
  refine ⟨run_storeCells P ⟨g, off, none⟩ vs 0 w h1 fun j _ hj => ?_, h2, h3⟩
  rw [add_off, hb.cell (off + j) (List.getElem?_eq_getElem (by omega))]
  exact ⟨rfl, hb.free _⟩
theorem run_bin {op : BinOp} {t yt : TypeId} {x y : Operand} {a b v : Value} (hg : op.ctorIdx ≠ BinOp.eql.ctorIdx ∧ op.ctorIdx ≠ BinOp.neq.ctorIdx) (ho : o.op = .binOp op t x y yt) (hx : ev n f x = a) (hy : ev n f y = b) (hv : (binOp op t a b).run P w = .ok v w) : (execOp (ev n f) o).run P w = .ok (.value v) w := by
  rw [run_binOp ho, hx, hy]
  have : (eqGuard op t x y a b).run P w = .ok () w := by
    unfold eqGuard
    cases op <;> first | rfl | simp at hg
  rw [this, Result.andThen_ok, hv, Result.andThen_ok]
end
end Go.Proofs.YtjcolfogmmjaoaaGreatDoor.V
end

section
set_option linter.unusedVariables false
set_option linter.unusedSimpArgs false
namespace Go.Proofs.YtjcolfogmmjaoaaGreatDoor.A
open V
inductive Dat where
  | v (x : Value)
  | sl (k : Nat) (es : List (List Dat))
  | ifc (t : TypeId) (ag : Bool) (ds : List Dat)
  | p (ds : List Dat)
mutual
def DRep (M : Nat → Prop) (w : World) : Dat → Value → Prop
  | .v u, x => x = u ∧ u.oneCell' = true
  | .sl k es, x => ∃ A c, x = .slice A es.length c ∧ es.length ≤ c ∧ (∀ e ∈ es, e.length = k) ∧ (es ≠ [] → ∃ ad, A = some ad ∧ ¬ M ad.block ∧ ad.block < w.heap.size ∧ SRep M w es ad 0)
  | .ifc t ag ds, x => ∃ u : Value, x = .iface t u ∧ (ag = true → u = .agg u.cells) ∧ (ag = false → u.oneCell' = true) ∧ VRep M w ds u.cells.toList
  | .p ds, x => ∃ ad, x = .pointer (some ad) ∧ ¬ M ad.block ∧ ad.block < w.heap.size ∧ LRep M w ds ad 0
def LRep (M : Nat → Prop) (w : World) : List Dat → Addr → Nat → Prop
  | [], _, _ => True
  | d :: ds, ad, i => (∃ x, w.cell? (ad.add i) = some x ∧ DRep M w d x) ∧ LRep M w ds ad (i + 1)
def SRep (M : Nat → Prop) (w : World) : List (List Dat) → Addr → Nat → Prop
  | [], _, _ => True
  | e :: es, ad, i => LRep M w e ad i ∧ SRep M w es ad (i + e.length)
def VRep (M : Nat → Prop) (w : World) : List Dat → List Value → Prop
  | [], xs => xs = []
  | d :: ds, xs => ∃ x r, xs = x :: r ∧ DRep M w d x ∧ VRep M w ds r
end
mutual
theorem DRep.ev {M M' N : Nat → Prop} {w w' : World} (he : Ev N w w') (hm : ∀ b, b < w.heap.size → N b ∨ M' b → M b) : ∀ {d : Dat} {x : Value}, DRep M w d x → DRep M' w' d x
  | .v u, x, h => by unfold DRep at h ⊢; exact h
  | .sl k es, x, h => by
    unfold DRep at h ⊢
    obtain ⟨A, c, e, hc, hk, hr⟩ := h
    refine ⟨A, c, e, hc, hk, fun hn => ?_⟩
    obtain ⟨ad, ha, hM, hlt, hL⟩ := hr hn
    exact ⟨ad, ha, fun h' => hM (hm _ hlt (.inr h')), Nat.lt_of_lt_of_le hlt he.size, SRep.ev he hm (fun h' => hM (hm _ hlt (.inl h'))) hL⟩
  | .ifc t ag ds, x, h => by
    unfold DRep at h ⊢
    obtain ⟨u, e, h1, h2, h3⟩ := h
    exact ⟨u, e, h1, h2, VRep.ev he hm h3⟩
  | .p ds, x, h => by
    unfold DRep at h ⊢
    obtain ⟨ad, e, hM, hlt, hL⟩ := h
    exact ⟨ad, e, fun h' => hM (hm _ hlt (.inr h')), Nat.lt_of_lt_of_le hlt he.size, LRep.ev he hm (fun h' => hM (hm _ hlt (.inl h'))) hL⟩
theorem LRep.ev {M M' N : Nat → Prop} {w w' : World} (he : Ev N w w') (hm : ∀ b, b < w.heap.size → N b ∨ M' b → M b) : ∀ {ds : List Dat} {ad : Addr} {i : Nat}, ¬ N ad.block → LRep M w ds ad i → LRep M' w' ds ad i
  | [], _, _, _, _ => by unfold LRep; trivial
  | d :: ds, ad, i, hN, h => by
    unfold LRep at h ⊢
    obtain ⟨⟨x, hc, hx⟩, h2⟩ := h
    exact ⟨⟨x, he.cell hc (by rwa [add_block]), DRep.ev he hm hx⟩, LRep.ev he hm hN h2⟩
theorem SRep.ev {M M' N : Nat → Prop} {w w' : World} (he : Ev N w w') (hm : ∀ b, b < w.heap.size → N b ∨ M' b → M b) : ∀ {es : List (List Dat)} {ad : Addr} {i : Nat}, ¬ N ad.block → SRep M w es ad i → SRep M' w' es ad i
  | [], _, _, _, _ => by unfold SRep; trivial
  | e :: es, ad, i, hN, h => by
    unfold SRep at h ⊢
    exact ⟨LRep.ev he hm hN h.1, SRep.ev he hm hN h.2⟩
theorem VRep.ev {M M' N : Nat → Prop} {w w' : World} (he : Ev N w w') (hm : ∀ b, b < w.heap.size → N b ∨ M' b → M b) : ∀ {ds : List Dat} {xs : List Value}, VRep M w ds xs → VRep M' w' ds xs
  | [], xs, h => by unfold VRep at h ⊢; exact h
  | d :: ds, xs, h => by
    unfold VRep at h ⊢
    obtain ⟨x, r, e, hx, h2⟩ := h
    exact ⟨x, r, e, DRep.ev he hm hx, VRep.ev he hm h2⟩
end
theorem LRep.get {M : Nat → Prop} {w : World} {ad : Addr} : ∀ {ds : List Dat} {i : Nat}, LRep M w ds ad i → ∀ (j : Nat) (d : Dat), ds[j]? = some d → ∃ x, w.cell? (ad.add (i + j)) = some x ∧ DRep M w d x
  | [], _, _, j, d, h => by simp at h
  | d :: ds, i, hr, 0, d', h => by unfold LRep at hr; simp at h; subst h; simpa using hr.1
  | d :: ds, i, hr, j + 1, d', h => by
    unfold LRep at hr
    have := hr.2.get j d' (by simpa using h)
    simpa [Nat.add_assoc, Nat.add_comm 1 j] using this
theorem LRep.mk {M : Nat → Prop} {w : World} {ad : Addr} : ∀ {ds : List Dat} {i : Nat}, (∀ (j : Nat) (d : Dat), ds[j]? = some d → ∃ x, w.cell? (ad.add (i + j)) = some x ∧ DRep M w d x) → LRep M w ds ad i
  | [], _, _ => by unfold LRep; trivial
  | d :: ds, i, hr => by
    unfold LRep
    refine ⟨by have := hr 0 d rfl; rwa [Nat.add_zero] at this, LRep.mk fun j d' h => ?_⟩
    have := hr (j + 1) d' (by simpa using h)
    simpa [Nat.add_assoc, Nat.add_comm 1 j] using this
theorem SRep.flat {M : Nat → Prop} {w : World} {ad : Addr} : ∀ {es : List (List Dat)} {i : Nat}, SRep M w es ad i ↔ LRep M w es.flatten ad i
  | [], i => by unfold SRep; simp; unfold LRep; trivial
  | e :: es, i => by
    unfold SRep
    rw [List.flatten_cons, SRep.flat]
    constructor
    · rintro ⟨h1, h2⟩
      refine LRep.mk fun j d h => ?_
      by_cases hj : j < e.length
      · rw [List.getElem?_append_left hj] at h; exact h1.get j d h
      · rw [List.getElem?_append_right (by omega)] at h
        have := h2.get _ d h
        rwa [show i + e.length + (j - e.length) = i + j by omega] at this
    · intro h0
      refine ⟨LRep.mk fun j d h => ?_, LRep.mk fun j d h => ?_⟩
      · exact h0.get j d (by rw [List.getElem?_append_left (List.getElem?_eq_some_iff.1 h).1]; exact h)
      · have := h0.get (e.length + j) d (by rw [List.getElem?_append_right (by omega)]; simpa using h)
        rwa [← Nat.add_assoc] at this
theorem VRep.len {M : Nat → Prop} {w : World} : ∀ {ds : List Dat} {xs : List Value}, VRep M w ds xs → xs.length = ds.length
  | [], xs, h => by unfold VRep at h; simp [h]
  | d :: ds, xs, h => by unfold VRep at h; obtain ⟨x, r, rfl, _, h2⟩ := h; simp [h2.len]
theorem VRep.get {M : Nat → Prop} {w : World} : ∀ {ds : List Dat} {xs : List Value}, VRep M w ds xs → ∀ (j : Nat) (d : Dat), ds[j]? = some d → ∃ x, xs[j]? = some x ∧ DRep M w d x
  | [], xs, h, j, d, hd => by simp at hd
  | d :: ds, xs, h, j, d', hd => by
    unfold VRep at h
    obtain ⟨y, r, rfl, h1, h2⟩ := h
    cases j with
    | zero => simp at hd; subst hd; exact ⟨y, rfl, h1⟩
    | succ j => exact h2.get j d' (by simpa using hd)
theorem VRep.mk {M : Nat → Prop} {w : World} : ∀ {ds : List Dat} {xs : List Value}, xs.length = ds.length → (∀ (j : Nat) (d : Dat), ds[j]? = some d → ∃ x, xs[j]? = some x ∧ DRep M w d x) → VRep M w ds xs
  | [], xs, hl, h => by unfold VRep; exact List.eq_nil_of_length_eq_zero (by simpa using hl)
  | d :: ds, [], hl, h => by simp at hl
  | d :: ds, x :: xs, hl, h => by
    unfold VRep
    obtain ⟨x', hx, hd⟩ := h 0 d rfl
    simp at hx
    subst hx
    exact ⟨x, xs, rfl, hd, VRep.mk (by simpa using hl) fun j d' hd' => by simpa using h (j + 1) d' (by simpa using hd')⟩
theorem VRep.nil {M : Nat → Prop} {w : World} : VRep M w [] [] := by unfold VRep; rfl
theorem VRep.cons {M : Nat → Prop} {w : World} {d : Dat} {ds : List Dat} {x : Value} {xs : List Value} (h : DRep M w d x) (h2 : VRep M w ds xs) : VRep M w (d :: ds) (x :: xs) := by unfold VRep; exact ⟨x, xs, rfl, h, h2⟩
theorem VRep.app {M : Nat → Prop} {w : World} : ∀ {ds ds2 : List Dat} {xs xs2 : List Value}, VRep M w ds xs → VRep M w ds2 xs2 → VRep M w (ds ++ ds2) (xs ++ xs2)
  | [], ds2, xs, xs2, h, h2 => by unfold VRep at h; subst h; simpa using h2
  | d :: ds, ds2, xs, xs2, h, h2 => by
    unfold VRep at h
    obtain ⟨x, r, rfl, h1, h3⟩ := h
    exact VRep.cons h1 (h3.app h2)
theorem VRep.split {M : Nat → Prop} {w : World} : ∀ {ds ds2 : List Dat} {xs : List Value}, VRep M w (ds ++ ds2) xs → VRep M w ds (xs.take ds.length) ∧ VRep M w ds2 (xs.drop ds.length)
  | [], ds2, xs, h => ⟨by simpa using VRep.nil, by simpa using h⟩
  | d :: ds, ds2, xs, h => by
    rw [List.cons_append] at h
    unfold VRep at h
    obtain ⟨x, r, rfl, h1, h3⟩ := h
    obtain ⟨h4, h5⟩ := h3.split
    exact ⟨by simpa using VRep.cons h1 h4, by simpa using h5⟩
theorem DRep.one {M : Nat → Prop} {w : World} {d : Dat} {x : Value} (h : DRep M w d x) : x.oneCell' = true := by
  cases d <;> unfold DRep at h
  · rw [h.1]; exact h.2
  · obtain ⟨A, c, rfl, _⟩ := h; rfl
  · obtain ⟨u, rfl, _⟩ := h; rfl
  · obtain ⟨ad, rfl, _⟩ := h; rfl
theorem VRep.one {M : Nat → Prop} {w : World} : ∀ {ds : List Dat} {xs : List Value}, VRep M w ds xs → ∀ x ∈ xs, x.oneCell' = true
  | [], xs, h, x, hx => by unfold VRep at h; subst h; simp at hx
  | d :: ds, xs, h, x, hx => by
    unfold VRep at h
    obtain ⟨y, r, rfl, h1, h3⟩ := h
    rcases List.mem_cons.1 hx with rfl | hx
    · exact h1.one
    · exact h3.one x hx
theorem LRep.vals {M : Nat → Prop} {w : World} {ad : Addr} {ds : List Dat} {i : Nat} (h : LRep M w ds ad i) : ∃ xs, VRep M w ds xs ∧ Cells w (ad.add i) xs ∧ xs.length = ds.length := by
  have hadd : ∀ j, (ad.add i).add j = ad.add (i + j) := by
    intro j
    unfold Addr.add
    by_cases hi : i = 0
    · subst hi; simp
    · by_cases hj : j = 0
      · subst hj; simp [hi]
      · simp [hi, hj, Nat.add_assoc]
  refine ⟨(List.range ds.length).map fun j => (w.cell? (ad.add (i + j))).getD undef, VRep.mk (by simp) fun j d hd => ?_, fun j x hx => ?_, by simp⟩
  · obtain ⟨x, hx, hr⟩ := h.get j d hd
    have hj := (List.getElem?_eq_some_iff.1 hd).1
    exact ⟨x, by rw [List.getElem?_map, List.getElem?_range hj]; simp [hx], hr⟩
  · rw [hadd]
    have hj : j < ds.length := by have := (List.getElem?_eq_some_iff.1 hx).1; simpa using this
    rw [List.getElem?_map, List.getElem?_range hj] at hx
    obtain ⟨y, hy, _⟩ := h.get j _ (List.getElem?_eq_getElem hj)
    simp [hy] at hx
    rw [hy, hx]
theorem add_add (a : Addr) (i j : Nat) : (a.add i).add j = a.add (i + j) := by
  unfold Addr.add
  by_cases hi : i = 0
  · subst hi; simp
  · by_cases hj : j = 0
    · subst hj; simp [hi]
    · simp [hi, hj, Nat.add_assoc]
inductive AV where
  | v (x : Value) (h : Nat)
  | d (x : Dat)
  | row (x : Value) (h : Nat)
  | agg (cs : List AV)
  | tup (vs : List AV)
  | ifc (t : TypeId) (a : AV)
  | fn (g : FuncId) (cs : List AV)
  | any
mutual
def Rep (M : Nat → Prop) (w : World) : AV → Value → Prop
  | .v x _, y => y = x
  | .d x, y => DRep M w x y
  | .row x _, y => y = x ∧ x.oneCell' = true
  | .agg cs, y => ∃ ys : List Value, y = .agg ys.toArray ∧ Reps M w cs ys ∧ ∀ u ∈ ys, u.oneCell' = true
  | .tup cs, y => ∃ ys : List Value, y = .tuple ys.toArray ∧ Reps M w cs ys
  | .ifc t a, y => ∃ u, y = .iface t u ∧ Rep M w a u
  | .fn g cs, y => ∃ ys : List Value, y = .func (.func g) #[] ys.toArray ∧ Reps M w cs ys
  | .any, _ => True
def Reps (M : Nat → Prop) (w : World) : List AV → List Value → Prop
  | [], ys => ys = []
  | a :: as, ys => ∃ y r, ys = y :: r ∧ Rep M w a y ∧ Reps M w as r
end
mutual
theorem Rep.ev {M M' N : Nat → Prop} {w w' : World} (he : Ev N w w') (hm : ∀ b, b < w.heap.size → N b ∨ M' b → M b) : ∀ {a : AV} {x : Value}, Rep M w a x → Rep M' w' a x
  | .v u _, x, h => by unfold Rep at h ⊢; exact h
  | .d d, x, h => by unfold Rep at h ⊢; exact DRep.ev he hm h
  | .row u _, x, h => by unfold Rep at h ⊢; exact h
  | .agg cs, x, h => by unfold Rep at h ⊢; obtain ⟨ys, e, h1, h2⟩ := h; exact ⟨ys, e, Reps.ev he hm h1, h2⟩
  | .tup cs, x, h => by unfold Rep at h ⊢; obtain ⟨ys, e, h1⟩ := h; exact ⟨ys, e, Reps.ev he hm h1⟩
  | .ifc t a, x, h => by unfold Rep at h ⊢; obtain ⟨u, e, h1⟩ := h; exact ⟨u, e, Rep.ev he hm h1⟩
  | .fn g cs, x, h => by unfold Rep at h ⊢; obtain ⟨ys, e, h1⟩ := h; exact ⟨ys, e, Reps.ev he hm h1⟩
  | .any, x, h => by unfold Rep; trivial
theorem Reps.ev {M M' N : Nat → Prop} {w w' : World} (he : Ev N w w') (hm : ∀ b, b < w.heap.size → N b ∨ M' b → M b) : ∀ {as : List AV} {xs : List Value}, Reps M w as xs → Reps M' w' as xs
  | [], xs, h => by unfold Reps at h ⊢; exact h
  | a :: as, xs, h => by
    unfold Reps at h ⊢
    obtain ⟨x, r, e, hx, h2⟩ := h
    exact ⟨x, r, e, Rep.ev he hm hx, Reps.ev he hm h2⟩
end
theorem Reps.len {M : Nat → Prop} {w : World} : ∀ {ds : List AV} {xs : List Value}, Reps M w ds xs → xs.length = ds.length
  | [], xs, h => by unfold Reps at h; simp [h]
  | d :: ds, xs, h => by unfold Reps at h; obtain ⟨x, r, rfl, _, h2⟩ := h; simp [h2.len]
theorem Reps.get {M : Nat → Prop} {w : World} : ∀ {ds : List AV} {xs : List Value}, Reps M w ds xs → ∀ (j : Nat) (d : AV), ds[j]? = some d → ∃ x, xs[j]? = some x ∧ Rep M w d x
  | [], xs, h, j, d, hd => by simp at hd
  | d :: ds, xs, h, j, d', hd => by
    unfold Reps at h
    obtain ⟨y, r, rfl, h1, h2⟩ := h
    cases j with
    | zero => simp at hd; subst hd; exact ⟨y, rfl, h1⟩
    | succ j => exact h2.get j d' (by simpa using hd)
theorem Reps.mk {M : Nat → Prop} {w : World} : ∀ {ds : List AV} {xs : List Value}, xs.length = ds.length → (∀ (j : Nat) (d : AV), ds[j]? = some d → ∃ x, xs[j]? = some x ∧ Rep M w d x) → Reps M w ds xs
  | [], xs, hl, h => by unfold Reps; exact List.eq_nil_of_length_eq_zero (by simpa using hl)
  | d :: ds, [], hl, h => by simp at hl
  | d :: ds, x :: xs, hl, h => by
    unfold Reps
    obtain ⟨x', hx, hd⟩ := h 0 d rfl
    simp at hx
    subst hx
    exact ⟨x, xs, rfl, hd, Reps.mk (by simpa using hl) fun j d' hd' => by simpa using h (j + 1) d' (by simpa using hd')⟩
theorem Reps.nil {M : Nat → Prop} {w : World} : Reps M w [] [] := by unfold Reps; rfl
theorem Reps.cons {M : Nat → Prop} {w : World} {d : AV} {ds : List AV} {x : Value} {xs : List Value} (h : Rep M w d x) (h2 : Reps M w ds xs) : Reps M w (d :: ds) (x :: xs) := by unfold Reps; exact ⟨x, xs, rfl, h, h2⟩
theorem Reps.app {M : Nat → Prop} {w : World} : ∀ {ds ds2 : List AV} {xs xs2 : List Value}, Reps M w ds xs → Reps M w ds2 xs2 → Reps M w (ds ++ ds2) (xs ++ xs2)
  | [], ds2, xs, xs2, h, h2 => by unfold Reps at h; subst h; simpa using h2
  | d :: ds, ds2, xs, xs2, h, h2 => by
    unfold Reps at h
    obtain ⟨x, r, rfl, h1, h3⟩ := h
    exact Reps.cons h1 (h3.app h2)
theorem Reps.take {M : Nat → Prop} {w : World} : ∀ {ds : List AV} {xs : List Value}, Reps M w ds xs → ∀ n, Reps M w (ds.take n) (xs.take n)
  | [], xs, h, n => by unfold Reps at h; subst h; simp; exact Reps.nil
  | d :: ds, xs, h, 0 => by simp; exact Reps.nil
  | d :: ds, xs, h, n + 1 => by
    unfold Reps at h
    obtain ⟨x, r, rfl, h1, h3⟩ := h
    exact Reps.cons h1 (h3.take n)
theorem Reps.drop {M : Nat → Prop} {w : World} : ∀ {ds : List AV} {xs : List Value}, Reps M w ds xs → ∀ n, Reps M w (ds.drop n) (xs.drop n)
  | [], xs, h, n => by unfold Reps at h; subst h; simp; exact Reps.nil
  | d :: ds, xs, h, 0 => by simpa using h
  | d :: ds, xs, h, n + 1 => by
    unfold Reps at h
    obtain ⟨x, r, rfl, h1, h3⟩ := h
    exact h3.drop n
theorem Reps.set {M : Nat → Prop} {w : World} : ∀ {ds : List AV} {xs : List Value}, Reps M w ds xs → ∀ (i : Nat) (d : AV) (x : Value), Rep M w d x → Reps M w (ds.set i d) (xs.set i x)
  | [], xs, h, i, d', x', h' => by unfold Reps at h; subst h; simp; exact Reps.nil
  | d :: ds, xs, h, 0, d', x', h' => by
    unfold Reps at h
    obtain ⟨x, r, rfl, h1, h3⟩ := h
    exact Reps.cons h' h3
  | d :: ds, xs, h, i + 1, d', x', h' => by
    unfold Reps at h
    obtain ⟨x, r, rfl, h1, h3⟩ := h
    exact Reps.cons h1 (h3.set i d' x' h')
theorem Reps.ofV {M : Nat → Prop} {w : World} : ∀ {ds : List Dat} {xs : List Value}, VRep M w ds xs → Reps M w (ds.map .d) xs
  | [], xs, h => by unfold VRep at h; subst h; exact Reps.nil
  | d :: ds, xs, h => by
    unfold VRep at h
    obtain ⟨x, r, rfl, h1, h2⟩ := h
    exact Reps.cons (by unfold Rep; exact h1) (Reps.ofV h2)
def one1 : AV → Bool
  | .v x _ => match x with | .agg _ | .tuple _ => false | .bool _ | .int _ _ | .string _ | .pointer _ | .slice _ _ _ | .map _ | .nilFunc | .iface _ _ | .nilIface | .func _ _ _ => true | _ => false
  | .d _ => true
  | .row _ _ => true
  | .ifc _ _ => true
  | .fn _ _ => true
  | _ => false
theorem one1_one {M : Nat → Prop} {w : World} {a : AV} {x : Value} (h : one1 a = true) (hr : Rep M w a x) : x.oneCell' = true := by
  cases a <;> unfold Rep at hr
  · subst hr; cases x <;> first | rfl | simp [one1] at h
  · exact hr.one
  · rw [hr.1]; exact hr.2
  · simp [one1] at h
  · simp [one1] at h
  · obtain ⟨u, rfl, _⟩ := hr; rfl
  · obtain ⟨u, rfl, _⟩ := hr; rfl
  · simp [one1] at h
structure Asrt where
  h : (Nat → Prop) → (Nat → Prop) → World → Prop
  ev : ∀ {M S w M' N w'}, h M S w → Ev N w w' → (∀ b, S b → ¬ N b) → (∀ b, b < w.heap.size → N b ∨ M' b → M b) → h M' S w'
  lt : ∀ {M S w}, h M S w → ∀ b, S b → b < w.heap.size
inductive Chunk where
  | blk (g : Nat) (t : TypeId) (cs : List AV)
  | row (x : Value) (e : TypeId) (k : Nat) (es : List (List Dat))
  | map (r : Nat) (es : List (Value × AV))
  | ext (a : Asrt)
abbrev Store := List (Nat × Chunk)
def EntRep (M : Nat → Prop) (w : World) (p : Value × AV) (e : MapEntry) : Prop := e.key = p.1 ∧ Rep M w p.2 e.val
def EntsRep (M : Nat → Prop) (w : World) : List (Value × AV) → List MapEntry → Prop
  | [], es => es = []
  | p :: ps, es => ∃ e r, es = e :: r ∧ EntRep M w p e ∧ EntsRep M w ps r
def CRep (M : Nat → Prop) (w : World) : Chunk → (Nat → Prop) → Prop
  | .blk g t cs, S => (∀ b, S b ↔ b = g) ∧ ∃ xs : List Value, Blk w g t xs ∧ Reps M w cs xs ∧ ∀ u ∈ xs, u.oneCell' = true
  | .row x e k es, S => (∀ b, S b ↔ ob x b) ∧ (∀ e' ∈ es, e'.length = k) ∧ ∃ xs, w.ownsRow 0 e k x es.length xs ∧ VRep M w es.flatten xs
  | .map r es, S => (∀ b, S b ↔ b = r) ∧ ∃ (ents : Array MapEntry) (clock : Nat), w.heap[r]? = some (.map ents clock) ∧ EntsRep M w es ents.toList ∧ (ents.toList.map (·.born)).Nodup ∧ (∀ e ∈ ents.toList, e.born < clock)
  | .ext a, S => a.h M S w
def Holds (M : Nat → Prop) (w : World) : Store → (Nat → Prop) → Prop
  | [], S => ∀ b, ¬ S b
  | (_, c) :: σ, S => ∃ S1 S2 : Nat → Prop, (∀ b, S b ↔ S1 b ∨ S2 b) ∧ (∀ b, S1 b → ¬ S2 b) ∧ CRep M w c S1 ∧ Holds M w σ S2
theorem EntsRep.ev {M M' N : Nat → Prop} {w w' : World} (he : Ev N w w') (hm : ∀ b, b < w.heap.size → N b ∨ M' b → M b) : ∀ {ps : List (Value × AV)} {es : List MapEntry}, EntsRep M w ps es → EntsRep M' w' ps es
  | [], es, h => h
  | p :: ps, es, ⟨e, r, h1, h2, h3⟩ => ⟨e, r, h1, ⟨h2.1, Rep.ev he hm h2.2⟩, EntsRep.ev he hm h3⟩
theorem CRep.ev {M M' N : Nat → Prop} {w w' : World} (he : Ev N w w') (hm : ∀ b, b < w.heap.size → N b ∨ M' b → M b) {c : Chunk} {S : Nat → Prop} (h : CRep M w c S) (hN : ∀ b, S b → ¬ N b) : CRep M' w' c S := by
  cases c with
  | blk g t cs =>
    obtain ⟨hS, xs, hb, hr, h1⟩ := h
    exact ⟨hS, xs, hb.ev he (hN g ((hS g).2 rfl)), Reps.ev he hm hr, h1⟩
  | row x e k es =>
    obtain ⟨hS, hk, xs, ho, hr⟩ := h
    refine ⟨hS, hk, xs, ?_, VRep.ev he hm hr⟩
    obtain ⟨hl, ho⟩ := ho
    refine ⟨hl, ?_⟩
    rcases ho with ho | ⟨g, cap, cur, rfl, hb, hh, r⟩
    · exact .inl ho
    · exact .inr ⟨g, cap, cur, rfl, hb, by rw [he.block g (Array.getElem?_eq_some_iff.1 hh).1 (hN g ((hS g).2 rfl))]; exact hh, r⟩
  | map r es =>
    obtain ⟨hS, ents, clock, hh, hr, h1, h2⟩ := h
    exact ⟨hS, ents, clock, by rw [he.block r (Array.getElem?_eq_some_iff.1 hh).1 (hN r ((hS r).2 rfl))]; exact hh, EntsRep.ev he hm hr, h1, h2⟩
  | ext a => exact a.ev h he hN hm
theorem CRep.lt {M : Nat → Prop} {w : World} {c : Chunk} {S : Nat → Prop} (h : CRep M w c S) : ∀ b, S b → b < w.heap.size := by
  cases c with
  | blk g t cs =>
    obtain ⟨hS, xs, hb, _⟩ := h
    intro b hb'
    rw [(hS b).1 hb']
    exact hb.lt
  | row x e k es =>
    obtain ⟨hS, hk, xs, ho, hr⟩ := h
    exact fun b hb => (ho.lt b ((hS b).1 hb)).2
  | map r es =>
    obtain ⟨hS, ents, clock, hh, _⟩ := h
    intro b hb'
    rw [(hS b).1 hb']
    exact (Array.getElem?_eq_some_iff.1 hh).1
  | ext a => exact a.lt h
theorem CRep.iff {M : Nat → Prop} {w : World} {c : Chunk} {S S' : Nat → Prop} (h : CRep M w c S) (hS : ∀ b, S' b ↔ S b) : CRep M w c S' := by
  have : S' = S := funext fun b => propext (hS b)
  rw [this]; exact h
theorem Holds.iff {M : Nat → Prop} {w : World} {σ : Store} {S S' : Nat → Prop} (h : Holds M w σ S) (hS : ∀ b, S' b ↔ S b) : Holds M w σ S' := by
  have : S' = S := funext fun b => propext (hS b)
  rw [this]; exact h
theorem Holds.lt {M : Nat → Prop} {w : World} : ∀ {σ : Store} {S : Nat → Prop}, Holds M w σ S → ∀ b, S b → b < w.heap.size
  | [], S, h, b, hb => absurd hb (h b)
  | (_, c) :: σ, S, ⟨S1, S2, h1, h2, h3, h4⟩, b, hb => ((h1 b).1 hb).elim (h3.lt b) (h4.lt b)
theorem Holds.ev {M M' N : Nat → Prop} {w w' : World} (he : Ev N w w') (hm : ∀ b, b < w.heap.size → N b ∨ M' b → M b) : ∀ {σ : Store} {S : Nat → Prop}, Holds M w σ S → (∀ b, S b → ¬ N b) → Holds M' w' σ S
  | [], S, h, _ => h
  | (_, c) :: σ, S, ⟨S1, S2, h1, h2, h3, h4⟩, hN => ⟨S1, S2, h1, h2, h3.ev he hm fun b hb => hN b ((h1 b).2 (.inl hb)), h4.ev he hm fun b hb => hN b ((h1 b).2 (.inr hb))⟩
theorem Holds.of {M M' : Nat → Prop} {w : World} {σ : Store} {S : Nat → Prop} (h : Holds M w σ S) (hm : ∀ b, b < w.heap.size → M' b → M b) : Holds M' w σ S :=
  h.ev (Ev.refl no w) (fun b hb h => h.elim (fun h => h.elim) (hm b hb)) fun _ _ h => h
theorem Rep.of {M M' : Nat → Prop} {w : World} {a : AV} {x : Value} (h : Rep M w a x) (hm : ∀ b, b < w.heap.size → M' b → M b) : Rep M' w a x :=
  h.ev (Ev.refl no w) (fun b hb h => h.elim (fun h => h.elim) (hm b hb))
theorem Reps.of {M M' : Nat → Prop} {w : World} {a : List AV} {x : List Value} (h : Reps M w a x) (hm : ∀ b, b < w.heap.size → M' b → M b) : Reps M' w a x :=
  h.ev (Ev.refl no w) (fun b hb h => h.elim (fun h => h.elim) (hm b hb))
theorem VRep.of {M M' : Nat → Prop} {w : World} {a : List Dat} {x : List Value} (h : VRep M w a x) (hm : ∀ b, b < w.heap.size → M' b → M b) : VRep M' w a x :=
  h.ev (Ev.refl no w) (fun b hb h => h.elim (fun h => h.elim) (hm b hb))
theorem Holds.append {M : Nat → Prop} {w : World} : ∀ {σ τ : Store} {S T U : Nat → Prop}, Holds M w σ S → Holds M w τ T → (∀ b, S b → ¬ T b) → (∀ b, U b ↔ S b ∨ T b) → Holds M w (σ ++ τ) U
  | [], τ, S, T, U, h1, h2, hd, hU => h2.iff fun b => (hU b).trans ⟨fun h => h.elim (fun h => absurd h (h1 b)) id, .inr⟩
  | (k, c) :: σ, τ, S, T, U, ⟨S1, S2, h1, h2, h3, h4⟩, h5, hd, hU =>
    ⟨S1, fun b => S2 b ∨ T b, fun b => (hU b).trans ⟨fun h => h.elim (fun h => ((h1 b).1 h).imp id .inl) (fun h => .inr (.inr h)), fun h => h.elim (fun h => .inl ((h1 b).2 (.inl h))) fun h => h.imp (fun h => (h1 b).2 (.inr h)) id⟩,
      fun b hb h => h.elim (h2 b hb) (hd b ((h1 b).2 (.inl hb))), h3, h4.append h5 (fun b hb => hd b ((h1 b).2 (.inr hb))) fun b => Iff.rfl⟩
theorem Holds.parts {M : Nat → Prop} {w : World} : ∀ {σ τ : Store} {U : Nat → Prop}, Holds M w (σ ++ τ) U → ∃ S T : Nat → Prop, Holds M w σ S ∧ Holds M w τ T ∧ (∀ b, S b → ¬ T b) ∧ ∀ b, U b ↔ S b ∨ T b
  | [], τ, U, h => ⟨no, U, fun _ h => h, h, fun _ h => h.elim, fun b => ⟨.inr, fun h => h.elim (fun h => h.elim) id⟩⟩
  | (k, c) :: σ, τ, U, ⟨S1, S2, h1, h2, h3, h4⟩ => by
    obtain ⟨S, T, k1, k2, k3, k4⟩ := h4.parts
    refine ⟨fun b => S1 b ∨ S b, T, ⟨S1, S, fun b => Iff.rfl, fun b hb h => h2 b hb ((k4 b).2 (.inl h)), h3, k1⟩, k2, fun b hb h => hb.elim (fun hb => h2 b hb ((k4 b).2 (.inr h))) fun hb => k3 b hb h, fun b => ?_⟩
    rw [h1 b, k4 b, or_assoc]
def lookK {α : Type} : Store → Nat → (Chunk → α) → α → α
  | [], _, _, z => z
  | (j, c) :: σ, k, f, z => match Nat.beq j k with | true => f c | false => lookK σ k f z
def del : Store → Nat → Store
  | [], _ => []
  | (j, c) :: σ, k => match Nat.beq j k with | true => σ | false => (j, c) :: del σ k
def upd : Store → Nat → Chunk → Store
  | [], _, _ => []
  | (j, c) :: σ, k, c' => match Nat.beq j k with | true => (j, c') :: σ | false => (j, c) :: upd σ k c'
def look (σ : Store) (k : Nat) : Option Chunk := lookK σ k some none
theorem lookK_eq {α : Type} : ∀ (σ : Store) (k : Nat) (f : Chunk → α) (z : α), lookK σ k f z = match look σ k with | some c => f c | none => z
  | [], _, _, _ => rfl
  | (j, c) :: σ, k, f, z => by
    unfold look lookK
    cases Nat.beq j k
    · exact lookK_eq σ k f z
    · rfl
theorem Holds.take {M : Nat → Prop} {w : World} {k : Nat} {c : Chunk} : ∀ {σ : Store} {S : Nat → Prop}, Holds M w σ S → look σ k = some c →
    ∃ S1 S2 : Nat → Prop, (∀ b, S b ↔ S1 b ∨ S2 b) ∧ (∀ b, S1 b → ¬ S2 b) ∧ CRep M w c S1 ∧ Holds M w (del σ k) S2
  | [], S, h, hl => by simp [look, lookK] at hl
  | (j, c') :: σ, S, ⟨S1, S2, h1, h2, h3, h4⟩, hl => by
    unfold look lookK at hl
    unfold del
    cases hj : Nat.beq j k
    · rw [hj] at hl
      obtain ⟨T1, T2, k1, k2, k3, k4⟩ := h4.take hl
      refine ⟨T1, fun b => S1 b ∨ T2 b, fun b => ?_, fun b hb h => h.elim (fun h => h2 b h ((k1 b).2 (.inl hb))) (k2 b hb), k3, S1, T2, fun b => Iff.rfl, fun b hb h => h2 b hb ((k1 b).2 (.inr h)), h3, k4⟩
      rw [h1 b, k1 b]
      constructor
      · rintro (h | h | h)
        · exact .inr (.inl h)
        · exact .inl h
        · exact .inr (.inr h)
      · rintro (h | h | h)
        · exact .inr (.inl h)
        · exact .inl h
        · exact .inr (.inr h)
    · rw [hj] at hl
      simp at hl
      subst hl
      exact ⟨S1, S2, h1, h2, h3, h4⟩
theorem Holds.upd {M M' N : Nat → Prop} {w w' : World} {k : Nat} {c c' : Chunk} {T : Nat → Prop} (he : Ev N w w') (hm : ∀ b, b < w.heap.size → N b ∨ M' b → M b) :
    ∀ {σ : Store} {S S1 S2 : Nat → Prop}, Holds M w σ S → look σ k = some c → Holds M w (del σ k) S2 → (∀ b, S2 b → ¬ N b) → (∀ b, T b → ¬ S2 b) → CRep M' w' c' T → Holds M' w' (upd σ k c') (fun b => T b ∨ S2 b)
  | [], S, S1, S2, h, hl, _, _, _, _ => by simp [look, lookK] at hl
  | (j, d) :: σ, S, S1, S2, ⟨U1, U2, h1, h2, h3, h4⟩, hl, hd, hN, hT, hc => by
    unfold look lookK at hl
    unfold del at hd
    unfold A.upd
    cases hj : Nat.beq j k
    · rw [hj] at hl hd
      obtain ⟨V1, V2, k1, k2, k3, k4⟩ := hd
      have := h4.upd (T := T) (c' := c') (S1 := S1) he hm hl k4 (fun b hb => hN b ((k1 b).2 (.inr hb))) (fun b hb h => hT b hb ((k1 b).2 (.inr h))) hc
      refine ⟨V1, fun b => T b ∨ V2 b, fun b => ?_, fun b hb h => h.elim (fun h => hT b h ((k1 b).2 (.inl hb))) (k2 b hb), k3.ev he hm fun b hb => hN b ((k1 b).2 (.inl hb)), this⟩
      constructor
      · rintro (h | h)
        · exact .inr (.inl h)
        · exact ((k1 b).1 h).imp id .inr
      · rintro (h | h | h)
        · exact .inr ((k1 b).2 (.inl h))
        · exact .inl h
        · exact .inr ((k1 b).2 (.inr h))
    · rw [hj] at hl hd
      exact ⟨T, S2, fun b => Iff.rfl, hT, hc, hd.ev he hm hN⟩
end Go.Proofs.YtjcolfogmmjaoaaGreatDoor.A
end

section
set_option linter.unusedVariables false
set_option linter.unusedSimpArgs false
namespace Go.Proofs.YtjcolfogmmjaoaaGreatDoor.A
open V
abbrev AEnv := List (Nat × AV)
def getAK {α : Type} : AEnv → Nat → (AV → α) → α
  | [], _, k => k .any
  | (s, v) :: r, t, k => match Nat.beq s t with | true => k v | false => getAK r t k
def getA (f : AEnv) (t : Nat) : AV := getAK f t id
theorem getAK_eq {α : Type} : ∀ (f : AEnv) (t : Nat) (k : AV → α), getAK f t k = k (getA f t)
  | [], _, _ => rfl
  | (s, v) :: r, t, k => by
    unfold getA getAK
    cases h : Nat.beq s t
    · simp only []; rw [getAK_eq r t k, getAK_eq r t id]; rfl
    · rfl
theorem getA_cons (d : Nat) (v : AV) (f : AEnv) (t : Nat) : getA ((d, v) :: f) t = if t = d then v else getA f t := by
  by_cases h : t = d
  · subst h; simp [getA, getAK]
  · have : Nat.beq d t = false := by
      cases hb : Nat.beq d t
      · rfl
      · exact absurd (Nat.eq_of_beq_eq_true hb).symm h
    simp only [getA, getAK, this, h, if_false]
def ones : List Value → Bool
  | [] => true
  | v :: l => match v.oneCell' with | true => ones l | false => false
theorem ones_spec : ∀ {l : List Value}, ones l = true → ∀ u ∈ l, u.oneCell' = true
  | [], _, u, hu => by simp at hu
  | v :: l, h, u, hu => by
    unfold ones at h
    split at h
    · rcases List.mem_cons.1 hu with rfl | hu
      · assumption
      · exact ones_spec h u hu
    · cases h
def cAV : Value → AV
  | .agg cs => match ones cs.toList with | true => .agg (cs.toList.map fun x => .v x 0) | false => .v (.agg cs) 0
  | v => .v v 0
theorem reps_vs {M : Nat → Prop} {w : World} : ∀ (l : List Value), Reps M w (l.map fun x => .v x 0) l
  | [] => Reps.nil
  | v :: l => Reps.cons (by unfold Rep; rfl) (reps_vs l)
theorem cAV_rep {M : Nat → Prop} {w : World} (v : Value) : Rep M w (cAV v) v := by
  cases v
  case agg cs =>
    show Rep M w (match ones cs.toList with | true => .agg (cs.toList.map fun x => .v x 0) | false => .v (.agg cs) 0) (.agg cs)
    cases h : ones cs.toList
    · unfold Rep; rfl
    · show Rep M w (.agg _) _
      unfold Rep
      exact ⟨cs.toList, by simp, reps_vs _, ones_spec h⟩
  all_goals (show Rep M w (.v _ 0) _; unfold Rep; rfl)
def evAK {α : Type} (n : Nat) (f : AEnv) : Operand → (AV → α) → α
  | .tmp t, k => match Nat.blt t n with | true => getAK f t k | false => k (.v undef 0)
  | .const v, k => k (cAV v)
  | .func g, k => k (.fn g [])
  | .global g, k => k (.v (.pointer (some ⟨g, 0, none⟩)) 0)
def evA (n : Nat) (f : AEnv) (x : Operand) : AV := evAK n f x id
theorem evAK_eq {α : Type} (n : Nat) (f : AEnv) (x : Operand) (k : AV → α) : evAK n f x k = k (evA n f x) := by
  cases x with
  | tmp t =>
    unfold evA
    simp only [evAK]
    cases Nat.blt t n
    · rfl
    · simp only []; rw [getAK_eq, getAK_eq f t id]; rfl
  | _ => rfl
def nm : AV → AV
  | .d (.v x) => .v x 0
  | a => a
def evNK {α : Type} (n : Nat) (f : AEnv) (x : Operand) (k : AV → α) : α := evAK n f x fun a => match a with | .d (.v x) => k (.v x 0) | a => k a
def evN (n : Nat) (f : AEnv) (x : Operand) : AV := nm (evA n f x)
theorem evNK_eq {α : Type} (n : Nat) (f : AEnv) (x : Operand) (k : AV → α) : evNK n f x k = k (evN n f x) := by
  unfold evNK evN
  rw [evAK_eq]
  cases evA n f x <;> first | rfl | (rename_i d; cases d <;> rfl)
def EnvRep (M : Nat → Prop) (w : World) (f : AEnv) (fc : Env) : Prop := ∀ t, Rep M w (getA f t) (get fc t)
theorem EnvRep.pass {M M' N : Nat → Prop} {w w' : World} (he : Ev N w w') (hm : ∀ b, b < w.heap.size → N b ∨ M' b → M b) {f : AEnv} {fc : Env} (h : EnvRep M w f fc) : EnvRep M' w' f fc := fun t => (h t).ev he hm
theorem EnvRep.of {M M' : Nat → Prop} {w : World} {f : AEnv} {fc : Env} (h : EnvRep M w f fc) (hm : ∀ b, b < w.heap.size → M' b → M b) : EnvRep M' w f fc := fun t => (h t).of hm
theorem EnvRep.eval {M : Nat → Prop} {w : World} {n : Nat} {f : AEnv} {fc : Env} (h : EnvRep M w f fc) (x : Operand) : Rep M w (evA n f x) (ev n fc x) := by
  cases x with
  | tmp t =>
    unfold evA ev
    simp only [evAK, evK]
    cases Nat.blt t n
    · unfold Rep; rfl
    · simp only []; rw [getAK_eq, getK_eq]; exact h t
  | const v => exact cAV_rep v
  | func g => show Rep M w (.fn g []) (.func (.func g) #[] #[]); unfold Rep; exact ⟨[], rfl, Reps.nil⟩
  | global g => show Rep M w (.v (.pointer (some ⟨g, 0, none⟩)) 0) (.pointer (some ⟨g, 0, none⟩)); unfold Rep; rfl
theorem EnvRep.evalN {M : Nat → Prop} {w : World} {n : Nat} {f : AEnv} {fc : Env} (h : EnvRep M w f fc) (x : Operand) : Rep M w (evN n f x) (ev n fc x) := by
  have := h.eval (n := n) x
  unfold evN
  generalize evA n f x = a at this ⊢
  cases a with
  | d d =>
    cases d with
    | v y => show Rep M w (.v y 0) _; unfold Rep at this ⊢; unfold DRep at this; exact this.1
    | _ => exact this
  | _ => exact this
def putA (f : AEnv) (d : Option Tmp) (v : AV) : AEnv := match d with | some d => (d, v) :: f | none => f
def putAK {α : Type} (f : AEnv) (d : Option Tmp) (v : AV) (k : AEnv → α) : α := match d with | some d => k ((d, v) :: f) | none => k f
theorem putAK_eq {α : Type} (f : AEnv) (d : Option Tmp) (v : AV) (k : AEnv → α) : putAK f d v k = k (putA f d v) := by cases d <;> rfl
theorem EnvRep.put {M : Nat → Prop} {w : World} {f : AEnv} {fc : Env} (h : EnvRep M w f fc) (d : Option Tmp) {a : AV} {v : Value} (hv : Rep M w a v) : EnvRep M w (putA f d a) (put fc d v) := by
  cases d with
  | none => exact h
  | some d =>
    intro t
    show Rep M w (getA ((d, a) :: f) t) (get ((d, v) :: fc) t)
    rw [getA_cons, get_cons]
    split
    · exact hv
    · exact h t
def evAs (n : Nat) (f : AEnv) : List Operand → List AV
  | [] => []
  | x :: l => evA n f x :: evAs n f l
def evAsK {α : Type} (n : Nat) (f : AEnv) : List Operand → (List AV → α) → α
  | [], k => k []
  | x :: l, k => evAK n f x fun a => evAsK n f l fun as => k (a :: as)
theorem evAsK_eq {α : Type} (n : Nat) (f : AEnv) : ∀ (l : List Operand) (k : List AV → α), evAsK n f l k = k (evAs n f l)
  | [], k => rfl
  | x :: l, k => by unfold evAsK; rw [evAK_eq, evAsK_eq]; rfl
theorem EnvRep.evals {M : Nat → Prop} {w : World} {n : Nat} {f : AEnv} {fc : Env} (h : EnvRep M w f fc) : ∀ l : List Operand, Reps M w (evAs n f l) (l.map (ev n fc))
  | [] => Reps.nil
  | x :: l => Reps.cons (h.eval x) (h.evals l)
def takeK {α : Type} (n : Nat) (l : List AV) (k : List AV → α) : α := match n with
  | 0 => k []
  | n + 1 => match l with
    | [] => k []
    | x :: l => takeK n l fun r => k (x :: r)
theorem takeK_eq {α : Type} : ∀ (n : Nat) (l : List AV) (k : List AV → α), takeK n l k = k (l.take n)
  | 0, l, k => by unfold takeK; simp
  | n + 1, [], k => by unfold takeK; simp
  | n + 1, x :: l, k => by show takeK n l (fun r => k (x :: r)) = _; rw [takeK_eq]; simp
def dropK {α : Type} (n : Nat) (l : List AV) (k : List AV → α) : α := match n with
  | 0 => k l
  | n + 1 => match l with
    | [] => k []
    | _ :: l => dropK n l k
theorem dropK_eq {α : Type} : ∀ (n : Nat) (l : List AV) (k : List AV → α), dropK n l k = k (l.drop n)
  | 0, l, k => by unfold dropK; simp
  | n + 1, [], k => by unfold dropK; simp
  | n + 1, x :: l, k => by show dropK n l k = _; rw [dropK_eq]; simp
def partA {α : Type} (cs : List AV) (s : Nat × Nat × Bool) (k : AV → α) (z : α) : α :=
  match s.2.2 with
  | true => match Nat.ble (s.1 + s.2.1) cs.length with
    | true => dropK s.1 cs fun r => takeK s.2.1 r fun r => k (.agg r)
    | false => z
  | false => nthK cs s.1 k z
def loadK {α : Type} (L : List TD) (t : TypeId) (cs : List AV) (off : Nat) (k : AV → α) (z : α) : α :=
  match oneT (tl L t) with
  | true => nthK cs off k z
  | false => match tl L t with
    | .agg m _ => match Nat.ble (off + m) cs.length with
      | true => dropK off cs fun r => takeK m r fun r => k (.agg r)
      | false => z
    | .arr q _ j => match Nat.ble (off + q * j) cs.length with
      | true => dropK off cs fun r => takeK (q * j) r fun r => k (.agg r)
      | false => z
    | _ => z
theorem tdOf_arr {P : Program} {t : TypeId} {m : Nat} {e : TypeId} {k : Nat} (h : tdOf P t = .arr m e k) : ∃ i : TypeInfo, P.underlying t = some (.array m e) ∧ P.info? t = some i ∧ (P.info? e).isSome = true ∧ i.size = m * k ∧ P.cellsOf e = k := by
  unfold tdOf at h
  split at h
  all_goals first
    | (cases h; done)
    | (split at h <;> first
        | (cases h; done)
        | (rename_i hu hi hc
           injection h with h1 h2 h3
           subst h1 h2 h3
           simp only [Bool.and_eq_true, beq_iff_eq] at hc
           exact ⟨_, hu, hi, hc.1, hc.2, rfl⟩))
theorem arr_tl {P : Program} {L : List TD} (hT : TOk P L) {t : TypeId} {m : Nat} {e : TypeId} {k : Nat} (hs' : tl L t = .arr m e k) : ∃ i : TypeInfo, P.underlying t = some (.array m e) ∧ P.info? t = some i ∧ (P.info? e).isSome = true ∧ i.size = m * k ∧ P.cellsOf e = k := by
  rcases hT t with hs | hs
  · rw [hs] at hs'; cases hs'
  · exact tdOf_arr (hs.symm.trans hs')
theorem run_loadr {P : Program} {L : List TD} (hT : TOk P L) {t : TypeId} {m : Nat} {e : TypeId} {k : Nat} {cs : List Value} (ht : tl L t = .arr m e k) (hm : cs.length = m * k) {a : Addr} {w : World} (hc : Cells w a cs) :
    (loadVar t a).run P w = .ok (.agg cs.toArray) w := by
  obtain ⟨i, hd, hi, _, hs, _⟩ := arr_tl hT ht
  have hag : aggOf P t = true := by unfold aggOf; rw [hd]
  have hc' : P.cellsOf t = cs.length := by unfold Program.cellsOf; rw [hi, hm]; exact hs
  have := run_loadCells_list (P := P) (w := w) a cs hc
  simp [loadVar, run_isAgg (by simp [hd] : (P.underlying t).isSome = true), hag, run_sizeOf' (by rw [hi]; rfl : (P.info? t).isSome = true), hc', this]
def dcells : List Dat → List AV
  | [] => []
  | d :: ds => .d d :: dcells ds
theorem dcells_eq : ∀ ds, dcells ds = ds.map .d
  | [] => rfl
  | d :: ds => by unfold dcells; rw [dcells_eq]; rfl
abbrev Obs := List (Value × Value)
def pureA {α : Type} (L : List TD) (n : Nat) (dec : List Nat) (f : AEnv) (o : Op) (k : AV → α) (z : α) : α :=
  match o with
  | .move x | .assign x => evAK n f x k
  | .nilCheck x => evAK n f x fun a => match a with
    | .v (.pointer (some p)) h => k (.v (.pointer (some p)) h)
    | .d (.p ds) => k (.d (.p ds))
    | .fn g cs => k (.fn g cs)
    | _ => z
  | .binOp op t x y _ => evNK n f x fun a => evNK n f y fun b => match a, b with
    | .v p _, .v q _ => binK (tl L t) op p q (fun r => k (.v r 0)) z
    | .d (.p ds), .v (.pointer none) _ => match tl L t, op with
      | .ptr, .eql => k (.v (.bool false) 0)
      | .ptr, .neq => k (.v (.bool true) 0)
      | _, _ => z
    | _, _ => z
  | .unOp op _ x => evNK n f x fun a => match a with
    | .v a _ => (match op, a with
      | .not, .bool b => k (.v (.bool (!b)) 0)
      | .neg, .int i b => k (.v (.int i (i.wrap (0 - b))) 0)
      | _, _ => z)
    | _ => z
  | .convert s d x => evNK n f x fun a => match a with
    | .v a _ => (match tl L s, tl L d, a with
      | .int _, .int j, .int _ m => k (.v (.int j (j.wrap m)) 0)
      | .str, .str, .string b => k (.v (.string b) 0)
      | _, _, _ => z)
    | _ => z
  | .fieldAddr s x i => evAK n f x fun a => match tl L s, a with
    | .agg _ fs, .v (.pointer (some p)) h => nthK fs i (fun q => k (.v (.pointer (some (p.add q.1))) h)) z
    | .agg _ fs, .d (.p ds) => nthK fs i (fun q => k (.d (.p (ds.drop q.1)))) z
    | _, _ => z
  | .field s x i => evAK n f x fun a => match tl L s, a with
    | .agg _ fs, .agg cs => nthK fs i (fun q => partA cs q k z) z
    | _, _ => z
  | .extract x i => evAK n f x fun a => match a with
    | .tup vs => nthK vs i k z
    | _ => z
  | .makeFunc (.func g) ⟨[]⟩ cs => evAsK n f cs.toList fun as => k (.fn g as)
  | .makeInterface t x => evAK n f x fun a => match tl L t with
    | .non | .ifc => z
    | _ => k (.ifc t a)
  | .call { callee := .builtin .max, args := ⟨[x, y]⟩, .. } => evNK n f x fun a => evNK n f y fun b => match a, b with
      | .v (.int i p) _, .v (.int _ q) _ => k (.v (.int i (if q > p then q else p)) 0)
      | _, _ => z
  | .call { callee := .builtin .min, args := ⟨[x, y]⟩, .. } => evNK n f x fun a => evNK n f y fun b => match a, b with
      | .v (.int i p) _, .v (.int _ q) _ => k (.v (.int i (if q < p then q else p)) 0)
      | _, _ => z
  | .pick (.tmp c) x y => match memK dec c with
    | true => evNK n f (.tmp c) fun v => match v with
      | .v (.bool true) _ => evAK n f x k
      | .v (.bool false) _ => evAK n f y k
      | _ => z
    | false => z
  | .typeAssert x _ at_ ok => evAK n f x fun a => match tl L at_ with
    | .non | .ifc => z
    | _ => match a with
      | .ifc t a => (match Nat.beq t at_, ok with
        | true, true => k (.tup [a, .v (.bool true) 0])
        | true, false => k a
        | false, _ => z)
      | .d (.ifc t true ds) => (match Nat.beq t at_, ok with
        | true, true => k (.tup [.agg (dcells ds), .v (.bool true) 0])
        | true, false => k (.agg (dcells ds))
        | false, _ => z)
      | .d (.ifc t false [d]) => (match Nat.beq t at_, ok with
        | true, true => k (.tup [.d d, .v (.bool true) 0])
        | true, false => k (.d d)
        | false, _ => z)
      | _ => z
  | _ => z
theorem rep_v {M : Nat → Prop} {w : World} {x : Value} {h : Nat} {y : Value} (hr : Rep M w (.v x h) y) : y = x := by unfold Rep at hr; exact hr
theorem rep_dv {M : Nat → Prop} {w : World} {x : Value} {y : Value} (hr : Rep M w (.d (.v x)) y) : y = x := by unfold Rep at hr; unfold DRep at hr; exact hr.1
theorem mk_v {M : Nat → Prop} {w : World} {x : Value} {h : Nat} : Rep M w (.v x h) x := by unfold Rep; rfl
def PureSays (P : Program) (n : Nat) (f : AEnv) (o : Oper) (g : ∀ {α : Type}, (AV → α) → α → α) : Prop :=
  (∀ {α : Type} (k : AV → α) (z : α), g k z = z) ∨
  ∃ a, (∀ {α : Type} (k : AV → α) (z : α), g k z = k a) ∧ ∀ M w fc, EnvRep M w f fc → ∃ v, (∀ w', (execOp (ev n fc) o).run P w' = .ok (.value v) w') ∧ Rep M w a v
theorem nthA_cases {β : Type} (l : List β) (i : Nat) : (∃ b, l[i]? = some b ∧ ∀ {α : Type} (k : β → α) (z : α), nthK l i k z = k b) ∨ (∀ {α : Type} (k : β → α) (z : α), nthK l i k z = z) := nthK_cases (α' := Unit) l i
theorem agg_fields {P : Program} {L : List TD} (hT : TOk P L) {s : TypeId} {m : Nat} {fs : List (Nat × Nat × Bool)} (hs' : tl L s = .agg m fs) :
    ∃ (Fs : Array Field) (i : TypeInfo), P.underlying s = some (.struct Fs) ∧ P.info? s = some i ∧ i.size = m ∧
      (∀ f ∈ Fs.toList, (P.info? f.type).isSome = true ∧ (P.underlying f.type).isSome = true ∧ P.cellsOf f.type ≠ 0) ∧ fs = Fs.toList.map fun f => (f.offset, P.cellsOf f.type, aggOf P f.type) := by
  rcases hT s with hs | hs
  · rw [hs] at hs'; cases hs'
  · exact tdOf_agg (hs.symm.trans hs')
theorem exec_bin {P : Program} {L : List TD} (hT : TOk P L) {n : Nat} {fc : Env} {o : Oper} {op : BinOp} {t yt : TypeId} {x y : Operand} {p q : Value} (ho : o.op = .binOp op t x y yt) (hx : ev n fc x = p) (hy : ev n fc y = q) :
    (∀ {α : Type} (k : Value → α) (z : α), binK (tl L t) op p q k z = z) ∨
    ∃ v, (∀ w, (execOp (ev n fc) o).run P w = .ok (.value v) w) ∧ ∀ {α : Type} (k : Value → α) (z : α), binK (tl L t) op p q k z = k v := by
  have := binK_says (P := P) hT (n := n) (f := fc) ho
  rw [hx, hy] at this
  exact this
theorem binK_val {P : Program} {L : List TD} (hT : TOk P L) {op : BinOp} {t : TypeId} {p q : Value} :
    (∀ {α : Type} (k : Value → α) (z : α), binK (tl L t) op p q k z = z) ∨
    ∃ v, (∀ {α : Type} (k : Value → α) (z : α), binK (tl L t) op p q k z = k v) ∧ ∀ (n : Nat) (fc : Env) (o : Oper) (yt : TypeId) (x y : Operand) w, o.op = .binOp op t x y yt → ev n fc x = p → ev n fc y = q → (execOp (ev n fc) o).run P w = .ok (.value v) w := by
  rcases exec_bin (P := P) hT (n := 2) (fc := [(0, p), (1, q)]) (o := ⟨none, .binOp op t (.tmp 0) (.tmp 1) 0, 0, "", #[], none⟩) (op := op) (t := t) (yt := 0) (x := .tmp 0) (y := .tmp 1) (p := p) (q := q) rfl rfl rfl with h | ⟨v, hv, hk⟩
  · exact .inl h
  · refine .inr ⟨v, hk, fun n fc o yt x y w ho hx hy => ?_⟩
    rcases exec_bin (P := P) hT (n := n) (fc := fc) (o := o) ho hx hy with h | ⟨v', hv', hk'⟩
    · have := h (α := Nat) (fun _ => 1) 0
      rw [hk] at this
      cases this
    · have h1 := hk (α := Value) id p
      rw [hk'] at h1
      simp at h1
      rw [← h1]
      exact hv' w
theorem ptr_tl {P : Program} {L : List TD} (hT : TOk P L) {t : TypeId} (ht : tl L t = .ptr) : ∃ e, P.underlying t = some (.pointer e) := by
  rcases hT t with h | h
  · rw [h] at ht; cases ht
  · rw [h] at ht; exact tdOf_ptr ht
theorem exec_ptr_nil {P : Program} {L : List TD} (hT : TOk P L) {n : Nat} {fc : Env} {o : Oper} {op : BinOp} {t yt : TypeId} {x y : Operand} {ad : Addr} (ho : o.op = .binOp op t x y yt) (hx : ev n fc x = .pointer (some ad)) (hy : ev n fc y = .pointer none) (ht : tl L t = .ptr) (hop : op = .eql ∨ op = .neq) (w : World) :
    (execOp (ev n fc) o).run P w = .ok (.value (.bool (op.ctorIdx == BinOp.neq.ctorIdx))) w := by
  rw [run_binOp ho, hx, hy, guard_int (by simp)]
  obtain ⟨e, hu⟩ := ptr_tl hT ht
  have he : (Op.equal t (.pointer (some ad)) (.pointer none)).run P w = .ok false w := by
    show (Op.equalIn (9999 + 1) t _ _).run P w = _
    unfold Op.equalIn
    simp [underlying, hu]
  rcases hop with rfl | rfl
  · show (Result.ok () w).andThen _ = _
    simp [binOp, he]; decide
  · show (Result.ok () w).andThen _ = _
    simp [binOp, he]
theorem makeIfc {P : Program} {L : List TD} (hT : TOk P L) {t : TypeId} {v : Value} (h1 : tl L t ≠ .non) (h2 : tl L t ≠ .ifc) (w : World) : (Instr.makeInterface t v).run P w = .ok (.iface t v) w := by
  rcases hT t with hs | hs
  · exact absurd hs h1
  rw [hs] at h1 h2
  have : ∃ d, P.underlying t = some d ∧ ∀ ms, d ≠ .interface ms := by
    unfold tdOf at h1 h2
    cases hu : P.underlying t with
    | none => simp [hu] at h1
    | some d =>
      refine ⟨d, rfl, fun ms e => ?_⟩
      subst e
      rw [hu] at h1 h2
      cases hi : P.info? t with
      | none => rw [hi] at h1; exact h1 rfl
      | some i =>
        rw [hi] at h1 h2
        simp only at h1 h2
        split at h2
        · exact h2 rfl
        · rename_i h; simp [h] at h1
  obtain ⟨d, hd, hne⟩ := this
  unfold Instr.makeInterface
  cases d <;> simp [underlying, hd] <;> exact hne _ rfl
theorem noIfc {P : Program} {L : List TD} (hT : TOk P L) {t : TypeId} (h1 : tl L t ≠ .non) (h2 : tl L t ≠ .ifc) : ∃ d, P.underlying t = some d ∧ ∀ ms, d ≠ .interface ms := by
  rcases hT t with hs | hs
  · exact absurd hs h1
  rw [hs] at h1 h2
  unfold tdOf at h1 h2
  cases hu : P.underlying t with
  | none => simp [hu] at h1
  | some d =>
    refine ⟨d, rfl, fun ms e => ?_⟩
    subst e
    rw [hu] at h1 h2
    cases hi : P.info? t with
    | none => rw [hi] at h1; exact h1 rfl
    | some i =>
      rw [hi] at h1 h2
      simp only at h1 h2
      split at h2
      · exact h2 rfl
      · rename_i h; simp [h] at h1
theorem run_assert {P : Program} {L : List TD} (hT : TOk P L) {t xt : TypeId} {v : Value} {ok : Bool} (h1 : tl L t ≠ .non) (h2 : tl L t ≠ .ifc) (w : World) :
    (Instr.typeAssert (.iface t v) xt t ok).run P w = .ok (if ok then .tuple #[v, .bool true] else v) w := by
  obtain ⟨d, hd, hne⟩ := noIfc hT h1 h2
  unfold Instr.typeAssert
  simp only [Sem.run_bind, underlying, run_program, Result.andThen_ok, hd, Sem.run_pure]
  cases d <;> first | exact absurd rfl (hne _) | simp
theorem part_rep {P : Program} {M : Nat → Prop} {w : World} {cs : List AV} {ys : List Value} (hr : Reps M w cs ys) (h1 : ∀ u ∈ ys, u.oneCell' = true) {fd : Field} (h3 : (P.info? fd.type).isSome = true ∧ (P.underlying fd.type).isSome = true ∧ P.cellsOf fd.type ≠ 0) :
    (∀ {α : Type} (k : AV → α) (z : α), partA cs (fd.offset, P.cellsOf fd.type, aggOf P fd.type) k z = z) ∨
    ∃ a, (∀ {α : Type} (k : AV → α) (z : α), partA cs (fd.offset, P.cellsOf fd.type, aggOf P fd.type) k z = k a) ∧ ∃ v, (∀ w', (part fd.type ys.toArray fd.offset).run P w' = .ok v w') ∧ Rep M w a v := by
  unfold partA
  simp only
  cases hag : aggOf P fd.type
  · simp only
    rcases nthA_cases cs fd.offset with ⟨b, hb, hk⟩ | hk
    · refine .inr ⟨b, fun k z => hk k z, ?_⟩
      obtain ⟨y, hy, hr⟩ := hr.get _ _ hb
      exact ⟨y, fun w' => by simp [part, run_isAgg h3.2.1, hag, hy], hr⟩
    · exact .inl fun k z => hk k z
  · simp only
    cases hle : Nat.ble (fd.offset + P.cellsOf fd.type) cs.length
    · exact .inl fun k z => rfl
    · refine .inr ⟨.agg ((cs.drop fd.offset).take (P.cellsOf fd.type)), fun k z => by simp only [dropK_eq, takeK_eq], .agg (ys.toArray.extract fd.offset (fd.offset + P.cellsOf fd.type)), fun w' => by simp [part, run_isAgg h3.2.1, hag, run_sizeOf' h3.1], ?_⟩
      unfold Rep
      refine ⟨(ys.drop fd.offset).take (P.cellsOf fd.type), ?_, (hr.drop _).take _, fun u hu => h1 u (List.mem_of_mem_drop (List.mem_of_mem_take hu))⟩
      congr 1
      apply Array.ext'
      simp [List.extract_eq_take_drop, List.drop_take]
theorem pureA_says {P : Program} {L : List TD} (hT : TOk P L) (n : Nat) (dec : List Nat) (f : AEnv) (o : Oper) : PureSays P n f o (fun k z => pureA L n dec f o.op k z) := by
  obtain ⟨dst, op, ty, pos, after, guard⟩ := o
  cases op <;> first | (left; intro α k z; rfl) | skip
  case move x => right; exact ⟨evA n f x, fun k z => by simp only [pureA]; rw [evAK_eq], fun M w fc h => ⟨ev n fc x, fun w' => rfl, h.eval x⟩⟩
  case assign x => right; exact ⟨evA n f x, fun k z => by simp only [pureA]; rw [evAK_eq], fun M w fc h => ⟨ev n fc x, fun w' => rfl, h.eval x⟩⟩
  case nilCheck x =>
    unfold PureSays
    simp only [pureA, evAK_eq]
    have key := fun {M w fc} (h : EnvRep M w f fc) => h.eval (n := n) x
    cases ha : evA n f x <;> first | (left; intro α k z; rfl) | skip
    case v a hh =>
      cases a <;> first | (left; intro α k z; rfl) | skip
      rename_i p
      cases p with
      | none => left; intro α k z; rfl
      | some p =>
        right
        refine ⟨_, fun k z => rfl, fun M w fc h => ⟨.pointer (some p), fun w' => ?_, mk_v⟩⟩
        have := key h
        rw [ha] at this
        simp [execOp, rep_v this]
    case d a =>
      cases a <;> first | (left; intro α k z; rfl) | skip
      rename_i ds
      right
      refine ⟨_, fun k z => rfl, fun M w fc h => ⟨ev n fc x, fun w' => ?_, by have := key h; rwa [ha] at this⟩⟩
      have := key h
      rw [ha] at this
      unfold Rep at this
      unfold DRep at this
      obtain ⟨ad, e, _⟩ := this
      simp [execOp, e]
    case fn g cs =>
      right
      refine ⟨_, fun k z => rfl, fun M w fc h => ⟨ev n fc x, fun w' => ?_, by have := key h; rwa [ha] at this⟩⟩
      have := key h
      rw [ha] at this
      unfold Rep at this
      obtain ⟨ys, e, _⟩ := this
      simp [execOp, e]
  case binOp op t x y yt =>
    unfold PureSays
    simp only [pureA, evNK_eq]
    have key := fun {M w fc} (h : EnvRep M w f fc) => (⟨h.evalN (n := n) x, h.evalN (n := n) y⟩ : _ ∧ _)
    cases ha : evN n f x <;> first | (left; intro α k z; rfl) | skip
    case v p hp =>
      cases hb : evN n f y <;> first | (left; intro α k z; rfl) | skip
      rename_i q hq
      rcases binK_val (P := P) hT (op := op) (t := t) (p := p) (q := q) with h | ⟨v, hv, hk⟩
      · left; intro α k z; exact h _ z
      · refine .inr ⟨.v v 0, fun k z => hv _ z, fun M w fc h => ⟨v, fun w' => hk n fc ⟨dst, .binOp op t x y yt, ty, pos, after, guard⟩ yt x y w' rfl ?_ ?_, mk_v⟩⟩
        · have := (key h).1; rw [ha] at this; exact rep_v this
        · have := (key h).2; rw [hb] at this; exact rep_v this
    case d d =>
      cases d <;> first | (left; intro α k z; rfl) | skip
      rename_i ds
      cases hb : evN n f y <;> first | (left; intro α k z; rfl) | skip
      rename_i q hq
      cases q <;> first | (left; intro α k z; rfl) | skip
      rename_i q
      cases q with
      | some q => left; intro α k z; rfl
      | none =>
        cases htl : tl L t <;> first | (left; intro α k z; rfl) | skip
        have hp : ∀ {M w fc}, EnvRep M w f fc → (∃ ad, ev n fc x = .pointer (some ad)) ∧ ev n fc y = .pointer none := by
          intro M w fc h
          obtain ⟨h1, h2⟩ := key h
          rw [ha] at h1
          rw [hb] at h2
          unfold Rep at h1
          unfold DRep at h1
          obtain ⟨ad, e, _⟩ := h1
          exact ⟨⟨ad, e⟩, rep_v h2⟩
        cases op <;> first | (left; intro α k z; rfl) | skip
        case eql =>
          right
          refine ⟨_, fun k z => rfl, fun M w fc h => ⟨.bool false, fun w' => ?_, mk_v⟩⟩
          obtain ⟨⟨ad, e1⟩, e2⟩ := hp h
          exact exec_ptr_nil (P := P) hT (op := .eql) (t := t) rfl e1 e2 htl (.inl rfl) w'
        case neq =>
          right
          refine ⟨_, fun k z => rfl, fun M w fc h => ⟨.bool true, fun w' => ?_, mk_v⟩⟩
          obtain ⟨⟨ad, e1⟩, e2⟩ := hp h
          exact exec_ptr_nil (P := P) hT (op := .neq) (t := t) rfl e1 e2 htl (.inr rfl) w'
  case unOp op t x =>
    unfold PureSays
    simp only [pureA, evNK_eq]
    have key := fun {M w fc} (h : EnvRep M w f fc) => h.evalN (n := n) x
    cases ha : evN n f x <;> first | (left; intro α k z; rfl) | skip
    rename_i a hh
    have hev : ∀ {M w fc}, EnvRep M w f fc → ev n fc x = a := fun h => by have := key h; rw [ha] at this; exact rep_v this
    cases op <;> cases a <;> first | (left; intro α k z; rfl) | (right; exact ⟨_, fun k z => rfl, fun M w fc h => ⟨_, fun w' => by simp [execOp, hev h, Op.unary, Op.intArith], mk_v⟩⟩)
  case convert s d x =>
    unfold PureSays
    simp only [pureA, evNK_eq]
    have key := fun {M w fc} (h : EnvRep M w f fc) => h.evalN (n := n) x
    cases ha : evN n f x <;> first | (left; intro α k z; rfl) | skip
    rename_i a hh
    have hev : ∀ {M w fc}, EnvRep M w f fc → ev n fc x = a := fun h => by have := key h; rw [ha] at this; exact rep_v this
    cases hs' : tl L s <;> first | (left; intro α k z; rfl) | skip
    case int i =>
      cases hd' : tl L d <;> first | (left; intro α k z; rfl) | skip
      cases a <;> first | (left; intro α k z; rfl) | skip
      right
      have h1 := int_tl hT hs'
      have h2 := int_tl hT hd'
      exact ⟨_, fun k z => rfl, fun M w fc h => ⟨_, fun w' => by simp [execOp, hev h, Go.convert, underlying, h1, h2, Conv.intToInt], mk_v⟩⟩
    case str =>
      cases hd' : tl L d <;> first | (left; intro α k z; rfl) | skip
      cases a <;> first | (left; intro α k z; rfl) | skip
      right
      have h1 := str_tl hT hs'
      have h2 := str_tl hT hd'
      exact ⟨_, fun k z => rfl, fun M w fc h => ⟨_, fun w' => by simp [execOp, hev h, Go.convert, underlying, h1, h2], mk_v⟩⟩
  case fieldAddr s x i =>
    unfold PureSays
    simp only [pureA, evAK_eq]
    have key := fun {M w fc} (h : EnvRep M w f fc) => h.eval (n := n) x
    cases hs' : tl L s <;> first | (left; intro α k z; rfl) | skip
    rename_i m fs
    obtain ⟨Fs, inf, hu, hi, hm, hall, rfl⟩ := agg_fields hT hs'
    have hat : ∀ (q : Nat × Nat × Bool), (Fs.toList.map fun f => (f.offset, P.cellsOf f.type, aggOf P f.type))[i]? = some q → ∀ a w', (Instr.fieldAt s (.pointer (some a)) i).run P w' = .ok (.pointer (some (a.add q.1))) w' := by
      intro q hq a w'
      rw [List.getElem?_map] at hq
      obtain ⟨fd, hfd, rfl⟩ := Option.map_eq_some_iff.1 hq
      have hmem : fd ∈ Fs.toList := List.mem_of_getElem? hfd
      have hfd' : Fs[i]? = some fd := by rw [← Array.getElem?_toList]; exact hfd
      have h3 := hall fd hmem
      simp [Instr.fieldAt, Instr.sureAddr, underlying, hu, hfd', fieldPlace, run_sizeOf' h3.1, h3.2.2]
    cases ha : evA n f x <;> first | (left; intro α k z; rfl) | skip
    case v a hh =>
      cases a <;> first | (left; intro α k z; rfl) | skip
      rename_i a
      cases a with
      | none => left; intro α k z; rfl
      | some a =>
        rcases nthA_cases (Fs.toList.map fun f => (f.offset, P.cellsOf f.type, aggOf P f.type)) i with ⟨q, hq, hk⟩ | hk
        · right
          refine ⟨_, fun k z => hk _ z, fun M w fc h => ⟨.pointer (some (a.add q.1)), fun w' => ?_, mk_v⟩⟩
          have := key h
          rw [ha] at this
          simp [execOp, rep_v this, hat q hq a w']
        · left; intro α k z; exact hk _ z
    case d a =>
      cases a <;> first | (left; intro α k z; rfl) | skip
      rename_i ds
      rcases nthA_cases (Fs.toList.map fun f => (f.offset, P.cellsOf f.type, aggOf P f.type)) i with ⟨q, hq, hk⟩ | hk
      · right
        refine ⟨_, fun k z => hk _ z, fun M w fc h => ?_⟩
        have := key h
        rw [ha] at this
        unfold Rep at this
        unfold DRep at this
        obtain ⟨ad, e, hM, hlt, hL⟩ := this
        refine ⟨.pointer (some (ad.add q.1)), fun w' => by simp [execOp, e, hat q hq ad w'], ?_⟩
        unfold Rep
        unfold DRep
        refine ⟨_, rfl, by rwa [add_block], by rwa [add_block], LRep.mk fun j d hd => ?_⟩
        rw [Nat.zero_add, add_add]
        have := hL.get (q.1 + j) d (by rw [List.getElem?_drop] at hd; exact hd)
        rwa [Nat.zero_add] at this
      · left; intro α k z; exact hk _ z
  case field s x i =>
    unfold PureSays
    simp only [pureA, evAK_eq]
    have key := fun {M w fc} (h : EnvRep M w f fc) => h.eval (n := n) x
    cases hs' : tl L s <;> first | (left; intro α k z; rfl) | skip
    rename_i m fs
    obtain ⟨Fs, inf, hu, hi, hm, hall, rfl⟩ := agg_fields hT hs'
    cases ha : evA n f x <;> first | (left; intro α k z; rfl) | skip
    rename_i cs
    rcases nthA_cases (Fs.toList.map fun f => (f.offset, P.cellsOf f.type, aggOf P f.type)) i with ⟨q, hq, hk⟩ | hk
    · rw [List.getElem?_map] at hq
      obtain ⟨fd, hfd, rfl⟩ := Option.map_eq_some_iff.1 hq
      have hmem : fd ∈ Fs.toList := List.mem_of_getElem? hfd
      have hfd' : Fs[i]? = some fd := by rw [← Array.getElem?_toList]; exact hfd
      have h3 := hall fd hmem
      by_cases hz : ∀ {α : Type} (k : AV → α) (z : α), partA cs (fd.offset, P.cellsOf fd.type, aggOf P fd.type) k z = z
      · left; intro α k z; show nthK _ i _ z = z; rw [hk]; exact hz k z
      · right
        have hex : ∃ a, (∀ {α : Type} (k : AV → α) (z : α), partA cs (fd.offset, P.cellsOf fd.type, aggOf P fd.type) k z = k a) := by
          unfold partA at hz ⊢
          simp only at hz ⊢
          cases hag : aggOf P fd.type
          · rw [hag] at hz
            simp only at hz ⊢
            rcases nthA_cases cs fd.offset with ⟨b, hb, hk⟩ | hk
            · exact ⟨b, fun k z => hk k z⟩
            · exact absurd (fun {α} k z => hk k z) hz
          · rw [hag] at hz
            simp only at hz ⊢
            cases hle : Nat.ble (fd.offset + P.cellsOf fd.type) cs.length
            · rw [hle] at hz; exact absurd (fun {α} k z => rfl) hz
            · exact ⟨.agg ((cs.drop fd.offset).take (P.cellsOf fd.type)), fun k z => by simp only [dropK_eq, takeK_eq]⟩
        obtain ⟨a, hka⟩ := hex
        refine ⟨a, fun {α} k z => by show nthK _ i _ z = _; rw [hk]; exact hka k z, fun M w fc h => ?_⟩
        have := key h
        rw [ha] at this
        unfold Rep at this
        obtain ⟨ys, e, hr, h1⟩ := this
        rcases part_rep (P := P) hr h1 h3 with hz' | ⟨a', hk', v, hv, hrep⟩
        · exact absurd (fun {α} k z => hz' k z) hz
        · have hh := hka (α := AV) id .any
          rw [hk'] at hh
          simp at hh
          subst hh
          exact ⟨v, fun w' => by simp [execOp, e, Instr.field, asAgg, underlying, hu, hfd', hv], hrep⟩
    · left; intro α k z; exact hk _ z
  case extract x i =>
    unfold PureSays
    simp only [pureA, evAK_eq]
    have key := fun {M w fc} (h : EnvRep M w f fc) => h.eval (n := n) x
    cases ha : evA n f x <;> first | (left; intro α k z; rfl) | skip
    rename_i vs
    rcases nthA_cases vs i with ⟨b, hb, hk⟩ | hk
    · right
      refine ⟨b, fun k z => hk k z, fun M w fc h => ?_⟩
      have := key h
      rw [ha] at this
      unfold Rep at this
      obtain ⟨ys, e, hr⟩ := this
      obtain ⟨y, hy, hr⟩ := hr.get _ _ hb
      exact ⟨y, fun w' => by simp [execOp, e, Instr.extract, hy], hr⟩
    · left; intro α k z; exact hk k z
  case makeFunc fn a b =>
    cases fn <;> first | (left; intro α k z; rfl) | skip
    rename_i g
    obtain ⟨a⟩ := a
    cases a with
    | nil =>
      right
      refine ⟨.fn g (evAs n f b.toList), fun k z => by simp only [pureA]; rw [evAsK_eq], fun M w fc h => ⟨.func (.func g) #[] (b.map (ev n fc)), fun w' => by simp [execOp, Instr.makeFunc], ?_⟩⟩
      unfold Rep
      exact ⟨b.toList.map (ev n fc), congrArg (Value.func (.func g) #[]) (Array.ext' (by simp)), h.evals _⟩
    | cons x l => left; intro α k z; rfl
  case makeInterface t x =>
    unfold PureSays
    simp only [pureA, evAK_eq]
    have key := fun {M w fc} (h : EnvRep M w f fc) => h.eval (n := n) x
    cases htd : tl L t <;> first
      | (left; intro α k z; rfl)
      | (right; refine ⟨_, fun k z => rfl, fun M w fc h => ⟨.iface t (ev n fc x), fun w' => ?_, ?_⟩⟩
         · simp [execOp, makeIfc hT (t := t) (by rw [htd]; simp) (by rw [htd]; simp)]
         · unfold Rep; exact ⟨_, rfl, key h⟩)
  case pick c x y =>
    cases c <;> first | (left; intro α k z; rfl) | skip
    rename_i c
    unfold PureSays
    simp only [pureA, evNK_eq, evAK_eq]
    have key := fun {M w fc} (h : EnvRep M w f fc) => h.evalN (n := n) (.tmp c)
    cases memK dec c
    · left; intro α k z; rfl
    · cases hv : evN n f (.tmp c) <;> first | (left; intro α k z; rfl) | skip
      rename_i a hh
      cases a <;> first | (left; intro α k z; rfl) | skip
      rename_i b
      have hev : ∀ {M w fc}, EnvRep M w f fc → ev n fc (.tmp c) = .bool b := fun h => by have := key h; rw [hv] at this; exact rep_v this
      cases b
      · right; exact ⟨evA n f y, fun k z => rfl, fun M w fc h => ⟨ev n fc y, fun w' => by simp [execOp, hev h, asBool], h.eval y⟩⟩
      · right; exact ⟨evA n f x, fun k z => rfl, fun M w fc h => ⟨ev n fc x, fun w' => by simp [execOp, hev h, asBool], h.eval x⟩⟩
  case typeAssert x xt at_ ok =>
    unfold PureSays
    simp only [pureA, evAK_eq]
    have key := fun {M w fc} (h : EnvRep M w f fc) => h.eval (n := n) x
    by_cases hn : tl L at_ = .non ∨ tl L at_ = .ifc
    · left; intro α k z; rcases hn with hn | hn <;> rw [hn]
    have h1 : tl L at_ ≠ .non := fun h => hn (.inl h)
    have h2 : tl L at_ ≠ .ifc := fun h => hn (.inr h)
    have red : ∀ {α : Type} (z : α) (b : α), (match tl L at_ with | .non | .ifc => z | _ => b) = b := by
      intro α z b; cases htl : tl L at_ <;> first | exact absurd htl h1 | exact absurd htl h2 | rfl
    have fin : ∀ (t : TypeId) (a' : AV) (dv : ∀ {α : Type}, (AV → α) → α → α), (∀ {α : Type} (k : AV → α) (z : α), dv k z = (match Nat.beq t at_, ok with | true, true => k (.tup [a', .v (.bool true) 0]) | true, false => k a' | false, _ => z)) →
        (∀ M w fc, EnvRep M w f fc → ∃ u, ev n fc x = .iface t u ∧ Rep M w a' u) →
        ((∀ {α : Type} (k : AV → α) (z : α), dv k z = z) ∨ ∃ a, (∀ {α : Type} (k : AV → α) (z : α), dv k z = k a) ∧ ∀ M w fc, EnvRep M w f fc → ∃ v, (∀ w', (execOp (ev n fc) ⟨dst, .typeAssert x xt at_ ok, ty, pos, after, guard⟩).run P w' = .ok (.value v) w') ∧ Rep M w a v) := by
      intro t a' dv hdv hu
      cases hb : Nat.beq t at_
      · left; intro α k z; rw [hdv, hb]
      · have e := Nat.eq_of_beq_eq_true hb
        subst e
        cases ok
        · right
          refine ⟨a', fun k z => by rw [hdv, hb], fun M w fc h => ?_⟩
          obtain ⟨u, e, hr⟩ := hu M w fc h
          exact ⟨u, fun w' => by simp [execOp, e, run_assert hT h1 h2], hr⟩
        · right
          refine ⟨_, fun k z => by rw [hdv, hb], fun M w fc h => ?_⟩
          obtain ⟨u, e, hr⟩ := hu M w fc h
          refine ⟨.tuple #[u, .bool true], fun w' => by simp [execOp, e, run_assert hT h1 h2], ?_⟩
          unfold Rep
          exact ⟨[u, .bool true], rfl, Reps.cons hr (Reps.cons mk_v Reps.nil)⟩
    simp only [red]
    cases ha : evA n f x <;> first | (left; intro α k z; rfl) | skip
    case ifc t a =>
      refine fin t a (fun k z => _) (fun k z => rfl) fun M w fc h => ?_
      have := key h
      rw [ha] at this
      unfold Rep at this
      exact this
    case d a =>
      cases a <;> first | (left; intro α k z; rfl) | skip
      rename_i t ag ds
      have hd : ∀ M w fc, EnvRep M w f fc → ∃ u : Value, ev n fc x = .iface t u ∧ (ag = true → u = .agg u.cells) ∧ (ag = false → u.oneCell' = true) ∧ VRep M w ds u.cells.toList := by
        intro M w fc h
        have := key h
        rw [ha] at this
        unfold Rep at this
        unfold DRep at this
        exact this
      cases ag
      · match ds, hd with
        | [], hd => left; intro α k z; rfl
        | _ :: _ :: _, hd => left; intro α k z; rfl
        | [d], hd =>
          refine fin t (.d d) (fun k z => _) (fun k z => rfl) fun M w fc h => ?_
          obtain ⟨u, e, _, h2, h3⟩ := hd M w fc h
          refine ⟨u, e, ?_⟩
          rw [cells_one (h2 rfl)] at h3
          unfold VRep at h3
          obtain ⟨y, r, e, h3, _⟩ := h3
          cases e
          unfold Rep
          exact h3
      · refine fin t (.agg (dcells ds)) (fun k z => _) (fun k z => rfl) fun M w fc h => ?_
        obtain ⟨u, e, h2, _, h3⟩ := hd M w fc h
        refine ⟨u, e, ?_⟩
        rw [h2 rfl]
        unfold Rep
        exact ⟨u.cells.toList, by simp, by rw [dcells_eq]; exact Reps.ofV h3, h3.one⟩
  case call c =>
    obtain ⟨callee, args, argTypes⟩ := c
    obtain ⟨args⟩ := args
    obtain ⟨argTypes⟩ := argTypes
    cases callee <;> first | (left; intro α k z; rfl) | skip
    rename_i b
    have hres : ∀ fc w, (execOp (ev n fc) ⟨dst, .call ⟨.builtin b, ⟨args⟩, ⟨argTypes⟩⟩, ty, pos, after, guard⟩).run P w = (builtin b ⟨argTypes⟩ ty ((⟨args⟩ : Array Operand).map fun | .const _ => true | _ => false) ((⟨args⟩ : Array Operand).map (ev n fc))).run P w := by
      intro fc w
      simp [execOp, resolve, invoke]
      rfl
    unfold PureSays
    simp only [hres]
    cases b <;> first | (left; intro α k z; rfl) | skip
    case max =>
      match args with
      | [x, y] =>
        simp only [pureA, evNK_eq]
        have key := fun {M w fc} (h : EnvRep M w f fc) => (⟨h.evalN (n := n) x, h.evalN (n := n) y⟩ : _ ∧ _)
        cases ha : evN n f x <;> first | (left; intro α k z; rfl) | skip
        rename_i a hh
        cases a <;> first | (left; intro α k z; rfl) | skip
        cases hb : evN n f y <;> first | (left; intro α k z; rfl) | skip
        rename_i b hh'
        cases b <;> first | (left; intro α k z; rfl) | skip
        right
        refine ⟨_, fun k z => rfl, fun M w fc h => ⟨_, fun w' => ?_, mk_v⟩⟩
        have := key h
        rw [ha, hb] at this
        simp [builtin, Builtin.max_, Builtin.max2, rep_v this.1, rep_v this.2]
      | [] => left; intro α k z; rfl
      | [x] => left; intro α k z; rfl
      | _ :: _ :: _ :: _ => left; intro α k z; rfl
    case min =>
      match args with
      | [x, y] =>
        simp only [pureA, evNK_eq]
        have key := fun {M w fc} (h : EnvRep M w f fc) => (⟨h.evalN (n := n) x, h.evalN (n := n) y⟩ : _ ∧ _)
        cases ha : evN n f x <;> first | (left; intro α k z; rfl) | skip
        rename_i a hh
        cases a <;> first | (left; intro α k z; rfl) | skip
        cases hb : evN n f y <;> first | (left; intro α k z; rfl) | skip
        rename_i b hh'
        cases b <;> first | (left; intro α k z; rfl) | skip
        right
        refine ⟨_, fun k z => rfl, fun M w fc h => ⟨_, fun w' => ?_, mk_v⟩⟩
        have := key h
        rw [ha, hb] at this
        simp [builtin, Builtin.min_, Builtin.min2, rep_v this.1, rep_v this.2]
      | [] => left; intro α k z; rfl
      | [x] => left; intro α k z; rfl
      | _ :: _ :: _ :: _ => left; intro α k z; rfl
end Go.Proofs.YtjcolfogmmjaoaaGreatDoor.A
end

section
set_option linter.unusedVariables false
set_option linter.unusedSimpArgs false
namespace Go.Proofs.YtjcolfogmmjaoaaGreatDoor.A
open V
theorem run_get {P : Program} {w : World} {r : Nat} {o : Obj} (h : w.heap[r]? = some o) (ho : ∀ c e f, o ≠ .cells c e f) : (getObj r).run P w = .ok o w := by
  unfold getObj Sem.run
  rw [h]
  cases o <;> first | rfl | exact absurd rfl (ho _ _ _)
def setB (w : World) (r : Nat) (o : Obj) : World := { w with heap := w.heap.setIfInBounds r o }
theorem run_set {P : Program} {w : World} {r : Nat} {o : Obj} (h : w.heap[r]? = some o) (ho : ∀ c e f, o ≠ .cells c e f) (o' : Obj) : (setObj r o').run P w = .ok () (setB w r o') := by
  unfold setObj Sem.run
  rw [h]
  cases o <;> first | rfl | exact absurd rfl (ho _ _ _)
theorem Ev.setB (w : World) (r : Nat) (o : Obj) : Ev (at1 r) w (setB w r o) := ⟨rfl, rfl, rfl, by simp [A.setB], fun b hb hn => by simp only [A.setB, Array.getElem?_setIfInBounds]; rw [if_neg (fun e => hn e.symm)]⟩
theorem setB_at {w : World} {r : Nat} (h : r < w.heap.size) (o : Obj) : (setB w r o).heap[r]? = some o := by simp [setB, h]
def ptrV (g : Nat) (sp : Option Nat) : Value := .pointer (some ⟨g, 0, sp⟩)
def findK {α : Type} (rp rs : Bool) (σp σ : Store) (h : Nat) (k : Chunk → α) (z : α) : α := match rs with
  | true => lookK σ h k (match rp with | true => lookK σp h k z | false => z)
  | false => match rp with | true => lookK σp h k z | false => z
theorem findK_cases (rp rs : Bool) (σp σ : Store) (h : Nat) :
    (∀ {α : Type} (k : Chunk → α) (z : α), findK rp rs σp σ h k z = z) ∨ ∃ c, (∀ {α : Type} (k : Chunk → α) (z : α), findK rp rs σp σ h k z = k c) ∧ ((rs = true ∧ look σ h = some c) ∨ (rp = true ∧ look σp h = some c)) := by
  unfold findK
  cases rs
  · cases rp
    · exact .inl fun k z => rfl
    · cases hl : look σp h with
      | none => left; intro α k z; simp only [lookK_eq, hl]
      | some c => right; exact ⟨c, fun k z => by simp only [lookK_eq, hl], .inr ⟨rfl, rfl⟩⟩
  · cases hl : look σ h with
    | some c => right; exact ⟨c, fun k z => by simp only [lookK_eq, hl], .inl ⟨rfl, rfl⟩⟩
    | none =>
      cases rp
      · left; intro α k z; simp only [lookK_eq, hl]
      · cases hl' : look σp h with
        | none => left; intro α k z; simp only [lookK_eq, hl, hl']
        | some c => right; exact ⟨c, fun k z => by simp only [lookK_eq, hl, hl'], .inr ⟨rfl, rfl⟩⟩
def nd : Dat → AV
  | .v x => .v x 0
  | d => .d d
def dcellsN : List Dat → List AV
  | [] => []
  | d :: ds => nd d :: dcellsN ds
theorem Reps.ofVN {M : Nat → Prop} {w : World} : ∀ {ds : List Dat} {xs : List Value}, VRep M w ds xs → Reps M w (dcellsN ds) xs
  | [], xs, h => by unfold VRep at h; subst h; exact Reps.nil
  | d :: ds, xs, h => by
    unfold VRep at h
    obtain ⟨x, r, rfl, h1, h2⟩ := h
    refine Reps.cons ?_ (Reps.ofVN h2)
    cases d with
    | v y => unfold DRep at h1; unfold nd Rep; exact h1.1
    | _ => unfold nd Rep; exact h1
def readA {α : Type} (L : List TD) (n : Nat) (rd rp rs : Bool) (σp σ : Store) (f : AEnv) (o : Op) (k : AV → Obs → α) (z : α) : α := match o with
  | .load t x => evAK n f x fun a => match a with
    | .v (.pointer (some ⟨g, off, sp⟩)) h => findK rp rs σp σ h (fun c => match c with | .blk g' _ cs => loadK L t cs off (fun r => k r [(ptrV g sp, ptrV g' none)]) z | _ => z) z
    | .d (.p ds) => match rd with | true => loadK L t (dcellsN ds) 0 (fun r => k r []) z | false => z
    | _ => z
  | .call { callee := .builtin .len, args := ⟨[x]⟩, argTypes := ⟨[t]⟩ } => evAK n f x fun a => match tl L t with
    | .str => (match a with
      | .v (.string s) _ => k (.v (.int .i64 s.size) 0) []
      | .d (.v (.string s)) => k (.v (.int .i64 s.size) 0) []
      | _ => z)
    | .sl _ _ => (match a with
      | .v (.slice _ m _) _ => k (.v (.int .i64 m) 0) []
      | .d (.sl _ es) => k (.v (.int .i64 es.length) 0) []
      | .row x h => findK rp rs σp σ h (fun c => match c with | .row x' _ _ es => k (.v (.int .i64 es.length) 0) [(x, x')] | _ => z) z
      | _ => z)
    | .map => (match a with
      | .v (.map none) _ => k (.v (.int .i64 0) 0) []
      | .v (.map (some r)) h => findK rp rs σp σ h (fun c => match c with | .map r' es => k (.v (.int .i64 es.length) 0) [(.map (some r), .map (some r'))] | _ => z) z
      | _ => z)
    | _ => z
  | _ => z
def setK {α : Type} : List AV → Nat → List AV → (List AV → α) → α
  | [], _, _, k => k []
  | c :: cs, 0, vs, k => match vs with
    | [] => k (c :: cs)
    | v :: vs => setK cs 0 vs fun r => k (v :: r)
  | c :: cs, i + 1, vs, k => setK cs i vs fun r => k (c :: r)
def setA : List AV → Nat → List AV → List AV
  | [], _, _ => []
  | c :: cs, 0, vs => match vs with
    | [] => c :: cs
    | v :: vs => v :: setA cs 0 vs
  | c :: cs, i + 1, vs => c :: setA cs i vs
theorem setK_eq {α : Type} : ∀ (cs : List AV) (i : Nat) (vs : List AV) (k : List AV → α), setK cs i vs k = k (setA cs i vs)
  | [], _, _, _ => rfl
  | c :: cs, 0, [], k => rfl
  | c :: cs, 0, v :: vs, k => by show setK cs 0 vs (fun r => k (v :: r)) = _; rw [setK_eq]; rfl
  | c :: cs, i + 1, vs, k => by show setK cs i vs (fun r => k (c :: r)) = _; rw [setK_eq]; rfl
def updK {α : Type} : Store → Nat → Chunk → (Store → α) → α
  | [], _, _, f => f []
  | (j, c) :: σ, k, c', f => match Nat.beq j k with | true => f ((j, c') :: σ) | false => updK σ k c' fun r => f ((j, c) :: r)
theorem updK_eq {α : Type} : ∀ (σ : Store) (k : Nat) (c : Chunk) (f : Store → α), updK σ k c f = f (upd σ k c)
  | [], _, _, _ => rfl
  | (j, c) :: σ, k, c', f => by
    unfold updK upd
    cases Nat.beq j k
    · exact updK_eq σ k c' _
    · rfl
def wcK {α : Type} (L : List TD) (t : TypeId) (a : AV) (k : List AV → α) (z : α) : α := match oneT (tl L t) with
  | true => match one1 a with | true => k [a] | false => z
  | false => match tl L t, a with
    | .agg m _, .agg cs => match Nat.beq cs.length m with | true => k cs | false => z
    | .arr q _ j, .agg cs => match Nat.beq cs.length (q * j) with | true => k cs | false => z
    | _, _ => z
def storeA {α : Type} (L : List TD) (n : Nat) (σ : Store) (f : AEnv) (o : Op) (k : Store → Obs → α) (z : α) : α := match o with
  | .store t x y => evAK n f x fun a => match a with
    | .v (.pointer (some ⟨g, off, sp⟩)) h => evAK n f y fun b => wcK L t b (fun vs => lookK σ h (fun c => match c with
        | .blk g' t' cs => match Nat.ble (off + vs.length) cs.length with
          | true => setK cs off vs fun cs' => updK σ h (.blk g' t' cs') fun σ' => k σ' [(ptrV g sp, ptrV g' none)]
          | false => z
        | _ => z) z) z
    | _ => z
  | _ => z
def opA {α : Type} (L : List TD) (n : Nat) (rd rp rs : Bool) (σp σ : Store) (dec : List Nat) (f : AEnv) (o : Op) (k : Bool → AV → Store → Obs → α) (z : α) : α :=
  pureA L n dec f o (fun a => k false a σ []) (readA L n rd rp rs σp σ f o (fun a ob => k false a σ ob) (match rs with | true => storeA L n σ f o (fun σ' ob => k true (.v undef 0) σ' ob) z | false => z))
def OT (ob : Obs) : Prop := ∀ p ∈ ob, p.1 = p.2
theorem OT.of : ∀ {ob : Obs}, ob.map (·.1) = ob.map (·.2) → OT ob
  | [], _, p, hp => by simp at hp
  | q :: ob, h, p, hp => by
    simp only [List.map_cons, List.cons.injEq] at h
    rcases List.mem_cons.1 hp with rfl | hp
    · exact h.1
    · exact OT.of h.2 p hp
theorem loadK_says {P : Program} {L : List TD} (hT : TOk P L) {M : Nat → Prop} {w : World} {t : TypeId} {ad : Addr} {cs : List AV} {xs : List Value} (hr : Reps M w cs xs) (h1 : ∀ u ∈ xs, u.oneCell' = true) (off : Nat) {W : World → Prop} (hc : ∀ w', W w' → Cells w' ad xs) :
    (∀ {α : Type} (k : AV → α) (z : α), loadK L t cs off k z = z) ∨ ∃ a, (∀ {α : Type} (k : AV → α) (z : α), loadK L t cs off k z = k a) ∧ ∃ v, (∀ w', W w' → (loadVar t (ad.add off)).run P w' = .ok v w') ∧ Rep M w a v := by
  unfold loadK
  cases h1t : oneT (tl L t)
  · cases htl : tl L t <;> first | (left; intro α k z; rfl) | skip
    rotate_left
    rename_i q e j
    simp only
    cases hle : Nat.ble (off + q * j) cs.length
    · left; intro α k z; rfl
    · right
      have hlen := hr.len
      have hle' := Nat.le_of_ble_eq_true hle
      refine ⟨.agg ((cs.drop off).take (q * j)), fun k z => by simp only [dropK_eq, takeK_eq], .agg ((xs.drop off).take (q * j)).toArray, fun w' hw => ?_, ?_⟩
      · refine run_loadr hT htl (by simp; omega) fun j' v hv => ?_
        rw [add_add]
        have hj : j' < q * j := by have := (List.getElem?_eq_some_iff.1 hv).1; simp at this; omega
        rw [List.getElem?_take_of_lt hj, List.getElem?_drop] at hv
        exact hc w' hw _ _ hv
      · unfold Rep
        exact ⟨_, rfl, (hr.drop _).take _, fun u hu => h1 u (List.mem_of_mem_drop (List.mem_of_mem_take hu))⟩
    rename_i m fs
    simp only
    cases hle : Nat.ble (off + m) cs.length
    · left; intro α k z; rfl
    · right
      have hlen := hr.len
      have hle' := Nat.le_of_ble_eq_true hle
      refine ⟨.agg ((cs.drop off).take m), fun k z => by simp only [dropK_eq, takeK_eq], .agg ((xs.drop off).take m).toArray, fun w' hw => ?_, ?_⟩
      · refine run_loada hT (fs := fs) (by rw [htl]; congr 1; simp; omega) fun j v hv => ?_
        rw [add_add]
        have hj : j < m := by have := (List.getElem?_eq_some_iff.1 hv).1; simp at this; omega
        rw [List.getElem?_take_of_lt hj, List.getElem?_drop] at hv
        exact hc w' hw _ _ hv
      · unfold Rep
        exact ⟨_, rfl, (hr.drop _).take _, fun u hu => h1 u (List.mem_of_mem_drop (List.mem_of_mem_take hu))⟩
  · rcases nthA_cases cs off with ⟨b, hb, hk⟩ | hk
    · right
      obtain ⟨x, hx, hrx⟩ := hr.get _ _ hb
      exact ⟨b, fun k z => hk k z, x, fun w' hw => run_load1 hT h1t (hc w' hw _ _ hx), hrx⟩
    · exact .inl fun k z => hk k z
theorem loadK_cases (L : List TD) (t : TypeId) (cs : List AV) (off : Nat) :
    (∀ {α : Type} (k : AV → α) (z : α), loadK L t cs off k z = z) ∨ ∃ a, (∀ {α : Type} (k : AV → α) (z : α), loadK L t cs off k z = k a) := by
  unfold loadK
  cases h1t : oneT (tl L t)
  · cases htl : tl L t <;> first | (left; intro α k z; rfl) | skip
    rotate_left
    rename_i q e j
    simp only
    cases hle : Nat.ble (off + q * j) cs.length
    · left; intro α k z; rfl
    · right; exact ⟨.agg ((cs.drop off).take (q * j)), fun k z => by simp only [dropK_eq, takeK_eq]⟩
    rename_i m fs
    simp only
    cases hle : Nat.ble (off + m) cs.length
    · left; intro α k z; rfl
    · right; exact ⟨.agg ((cs.drop off).take m), fun k z => by simp only [dropK_eq, takeK_eq]⟩
  · rcases nthA_cases cs off with ⟨b, hb, hk⟩ | hk
    · right; exact ⟨b, fun k z => hk k z⟩
    · exact .inl fun k z => hk k z
def Stays (w : World) (W : World → Prop) (S : Nat → Prop) : Prop := ∀ w', W w' → ∀ b, S b → w'.heap[b]? = w.heap[b]?
theorem Blk.same {w w' : World} {g : Nat} {t : TypeId} {cs : List Value} (h : Blk w g t cs) (e : w'.heap[g]? = w.heap[g]?) : Blk w' g t cs := by unfold Blk at h ⊢; rw [e]; exact h
theorem readA_says {P : Program} {L : List TD} (hT : TOk P L) (n : Nat) (rd rp rs : Bool) (σp σ : Store) (f : AEnv) (o : Oper) :
    (∀ {α : Type} (k : AV → Obs → α) (z : α), readA L n rd rp rs σp σ f o.op k z = z) ∨ ∃ a ob, (∀ {α : Type} (k : AV → Obs → α) (z : α), readA L n rd rp rs σp σ f o.op k z = k a ob) ∧
      ∀ (M : Nat → Prop) (w : World) (Sp Su : Nat → Prop) (fc : Env) (W : World → Prop), OT ob → EnvRep M w f fc → Holds M w σp Sp → Holds M w σ Su → (rs = true → Stays w W Su) → (rp = true → Stays w W Sp) → (rd = true → Stays w W (fun b => b < w.heap.size ∧ ¬ M b)) →
        ∃ v, (∀ w', W w' → (execOp (ev n fc) o).run P w' = .ok (.value v) w') ∧ Rep M w a v := by
  obtain ⟨dst, op, ty, pos, after, guard⟩ := o
  have found : ∀ {c h} {M : Nat → Prop} {w : World} {Sp Su : Nat → Prop} {W : World → Prop}, ((rs = true ∧ look σ h = some c) ∨ (rp = true ∧ look σp h = some c)) → Holds M w σp Sp → Holds M w σ Su → (rs = true → Stays w W Su) → (rp = true → Stays w W Sp) → ∃ S1, CRep M w c S1 ∧ Stays w W S1 := by
    intro c h M w Sp Su W hf hp hu hs hs'
    rcases hf with ⟨hrs, hl⟩ | ⟨hrp, hl⟩
    · obtain ⟨S1, S2, e, _, hc, _⟩ := hu.take hl
      exact ⟨S1, hc, fun w' hw b hb => hs hrs w' hw b ((e b).2 (.inl hb))⟩
    · obtain ⟨S1, S2, e, _, hc, _⟩ := hp.take hl
      exact ⟨S1, hc, fun w' hw b hb => hs' hrp w' hw b ((e b).2 (.inl hb))⟩
  cases op <;> first | (left; intro α k z; rfl) | skip
  case load t x =>
    simp only [readA, evAK_eq]
    have key := fun {M w fc} (h : EnvRep M w f fc) => h.eval (n := n) x
    cases ha : evA n f x <;> first | (left; intro α k z; rfl) | skip
    case v a h =>
      cases a <;> first | (left; intro α k z; rfl) | skip
      rename_i a
      cases a with
      | none => left; intro α k z; rfl
      | some a =>
        obtain ⟨g, off, sp⟩ := a
        simp only
        rcases findK_cases rp rs σp σ h with hk | ⟨c, hk, hf⟩
        · left; intro α k z; exact hk _ z
        cases c <;> first | (left; intro α k z; rw [hk]; done) | skip
        rename_i g' t' cs
        rcases loadK_cases L t cs off with hlz | ⟨a, hla⟩
        · left; intro α k z; rw [hk]; exact hlz _ z
        · refine .inr ⟨a, [(ptrV g sp, ptrV g' none)], fun k z => by rw [hk]; exact hla _ z, fun M w Sp Su fc W hob henv hp hu hs hs' hd' => ?_⟩
          have e := hob (ptrV g sp, ptrV g' none) (by simp)
          simp only [ptrV, Value.pointer.injEq, Option.some.injEq, Addr.mk.injEq] at e
          obtain ⟨rfl, _, rfl⟩ := e
          obtain ⟨S1, hc, hst⟩ := found hf hp hu hs hs'
          obtain ⟨hS, xs, hb, hr, h1⟩ := hc
          rcases loadK_says (P := P) hT (t := t) hr h1 off (W := W) (ad := ⟨g, 0, none⟩) (fun w' hw => (Blk.same hb (hst w' hw g ((hS g).2 rfl))).cells) with hz | ⟨a', ha', v, hv, hrv⟩
          · have := hz (α := Nat) (fun _ => 1) 0
            rw [hla] at this
            cases this
          · have h2 := hla (α := AV) id .any
            rw [ha'] at h2
            simp at h2
            subst h2
            have hx := key henv
            rw [ha] at hx
            refine ⟨v, fun w' hw => exec_load rfl (rep_v hx) ?_, hrv⟩
            have := hv w' hw
            rwa [add_plain] at this
    case d a =>
      cases a <;> first | (left; intro α k z; rfl) | skip
      rename_i ds
      cases rd
      · left; intro α k z; rfl
      simp only
      rcases loadK_cases L t (dcellsN ds) 0 with hlz | ⟨a, hla⟩
      · left; intro α k z; exact hlz _ z
      · refine .inr ⟨a, [], fun k z => hla _ z, fun M w Sp Su fc W hob henv hp hu hs hs' hd' => ?_⟩
        have hx := key henv
        rw [ha] at hx
        unfold Rep at hx
        unfold DRep at hx
        obtain ⟨ad, e, hM, hlt, hL⟩ := hx
        obtain ⟨xs, hv, hcells, hlen⟩ := hL.vals
        rw [show ad.add 0 = ad by unfold Addr.add; simp] at hcells
        have hcells' : ∀ w', W w' → Cells w' ad xs := fun w' hw j v hj => by
          have h1 := hcells j v hj
          rw [← h1]
          exact World.cell?_of_block (w := w) (by rw [add_block]; exact hd' trivial w' hw ad.block ⟨hlt, hM⟩)
        rcases loadK_says (P := P) hT (t := t) (cs := dcellsN ds) (Reps.ofVN hv) hv.one 0 (W := W) (ad := ad) hcells' with hz | ⟨a', ha', v, hv, hrv⟩
        · have := hz (α := Nat) (fun _ => 1) 0
          rw [hla] at this
          cases this
        · have h2 := hla (α := AV) id .any
          rw [ha'] at h2
          simp at h2
          subst h2
          refine ⟨v, fun w' hw => exec_load rfl e ?_, hrv⟩
          have := hv w' hw
          rwa [show ad.add 0 = ad by unfold Addr.add; simp] at this
  case call c =>
    obtain ⟨callee, args, argTypes⟩ := c
    obtain ⟨args⟩ := args
    obtain ⟨argTypes⟩ := argTypes
    cases callee <;> first | (left; intro α k z; rfl) | skip
    rename_i b
    cases b <;> first | (left; intro α k z; rfl) | skip
    match args, argTypes with
    | [], _ => left; intro α k z; rfl
    | [x], [] => left; intro α k z; rfl
    | [x], _ :: _ :: _ => left; intro α k z; rfl
    | _ :: _ :: _, _ => left; intro α k z; rfl
    | [x], [t] =>
      have hres : ∀ fc w, (execOp (ev n fc) ⟨dst, .call ⟨.builtin .len, ⟨[x]⟩, ⟨[t]⟩⟩, ty, pos, after, guard⟩).run P w = ((Builtin.len_ #[t] ty #[ev n fc x]).run P w).andThen fun v w => .ok (.value v) w := by
        intro fc w
        simp [execOp, resolve, invoke, builtin]
      simp only [readA, evAK_eq]
      have key := fun {M w fc} (h : EnvRep M w f fc) => h.eval (n := n) x
      cases htl : tl L t <;> first | (left; intro α k z; rfl) | skip
      case str =>
        have hstr : ∀ {s : ByteArray} {fc w}, ev n fc x = .string s → (execOp (ev n fc) ⟨dst, .call ⟨.builtin .len, ⟨[x]⟩, ⟨[t]⟩⟩, ty, pos, after, guard⟩).run P w = .ok (.value (.int .i64 s.size)) w := by
          intro s fc w h
          rw [hres]
          simp [Builtin.len_, underlying, str_tl hT htl, h, goInt]
        cases ha : evA n f x <;> first | (left; intro α k z; rfl) | skip
        case v a h =>
          cases a <;> first | (left; intro α k z; rfl) | skip
          refine .inr ⟨_, [], fun k z => rfl, fun M w Sp Su fc W hob henv hp hu hs hs' hd' => ⟨_, fun w' hw => hstr ?_, mk_v⟩⟩
          have hx := key henv; rw [ha] at hx; exact rep_v hx
        case d a =>
          cases a <;> first | (left; intro α k z; rfl) | skip
          rename_i a
          cases a <;> first | (left; intro α k z; rfl) | skip
          refine .inr ⟨_, [], fun k z => rfl, fun M w Sp Su fc W hob henv hp hu hs hs' hd' => ⟨_, fun w' hw => hstr ?_, mk_v⟩⟩
          have hx := key henv; rw [ha] at hx; exact rep_dv hx
      case sl e m =>
        have hsl : ∀ {A : Option Addr} {m c : Nat} {fc w}, ev n fc x = .slice A m c → (execOp (ev n fc) ⟨dst, .call ⟨.builtin .len, ⟨[x]⟩, ⟨[t]⟩⟩, ty, pos, after, guard⟩).run P w = .ok (.value (.int .i64 m)) w := by
          intro A m c fc w h
          rw [hres]
          simp [Builtin.len_, underlying, (sl_tl hT htl).1, h, goInt]
        cases ha : evA n f x <;> first | (left; intro α k z; rfl) | skip
        case v a h =>
          cases a <;> first | (left; intro α k z; rfl) | skip
          refine .inr ⟨_, [], fun k z => rfl, fun M w Sp Su fc W hob henv hp hu hs hs' hd' => ?_⟩
          have hx := key henv
          rw [ha] at hx
          exact ⟨_, fun w' hw => hsl (rep_v hx), mk_v⟩
        case d a =>
          cases a <;> first | (left; intro α k z; rfl) | skip
          rename_i kk es
          refine .inr ⟨_, [], fun k z => rfl, fun M w Sp Su fc W hob henv hp hu hs hs' hd' => ?_⟩
          have hx := key henv
          rw [ha] at hx
          unfold Rep at hx
          unfold DRep at hx
          obtain ⟨A, c, e, _⟩ := hx
          exact ⟨_, fun w' hw => hsl e, mk_v⟩
        case row y h =>
          simp only
          rcases findK_cases rp rs σp σ h with hk | ⟨c, hk, hf⟩
          · left; intro α k z; exact hk _ z
          cases c <;> first | (left; intro α k z; rw [hk]; done) | skip
          rename_i y' e' k' es
          refine .inr ⟨_, [(y, y')], fun k z => by rw [hk], fun M w Sp Su fc W hob henv hp hu hs hs' hd' => ?_⟩
          have e := hob (y, y') (by simp)
          simp only at e
          subst e
          obtain ⟨S1, hc, hst⟩ := found hf hp hu hs hs'
          obtain ⟨hS, hk', xs, ho, hv⟩ := hc
          have hx := key henv
          rw [ha] at hx
          unfold Rep at hx
          rcases ho.2 with ⟨h1, h2⟩ | ⟨g, cap, cur, h1, _⟩
          · refine ⟨_, fun w' hw => hsl (hx.1.trans h1), ?_⟩
            unfold Rep
            rw [h2]
          · exact ⟨_, fun w' hw => hsl (hx.1.trans h1), mk_v⟩
      case map =>
        cases ha : evA n f x <;> first | (left; intro α k z; rfl) | skip
        rename_i a h
        cases a <;> first | (left; intro α k z; rfl) | skip
        rename_i r
        obtain ⟨ka, kb, hu'⟩ : ∃ a b, P.underlying t = some (.map a b) := by
          rcases hT t with h | h
          · rw [h] at htl; cases htl
          · rw [h] at htl; exact tdOf_map htl
        cases r with
        | none =>
          refine .inr ⟨_, [], fun k z => rfl, fun M w Sp Su fc W hob henv hp hu hs hs' hd' => ⟨_, fun w' hw => ?_, mk_v⟩⟩
          have hx := key henv; rw [ha] at hx
          rw [hres]
          simp [Builtin.len_, underlying, hu', rep_v hx, goInt]
        | some r =>
          simp only
          rcases findK_cases rp rs σp σ h with hk | ⟨c, hk, hf⟩
          · left; intro α k z; exact hk _ z
          cases c <;> first | (left; intro α k z; rw [hk]; done) | skip
          rename_i r' es
          refine .inr ⟨_, [(.map (some r), .map (some r'))], fun k z => by rw [hk], fun M w Sp Su fc W hob henv hp hu hs hs' hd' => ?_⟩
          have e := hob (.map (some r), .map (some r')) (by simp)
          simp only [Value.map.injEq, Option.some.injEq] at e
          subst e
          obtain ⟨S1, hc, hst⟩ := found hf hp hu hs hs'
          obtain ⟨hS, ents, clock, hh, hr, _⟩ := hc
          have hx := key henv
          rw [ha] at hx
          have hlen : ∀ {ps : List (Value × AV)} {es : List MapEntry}, EntsRep M w ps es → es.length = ps.length := by
            intro ps
            induction ps with
            | nil => intro es h; unfold EntsRep at h; simp [h]
            | cons p ps ih => intro es h; unfold EntsRep at h; obtain ⟨e, r, rfl, _, h⟩ := h; simp [ih h]
          refine ⟨_, fun w' hw => ?_, mk_v⟩
          have hh' : w'.heap[r]? = some (.map ents clock) := by rw [hst w' hw r ((hS r).2 rfl)]; exact hh
          rw [hres]
          have := hlen hr
          simp at this
          simp [Builtin.len_, underlying, hu', rep_v hx, run_get hh' (by simp), goInt, this]
theorem wcK_says {P : Program} {L : List TD} (hT : TOk P L) (t : TypeId) (a : AV) :
    (∀ {α : Type} (k : List AV → α) (z : α), wcK L t a k z = z) ∨ ∃ vs, (∀ {α : Type} (k : List AV → α) (z : α), wcK L t a k z = k vs) ∧ P.cellsOf t = vs.length ∧ (P.info? t).isSome = true ∧
      ∀ M w x, Rep M w a x → Reps M w vs x.cells.toList ∧ ∀ u ∈ x.cells.toList, u.oneCell' = true := by
  unfold wcK
  cases h1 : oneT (tl L t)
  · cases htl : tl L t <;> first | (left; intro α k z; rfl) | skip
    rotate_left
    rename_i q e j
    cases a <;> first | (left; intro α k z; rfl) | skip
    rename_i cs
    simp only
    cases hb : Nat.beq cs.length (q * j)
    · left; intro α k z; rfl
    · right
      obtain ⟨i, hd, hi, _, hs, _⟩ := arr_tl hT htl
      refine ⟨cs, fun k z => rfl, by rw [Nat.eq_of_beq_eq_true hb]; unfold Program.cellsOf; rw [hi]; exact hs, by rw [hi]; rfl, fun M w x hr => ?_⟩
      unfold Rep at hr
      obtain ⟨ys, rfl, hr, h1⟩ := hr
      exact ⟨by simpa [Value.cells] using hr, by simpa [Value.cells] using h1⟩
    rename_i m fs
    cases a <;> first | (left; intro α k z; rfl) | skip
    rename_i cs
    simp only
    cases hb : Nat.beq cs.length m
    · left; intro α k z; rfl
    · right
      obtain ⟨d, hd, _, hm⟩ := agg_tl hT htl
      refine ⟨cs, fun k z => rfl, by rw [hm]; exact (Nat.eq_of_beq_eq_true hb).symm, some_of_one hd, fun M w x hr => ?_⟩
      unfold Rep at hr
      obtain ⟨ys, rfl, hr, h1⟩ := hr
      exact ⟨by simpa [Value.cells] using hr, by simpa [Value.cells] using h1⟩
  · cases h2 : one1 a
    · left; intro α k z; rfl
    · right
      obtain ⟨d, hd, _, hm⟩ := one_tl hT h1
      refine ⟨[a], fun k z => rfl, by rw [hm]; rfl, some_of_one hd, fun M w x hr => ?_⟩
      have hx := one1_one h2 hr
      rw [cells_one hx]
      exact ⟨Reps.cons hr Reps.nil, by simpa using hx⟩
theorem setA_eq : ∀ (cs : List AV) (i : Nat) (vs : List AV), i + vs.length ≤ cs.length → setA cs i vs = cs.take i ++ vs ++ cs.drop (i + vs.length)
  | [], i, vs, h => by
    obtain ⟨rfl, rfl⟩ : i = 0 ∧ vs = [] := by simpa using h
    simp [setA]
  | c :: cs, 0, [], h => by simp [setA]
  | c :: cs, 0, v :: vs, h => by
    show v :: setA cs 0 vs = _
    rw [setA_eq cs 0 vs (by simp at h ⊢; omega)]
    simp
  | c :: cs, i + 1, vs, h => by
    show c :: setA cs i vs = _
    rw [setA_eq cs i vs (by simp at h; omega)]
    rw [show i + 1 + vs.length = (i + vs.length) + 1 by omega]
    simp
theorem storeA_says {P : Program} {L : List TD} (hT : TOk P L) (n : Nat) (σ : Store) (f : AEnv) (o : Oper) :
    (∀ {α : Type} (k : Store → Obs → α) (z : α), storeA L n σ f o.op k z = z) ∨ ∃ σ' ob, (∀ {α : Type} (k : Store → Obs → α) (z : α), storeA L n σ f o.op k z = k σ' ob) ∧
      ∀ (M : Nat → Prop) (w : World) (Su : Nat → Prop) (fc : Env), OT ob → EnvRep M w f fc → Holds M w σ Su → (∀ b, Su b → M b) →
        ∃ w1, (execOp (ev n fc) o).run P w = .ok .skip w1 ∧ Ev Su w w1 ∧ Holds M w1 σ' Su := by
  obtain ⟨dst, op, ty, pos, after, guard⟩ := o
  cases op <;> first | (left; intro α k z; rfl) | skip
  rename_i t x y
  simp only [storeA, evAK_eq]
  cases ha : evA n f x <;> first | (left; intro α k z; rfl) | skip
  rename_i a h
  cases a <;> first | (left; intro α k z; rfl) | skip
  rename_i a
  cases a with
  | none => left; intro α k z; rfl
  | some a =>
    obtain ⟨g, off, sp⟩ := a
    simp only
    rcases wcK_says (P := P) hT t (evA n f y) with hz | ⟨vs, hvs, hsz, hinf, hrep⟩
    · left; intro α k z; exact hz _ z
    cases hl : look σ h with
    | none => left; intro α k z; rw [hvs, lookK_eq, hl]
    | some c =>
      cases c <;> first | (left; intro α k z; rw [hvs, lookK_eq, hl]; done) | skip
      rename_i g' t' cs
      cases hle : Nat.ble (off + vs.length) cs.length
      · left; intro α k z; rw [hvs, lookK_eq, hl]; simp only [hle]
      · refine .inr ⟨upd σ h (.blk g' t' (setA cs off vs)), [(ptrV g sp, ptrV g' none)], fun k z => by rw [hvs, lookK_eq, hl]; simp only [hle, setK_eq, updK_eq], fun M w Su fc hob henv hu hM => ?_⟩
        have e := hob (ptrV g sp, ptrV g' none) (by simp)
        simp only [ptrV, Value.pointer.injEq, Option.some.injEq, Addr.mk.injEq] at e
        obtain ⟨rfl, _, rfl⟩ := e
        obtain ⟨S1, S2, hS, hd, hc, hrest⟩ := hu.take hl
        obtain ⟨hS1, xs, hb, hr, h1⟩ := hc
        obtain ⟨hry, h1y⟩ := hrep M w _ (henv.eval (n := n) y)
        have hle' := Nat.le_of_ble_eq_true hle
        have hlx := hr.len
        have hly := hry.len
        obtain ⟨r1, r2, r3⟩ := run_storeB (P := P) hb (off := off) (vs := (ev n fc y).cells.toList) (by omega) h1y
        have hx := henv.eval (n := n) x
        rw [ha] at hx
        have hw : MayW w ⟨g, off, none⟩ (ev n fc y).cells.toList.length := fun j hj => by
          rw [add_off, hb.cell (off + j) (List.getElem?_eq_getElem (by omega))]
          exact ⟨rfl, hb.free _⟩
        have hrun := exec_store (P := P) (n := n) (f := fc) (o := ⟨dst, .store t x y, ty, pos, after, guard⟩) hT rfl (rep_v hx) rfl (by rw [hsz]; omega) hinf h1y hw
        have hev : Ev Su w (setAll w ⟨g, off, none⟩ 0 (ev n fc y).cells.toList) := r3.mono fun b _ hb' => (hS b).2 (.inl ((hS1 b).2 hb'))
        refine ⟨_, hrun, hev, ?_⟩
        have hm : ∀ b, b < w.heap.size → at1 g b ∨ M b → M b := fun b _ hb' => hb'.elim (fun hb' => hM b ((hS b).2 (.inl ((hS1 b).2 hb')))) id
        have hnew : CRep M (setAll w ⟨g, off, none⟩ 0 (ev n fc y).cells.toList) (.blk g t' (setA cs off vs)) S1 := by
          refine ⟨hS1, _, r2, ?_, ?_⟩
          · rw [setA_eq cs off vs hle', ← hly]
            exact (((hr.take off).app hry).app (hr.drop _)).ev r3 hm
          · intro u hu'
            rw [List.mem_append, List.mem_append] at hu'
            rcases hu' with (hu' | hu') | hu'
            · exact h1 u (List.mem_of_mem_take hu')
            · exact h1y u hu'
            · exact h1 u (List.mem_of_mem_drop hu')
        refine (Holds.upd (S1 := S1) r3 hm hu hl hrest (fun b hb' hg => hd b ((hS1 b).2 hg) hb') hd hnew).iff hS
end Go.Proofs.YtjcolfogmmjaoaaGreatDoor.A
end

section
set_option linter.unusedVariables false
set_option linter.unusedSimpArgs false
namespace Go.Proofs.YtjcolfogmmjaoaaGreatDoor.A
open V
inductive Mode where
  | plain
  | reg (pre : Bool) (σp : Store) (ex : Ex)
  | last (ex : Ex)
  | rest
inductive AMS where
  | code (κ : List Kt) (c : Code)
  | ops (m : Mode) (κ : List Kt) (all : Array Oper) (dec : List Nat) (rest : List (Oper × Bool))
  | nrm (κ : List Kt)
inductive AOut where
  | st (s : AMS)
  | op (m : Mode) (κ : List Kt) (all : Array Oper) (dec : List Nat) (o : Oper) (al : Bool) (rest : List (Oper × Bool))
  | grd (m : Mode) (κ : List Kt) (all : Array Oper) (dec : List Nat) (d : Nat) (b : Bool) (o : Oper) (al : Bool) (rest : List (Oper × Bool))
  | br (κ : List Kt) (b : Bool) (x y : Code)
  | ret (κ : List Kt)
  | nrm (κ : List Kt)
  | loop (κ : List Kt) (c : Code)
  | draw (κ : List Kt) (id : Nat) (ops : Array Oper)
structure ARes where
  out : AOut
  f : AEnv
  σ : Store
  ob : Obs
def appK {α : Type} : Store → Store → (Store → α) → α
  | [], τ, k => k τ
  | p :: σ, τ, k => appK σ τ fun r => k (p :: r)
theorem appK_eq {α : Type} : ∀ (σ τ : Store) (k : Store → α), appK σ τ k = k (σ ++ τ)
  | [], τ, k => rfl
  | p :: σ, τ, k => by unfold appK; rw [appK_eq]; rfl
def obK {α : Type} : Obs → Obs → (Obs → α) → α
  | [], t, k => k t
  | p :: s, t, k => obK s t fun r => k (p :: r)
theorem obK_eq {α : Type} : ∀ (σ τ : Obs) (k : Obs → α), obK σ τ k = k (σ ++ τ)
  | [], τ, k => rfl
  | p :: σ, τ, k => by unfold obK; rw [obK_eq]; rfl
def rpOf (m : Mode) (al : Bool) : Bool := true
def rdOf (m : Mode) (al : Bool) : Bool := match m with | .plain => true | .last _ => true | .rest => al | .reg pre _ _ => match pre with | true => true | false => al
def rsOf (m : Mode) (al : Bool) : Bool := match m with | .plain => al | .last _ => true | .rest => al | .reg _ _ _ => al
def spOf (m : Mode) : Store := match m with | .reg _ σp _ => σp | _ => []
def Mode.hap : Mode → Bool → Mode
  | .reg _ σp ex, true => .reg false σp ex
  | m, _ => m
def opM (L : List TD) (n : Nat) (m : Mode) (dec : List Nat) (f : AEnv) (σ : Store) (ob : Obs) (o : Oper) (al : Bool) (k : Mode → AEnv → Store → Obs → ARes) (z : ARes) : ARes :=
  opA L n (rdOf m al) (rpOf m al) (rsOf m al) (spOf m) σ dec f o.op (fun b a σ' ob' => obK ob' ob fun ob => putAK f o.dst a fun f => k (m.hap b) f σ' ob) z
def machA (L : List TD) (n : Nat) : Nat → AMS → AEnv → Store → Obs → ARes
  | 0, s, f, σ, ob => ⟨.st s, f, σ, ob⟩
  | q + 1, .nrm κ, f, σ, ob => match κ with
    | [] => ⟨.nrm [], f, σ, ob⟩
    | .seq c :: κ => machA L n q (.code κ c) f σ ob
    | .blk _ :: κ => machA L n q (.nrm κ) f σ ob
    | .inv R :: κ => ⟨.nrm (.inv R :: κ), f, σ, ob⟩
  | q + 1, .code κ c, f, σ, ob => match c with
    | .skip => machA L n q (.nrm κ) f σ ob
    | .seq a b => machA L n q (.code (.seq b :: κ) a) f σ ob
    | .block id c => machA L n q (.code (.blk id :: κ) c) f σ ob
    | .cond x a b => evNK n f x fun v => match v with | .v (.bool t) _ => ⟨.br κ t a b, f, σ, ob⟩ | _ => ⟨.st (.code κ (.cond x a b)), f, σ, ob⟩
    | .region id ops draw => match draw with
      | false => machA L n q (.ops .plain κ ops [] (ops.toList.map fun o => (o, true))) f σ ob
      | true => ⟨.draw κ id ops, f, σ, ob⟩
    | .exit id => unwK κ id (fun κ' => machA L n q (.nrm κ') f σ ob) ⟨.st (.code κ (.exit id)), f, σ, ob⟩
    | .ret => ⟨.ret κ, f, σ, ob⟩
    | .loop c => ⟨.loop κ c, f, σ, ob⟩
    | c => ⟨.st (.code κ c), f, σ, ob⟩
  | q + 1, .ops m κ all dec rest, f, σ, ob => match rest with
    | [] => match m with
      | .plain => machA L n q (.nrm κ) f σ ob
      | .rest => machA L n q (.nrm κ) f σ ob
      | .last ex => match ex.at_ with
        | none => machA L n q (.nrm κ) f σ ob
        | some t => ⟨.st (.ops (.last ⟨ex.b, some t⟩) κ all dec []), f, σ, ob⟩
      | .reg pre σp ex => match ex.at_ with
        | none => appK σp σ fun σ => machA L n q (.nrm κ) f σ ob
        | some t => ⟨.st (.ops (.reg pre σp ⟨ex.b, some t⟩) κ all dec []), f, σ, ob⟩
    | (o, al) :: rest => match (match m, al, rest with | .reg _ σp ex, true, [] => (match ex.b with | true => some (σp, ex) | false => none) | _, _, _ => none) with
      | some (σp, ex) => appK σp σ fun σ => machA L n q (.ops (.last ex) κ all dec [(o, true)]) f σ ob
      | none => match o.guard with
        | none => opM L n m dec f σ ob o al (fun m f σ ob => machA L n q (.ops m κ all dec rest) f σ ob) ⟨.op m κ all dec o al rest, f, σ, ob⟩
        | some (j, want) => nthK all.toList j (fun g => match g.dst with
            | none => ⟨.st (.ops m κ all dec ((o, al) :: rest)), f, σ, ob⟩
            | some d => evAK n f (.tmp d) fun v => match memK dec d, v with
              | true, .v (.bool b) _ => (match b, want with
                | true, true | false, false => opM L n m dec f σ ob o al (fun m f σ ob => machA L n q (.ops m κ all dec rest) f σ ob) ⟨.op m κ all dec o al rest, f, σ, ob⟩
                | true, false | false, true => (match o.dst with | some e => machA L n q (.ops m κ all (e :: dec) rest) ((e, .v undef 0) :: f) σ ob | none => machA L n q (.ops m κ all dec rest) f σ ob))
              | false, .v (.bool b) _ => ⟨.grd m κ all dec d b o al rest, f, σ, ob⟩
              | _, .v (.tuple _) _ => (match o.dst with | some e => machA L n q (.ops m κ all (e :: dec) rest) ((e, .v undef 0) :: f) σ ob | none => machA L n q (.ops m κ all dec rest) f σ ob)
              | _, _ => ⟨.st (.ops m κ all dec ((o, al) :: rest)), f, σ, ob⟩) ⟨.st (.ops m κ all dec ((o, al) :: rest)), f, σ, ob⟩
structure Ctx where
  X : Nat → Prop
  S : Nat → Prop
  w : World
  dis : ∀ b, S b → ¬ X b
  old : ∀ b, X b → b < w.heap.size
structure Sat (c : Ctx) (w : World) (S : Nat → Prop) (f : AEnv) (fc : Env) : Prop where
  env : EnvRep (or2 S c.X) w f fc
  ev : Ev c.S c.w w
  sub : ∀ b, S b → c.S b ∨ c.w.heap.size ≤ b
def SgOf (ws : World) (U : Nat → Prop) : World → Prop := fun w' => ∀ b, b < ws.heap.size → ¬ U b → w'.heap[b]? = ws.heap[b]?
structure RSat (M : Nat → Prop) (S : Nat → Prop) (w : World) (pre : Bool) (σp σ : Store) (Sg : World → Prop) (ws : World) (U Sp Su : Nat → Prop) : Prop where
  sg : Sg = SgOf ws U
  now : Sg w
  size : ws.heap.size ≤ w.heap.size
  hp : Holds M w σp Sp
  hu : Holds M w σ Su
  all : ∀ b, S b ↔ Sp b ∨ Su b
  dis : ∀ b, Sp b → ¬ Su b
  un : ∀ b, Su b → U b ∨ ws.heap.size ≤ b
  kept : ∀ b, Sp b → ¬ U b ∧ b < ws.heap.size
  first : pre = true → w = ws ∧ ∀ b, U b → Su b
def HoldsM (m : Mode) (M S : Nat → Prop) (w : World) (σ : Store) (Sg : World → Prop) : Prop := match m with
  | .plain => Holds M w σ S
  | .last _ => Holds M w σ S
  | .rest => Holds M w σ S
  | .reg pre σp _ => ∃ ws U Sp Su, RSat M S w pre σp σ Sg ws U Sp Su
def conM (Sg : World → Prop) : Mode → Dr
  | .plain => none
  | .reg _ _ ex => some (Sg, ex)
  | .last ex => some (Sg, ex)
  | .rest => some (fun _ => True, ⟨false, none⟩)
def conS (Sg : World → Prop) : AMS → MS
  | .code κ c => .code κ c
  | .ops m κ all dec rest => .ops (conM Sg m) κ all dec rest
  | .nrm κ => .nrm κ
def conO (Sg : World → Prop) (fc : Env) : AOut → Out
  | .st s => .st (conS Sg s) fc
  | .op m κ all dec o al rest => .op (conM Sg m) κ all dec o al rest fc
  | .grd m κ all dec d b o al rest => .grd (conM Sg m) κ all dec d b o al rest fc
  | .br κ b x y => .br κ b x y fc
  | .ret κ => .ret κ fc
  | .nrm κ => .nrm κ fc
  | .loop κ c => .loop κ c fc
  | .draw κ id ops => .draw κ id ops fc
def AMS.mode : AMS → Mode
  | .ops m _ _ _ _ => m
  | _ => .plain
def AOut.mode : AOut → Mode
  | .st s => s.mode
  | .op m _ _ _ _ _ _ => m
  | .grd m _ _ _ _ _ _ _ _ => m
  | _ => .plain
def AMS.ok : AMS → Prop
  | .ops (.last ex) _ _ _ rest => ex.b = true ∧ ((∃ o, rest = [(o, true)]) ∨ rest = [])
  | _ => True
def AOut.ok : AOut → Prop
  | .st s => s.ok
  | .op (.last ex) _ _ _ _ al rest => ex.b = true ∧ al = true ∧ rest = []
  | .grd (.last ex) _ _ _ _ _ _ al rest => ex.b = true ∧ al = true ∧ rest = []
  | _ => True
def DenS0A (c : Ctx) (P : Program) (n : Nat) (Q : Exit → Act → World → Prop) (s : AMS) (f : AEnv) (σ : Store) : Prop :=
  s.ok → ∀ w S fc Sg, Sat c w S f fc → HoldsM s.mode (or2 S c.X) S w σ Sg → DenS0 P n Q (conS Sg s) fc w
def DenOA (c : Ctx) (P : Program) (n : Nat) (Q : Exit → Act → World → Prop) (r : ARes) : Prop :=
  r.out.ok → ∀ w S fc Sg, Sat c w S r.f fc → HoldsM r.out.mode (or2 S c.X) S w r.σ Sg → Den P n Q (conO Sg fc r.out) w
structure DenA (c : Ctx) (P : Program) (n : Nat) (Q : Exit → Act → World → Prop) (s : AMS) (f : AEnv) (σ : Store) : Prop where
  out : DenS0A c P n Q s f σ
theorem opA_says {P : Program} {L : List TD} (hT : TOk P L) (n : Nat) (rd rp rs : Bool) (σp σ : Store) (dec : List Nat) (f : AEnv) (o : Oper) :
    (∀ {α : Type} (k : Bool → AV → Store → Obs → α) (z : α), opA L n rd rp rs σp σ dec f o.op k z = z) ∨
    (∃ a ob, (∀ {α : Type} (k : Bool → AV → Store → Obs → α) (z : α), opA L n rd rp rs σp σ dec f o.op k z = k false a σ ob) ∧
      ∀ (M : Nat → Prop) (w : World) (Sp Su : Nat → Prop) (fc : Env) (W : World → Prop), OT ob → EnvRep M w f fc → Holds M w σp Sp → Holds M w σ Su → (rs = true → Stays w W Su) → (rp = true → Stays w W Sp) → (rd = true → Stays w W (fun b => b < w.heap.size ∧ ¬ M b)) →
        ∃ v, (∀ w', W w' → (execOp (ev n fc) o).run P w' = .ok (.value v) w') ∧ Rep M w a v) ∨
    (rs = true ∧ ∃ σ' ob, (∀ {α : Type} (k : Bool → AV → Store → Obs → α) (z : α), opA L n rd rp rs σp σ dec f o.op k z = k true (.v undef 0) σ' ob) ∧
      ∀ (M : Nat → Prop) (w : World) (Su : Nat → Prop) (fc : Env), OT ob → EnvRep M w f fc → Holds M w σ Su → (∀ b, Su b → M b) →
        ∃ w1, (execOp (ev n fc) o).run P w = .ok .skip w1 ∧ Ev Su w w1 ∧ Holds M w1 σ' Su) := by
  rcases pureA_says (P := P) (L := L) hT n dec f o with hp | ⟨a, hp, hs⟩
  · have hp : ∀ {α : Type} (k : AV → α) (z : α), pureA L n dec f o.op k z = z := hp
    rcases readA_says (P := P) (L := L) hT n rd rp rs σp σ f o with hr | ⟨a, ob, hr, hs⟩
    · cases rs
      · left; intro α k z; unfold opA; rw [hp, hr]
      · rcases storeA_says (P := P) (L := L) hT n σ f o with hst | ⟨σ', ob, hst, hs⟩
        · left; intro α k z; unfold opA; rw [hp, hr]; exact hst _ z
        · exact .inr (.inr ⟨rfl, σ', ob, fun k z => by unfold opA; rw [hp, hr]; exact hst _ z, hs⟩)
    · exact .inr (.inl ⟨a, ob, fun k z => by unfold opA; rw [hp, hr], hs⟩)
  · have hp : ∀ {α : Type} (k : AV → α) (z : α), pureA L n dec f o.op k z = k a := hp
    exact .inr (.inl ⟨a, [], fun k z => by unfold opA; rw [hp], fun M w Sp Su fc W _ henv _ _ _ _ _ => let ⟨v, hv, hr⟩ := hs M w fc henv; ⟨v, fun w' _ => hv w', hr⟩⟩)
theorem HoldsM.parts {m : Mode} {M S : Nat → Prop} {w : World} {σ : Store} {Sg : World → Prop} (h : HoldsM m M S w σ Sg) : ∃ Sp Su, Holds M w (spOf m) Sp ∧ Holds M w σ Su ∧ (∀ b, S b ↔ Sp b ∨ Su b) ∧ ∀ b, Sp b → ¬ Su b := by
  cases m with
  | plain => exact ⟨no, S, fun _ h => h, h, fun b => ⟨.inr, fun h => h.elim (fun h => h.elim) id⟩, fun _ h => h.elim⟩
  | rest => exact ⟨no, S, fun _ h => h, h, fun b => ⟨.inr, fun h => h.elim (fun h => h.elim) id⟩, fun _ h => h.elim⟩
  | last ex => exact ⟨no, S, fun _ h => h, h, fun b => ⟨.inr, fun h => h.elim (fun h => h.elim) id⟩, fun _ h => h.elim⟩
  | reg pre σp ex => obtain ⟨ws, U, Sp, Su, h⟩ := h; exact ⟨Sp, Su, h.hp, h.hu, h.all, h.dis⟩
theorem stepM {P : Program} {L : List TD} (hT : TOk P L) {c : Ctx} {n : Nat} {Q : Exit → Act → World → Prop} {m : Mode} {κ : List Kt} {all : Array Oper} {dec : List Nat} {o : Oper} {al : Bool} {rest : List (Oper × Bool)} {f : AEnv} {σ : Store} {ob : Obs} {k : Mode → AEnv → Store → Obs → ARes} {z : ARes}
    (hlast : ∀ ex, m = .last ex → ex.b = true ∧ al = true ∧ rest = [])
    (hob : OT (opM L n m dec f σ ob o al k z).ob) (hkob : ∀ m f σ ob, OT (k m f σ ob).ob → OT ob) (hk : ∀ m f σ ob, OT (k m f σ ob).ob → DenOA c P n Q (k m f σ ob) → DenS0A c P n Q (.ops m κ all dec rest) f σ) (hz : z = ⟨.op m κ all dec o al rest, f, σ, ob⟩)
    (hd : DenOA c P n Q (opM L n m dec f σ ob o al k z)) :
    ∀ w S fc Sg, Sat c w S f fc → HoldsM m (or2 S c.X) S w σ Sg → Step P (conM Sg m) (post P Q κ) o al rest.isEmpty (OR P (conM Sg m) all (post P Q κ) rest) (act n fc) w := by
  have haa : ∀ fc, (act n fc).eval = ev n fc := fun fc => funext (act_eval n fc)
  have hfin : ∀ ex, m = .last ex → (ex.b && rest.isEmpty) = true := fun ex e => by obtain ⟨h1, _, h3⟩ := hlast ex e; rw [h1, h3]; rfl
  rcases opA_says (P := P) (L := L) hT n (rdOf m al) (rpOf m al) (rsOf m al) (spOf m) σ dec f o with h | ⟨a, ob', h, hs⟩ | ⟨hrs, σ', ob', h, hs⟩
  · have e : opM L n m dec f σ ob o al k z = z := h _ _
    rw [e] at hob hd
    subst hz
    intro w S fc Sg hsat hh
    exact hd (by cases m <;> first | trivial | exact hlast _ rfl) w S fc Sg hsat hh
  · have e : opM L n m dec f σ ob o al k z = k m (putA f o.dst a) σ (ob' ++ ob) := by
      unfold opM
      rw [h, obK_eq, putAK_eq]
      cases m <;> rfl
    rw [e] at hob hd
    have hot := hkob m (putA f o.dst a) σ (ob' ++ ob) hob
    have hden := hk m (putA f o.dst a) σ (ob' ++ ob) hob hd
    intro w S fc Sg hsat hh
    have hob' : OT ob' := fun p hp => hot p (List.mem_append_left _ hp)
    have next : ∀ v, Rep (or2 S c.X) w a v → OR P (conM Sg m) all (post P Q κ) rest (act n (put fc o.dst v)) w := fun v hv => by
      refine hden ?_ w S (put fc o.dst v) Sg ⟨hsat.env.put o.dst hv, hsat.ev, hsat.sub⟩ hh
      cases m with
      | last ex => obtain ⟨h1, h2, h3⟩ := hlast ex rfl; exact ⟨h1, .inr h3⟩
      | _ => trivial
    obtain ⟨Sp, Su, hp, hu, hall, hdis⟩ := hh.parts
    cases m with
    | plain =>
      obtain ⟨v, hv, hr⟩ := hs (or2 S c.X) w Sp Su fc (fun w' => w' = w) hob' hsat.env hp hu (fun _ w' e b _ => by rw [e]) (fun _ w' e b _ => by rw [e]) (fun _ w' e b _ => by rw [e])
      exact .inl ⟨v, fun w' e => by rw [haa]; exact hv w' e, by rw [act_put]; exact next v hr⟩
    | rest =>
      cases al
      · obtain ⟨v, hv, hr⟩ := hs (or2 S c.X) w no S fc (fun _ => True) hob' hsat.env (fun _ h => h) hh (fun h => by cases h) (fun _ w' _ b hb => hb.elim) (fun h => by cases h)
        exact .inl ⟨v, fun w' _ => by rw [haa]; exact hv w' trivial, by rw [act_put]; exact next v hr⟩
      · obtain ⟨v, hv, hr⟩ := hs (or2 S c.X) w Sp Su fc (fun w' => w' = w) hob' hsat.env hp hu (fun _ w' e b _ => by rw [e]) (fun _ w' e b _ => by rw [e]) (fun _ w' e b _ => by rw [e])
        refine .inr ⟨rfl, .inl ?_⟩
        unfold Oper.wp
        rw [haa, hv w rfl]
        exact ⟨.inr trivial, by rw [act_put]; exact next v hr⟩
    | last ex =>
      obtain ⟨v, hv, hr⟩ := hs (or2 S c.X) w Sp Su fc (fun w' => w' = w) hob' hsat.env hp hu (fun _ w' e b _ => by rw [e]) (fun _ w' e b _ => by rw [e]) (fun _ w' e b _ => by rw [e])
      refine .inr ⟨(hlast ex rfl).2.1, .inl ?_⟩
      unfold Oper.wp
      rw [haa, hv w rfl]
      exact ⟨.inl (hfin ex rfl), by rw [act_put]; exact next v hr⟩
    | reg pre σp ex =>
      obtain ⟨ws, U, Sp, Su, hh⟩ := hh
      cases al
      · obtain ⟨v, hv, hr⟩ := hs (or2 S c.X) w Sp Su fc (fun w' => Sg w') hob' hsat.env hh.hp hh.hu (fun h => by cases h) (fun _ w' hw b hb => by
          have hsg := hh.sg
          have hnow := hh.now
          rw [hsg] at hw hnow
          rw [hw b (hh.kept b hb).2 (hh.kept b hb).1, hnow b (hh.kept b hb).2 (hh.kept b hb).1]) (fun h => by
          cases pre
          · cases h
          · obtain ⟨rfl, hU⟩ := hh.first rfl
            have hsg := hh.sg
            refine fun w' hw b hb => ?_
            rw [hsg] at hw; exact hw b hb.1 fun hu => hb.2 (.inl ((hh.all b).2 (.inr (hU b hu)))))
        exact .inl ⟨v, fun w' e => by rw [haa]; exact hv w' e, by rw [act_put]; exact next v hr⟩
      · obtain ⟨v, hv, hr⟩ := hs (or2 S c.X) w Sp Su fc (fun w' => w' = w) hob' hsat.env hh.hp hh.hu (fun _ w' e b _ => by rw [e]) (fun _ w' e b _ => by rw [e]) (fun _ w' e b _ => by rw [e])
        refine .inr ⟨rfl, .inl ?_⟩
        unfold Oper.wp
        rw [haa, hv w rfl]
        exact ⟨.inr hh.now, by rw [act_put]; exact next v hr⟩
  · have e : opM L n m dec f σ ob o al k z = k (m.hap true) (putA f o.dst (.v undef 0)) σ' (ob' ++ ob) := by
      unfold opM
      rw [h, obK_eq, putAK_eq]
    rw [e] at hob hd
    have hot := hkob (m.hap true) (putA f o.dst (.v undef 0)) σ' (ob' ++ ob) hob
    have hden := hk (m.hap true) (putA f o.dst (.v undef 0)) σ' (ob' ++ ob) hob hd
    intro w S fc Sg hsat hh
    have hob' : OT ob' := fun p hp => hot p (List.mem_append_left _ hp)
    have hcon : conM Sg (m.hap true) = conM Sg m := by cases m <;> rfl
    have hok : (AMS.ops (m.hap true) κ all dec rest).ok := by
      cases m with
      | last ex => obtain ⟨h1, h2, h3⟩ := hlast ex rfl; exact ⟨h1, .inr h3⟩
      | _ => trivial
    have go : ∀ Sp Su w1, Holds (or2 S c.X) w (spOf m) Sp → (∀ b, S b ↔ Sp b ∨ Su b) → (∀ b, Sp b → ¬ Su b) → Ev Su w w1 → Sat c w1 S (putA f o.dst (.v undef 0)) (put fc o.dst undef) := by
      intro Sp Su w1 hp hall hdis hev
      have hm : ∀ b, b < w.heap.size → Su b ∨ or2 S c.X b → or2 S c.X b := fun b _ h => h.elim (fun h => .inl ((hall b).2 (.inr h))) id
      refine ⟨EnvRep.put (hsat.env.pass hev hm) o.dst mk_v, hsat.ev.then hev fun b hb h => ?_, hsat.sub⟩
      rcases hsat.sub b ((hall b).2 (.inr h)) with h | h
      · exact h
      · omega
    have fin : ∀ w1, (execOp (ev n fc) o).run P w = .ok .skip w1 → Keep (conM Sg m) rest.isEmpty w1 → al = true → Sat c w1 S (putA f o.dst (.v undef 0)) (put fc o.dst undef) → HoldsM (m.hap true) (or2 S c.X) S w1 σ' Sg → Step P (conM Sg m) (post P Q κ) o al rest.isEmpty (OR P (conM Sg m) all (post P Q κ) rest) (act n fc) w := by
      intro w1 hrun hkeep hal hsat1 hh1
      subst hal
      refine .inr ⟨rfl, .inl ?_⟩
      unfold Oper.wp
      rw [haa, hrun]
      refine ⟨hkeep, ?_⟩
      rw [act_put]
      have := hden hok w1 S (put fc o.dst undef) Sg hsat1 hh1
      show OR P (conM Sg m) all (post P Q κ) rest (act n (put fc o.dst undef)) w1
      rw [← hcon]
      exact this
    cases m with
    | plain =>
      obtain ⟨w1, hrun, hev, hh1⟩ := hs (or2 S c.X) w S fc hob' hsat.env hh (fun b h => .inl h)
      have hsat1 := go no S w1 (fun _ h => h) (fun b => ⟨.inr, fun h => h.elim (fun h => h.elim) id⟩) (fun _ h => h.elim) hev
      exact fin w1 hrun trivial hrs hsat1 hh1
    | rest =>
      obtain ⟨w1, hrun, hev, hh1⟩ := hs (or2 S c.X) w S fc hob' hsat.env hh (fun b h => .inl h)
      exact fin w1 hrun (.inr trivial) hrs (go no S w1 (fun _ h => h) (fun b => ⟨.inr, fun h => h.elim (fun h => h.elim) id⟩) (fun _ h => h.elim) hev) hh1
    | last ex =>
      obtain ⟨w1, hrun, hev, hh1⟩ := hs (or2 S c.X) w S fc hob' hsat.env hh (fun b h => .inl h)
      exact fin w1 hrun (.inl (hfin ex rfl)) (hlast ex rfl).2.1 (go no S w1 (fun _ h => h) (fun b => ⟨.inr, fun h => h.elim (fun h => h.elim) id⟩) (fun _ h => h.elim) hev) hh1
    | reg pre σp ex =>
      obtain ⟨ws, U, Sp, Su, hh⟩ := hh
      obtain ⟨w1, hrun, hev, hh1⟩ := hs (or2 S c.X) w Su fc hob' hsat.env hh.hu (fun b h => .inl ((hh.all b).2 (.inr h)))
      have hm : ∀ b, b < w.heap.size → Su b ∨ or2 S c.X b → or2 S c.X b := fun b _ h => h.elim (fun h => .inl ((hh.all b).2 (.inr h))) id
      have hsg1 : Sg w1 := by
        have hnow := hh.now
        rw [hh.sg] at hnow ⊢
        intro b hb hU
        rw [← hnow b hb hU]
        exact hev.block b (Nat.lt_of_lt_of_le hb hh.size) fun h => by
          rcases hh.un b h with h | h
          · exact hU h
          · omega
      exact fin w1 hrun (.inr hsg1) hrs (go Sp Su w1 hh.hp hh.all hh.dis hev)
        ⟨ws, U, Sp, Su, hh.sg, hsg1, Nat.le_trans hh.size hev.size, hh.hp.ev hev hm (fun b hb h => hh.dis b hb h), hh1, hh.all, hh.dis, hh.un, hh.kept, fun h => by cases h⟩
theorem HoldsM.plain {m : Mode} {M S : Nat → Prop} {w : World} {σ : Store} {Sg : World → Prop} (h : HoldsM m M S w σ Sg) : Holds M w (spOf m ++ σ) S := by
  obtain ⟨Sp, Su, hp, hu, hall, hdis⟩ := h.parts
  exact hp.append hu hdis hall
theorem opM_cases {P : Program} {L : List TD} (hT : TOk P L) {n : Nat} {m : Mode} {dec : List Nat} {o : Oper} {al : Bool} {f : AEnv} {σ : Store} {ob : Obs} {k : Mode → AEnv → Store → Obs → ARes} {z : ARes} :
    opM L n m dec f σ ob o al k z = z ∨ ∃ m' f' σ' ob', opM L n m dec f σ ob o al k z = k m' f' σ' (ob' ++ ob) := by
  rcases opA_says (P := P) (L := L) hT n (rdOf m al) (rpOf m al) (rsOf m al) (spOf m) σ dec f o with h | ⟨a, ob', h, _⟩ | ⟨_, σ', ob', h, _⟩
  · exact .inl (h _ _)
  · right
    refine ⟨m.hap false, putA f o.dst a, σ, ob', ?_⟩
    unfold opM
    rw [h, obK_eq, putAK_eq]
  · right
    refine ⟨m.hap true, putA f o.dst (.v undef 0), σ', ob', ?_⟩
    unfold opM
    rw [h, obK_eq, putAK_eq]
def lastOf (m : Mode) (al : Bool) (rest : List (Oper × Bool)) : Option (Store × Ex) := match m, al, rest with | .reg _ σp ex, true, [] => (match ex.b with | true => some (σp, ex) | false => none) | _, _, _ => none
theorem lastOf_some {m : Mode} {al : Bool} {rest : List (Oper × Bool)} {σp : Store} {ex : Ex} (he : lastOf m al rest = some (σp, ex)) : (∃ pre, m = .reg pre σp ex) ∧ al = true ∧ rest = [] ∧ ex.b = true := by
  unfold lastOf at he
  cases m with
  | reg pre σp' ex' =>
    cases al <;> cases rest <;> try (simp at he)
    cases hb : ex'.b
    · rw [hb] at he; simp at he
    · rw [hb] at he
      simp at he
      obtain ⟨rfl, rfl⟩ := he
      exact ⟨⟨pre, rfl⟩, rfl, rfl, hb⟩
  | _ => simp at he
theorem mach_ops {L : List TD} {n q : Nat} {m : Mode} {κ : List Kt} {all : Array Oper} {dec : List Nat} {o : Oper} {al : Bool} {rest : List (Oper × Bool)} {f : AEnv} {σ : Store} {ob : Obs} :
    machA L n (q + 1) (.ops m κ all dec ((o, al) :: rest)) f σ ob = match lastOf m al rest with
      | some (σp, ex) => machA L n q (.ops (.last ex) κ all dec [(o, true)]) f (σp ++ σ) ob
      | none => match o.guard with
        | none => opM L n m dec f σ ob o al (fun m f σ ob => machA L n q (.ops m κ all dec rest) f σ ob) ⟨.op m κ all dec o al rest, f, σ, ob⟩
        | some (j, want) => match all.toList[j]? with
          | none => ⟨.st (.ops m κ all dec ((o, al) :: rest)), f, σ, ob⟩
          | some g => match g.dst with
            | none => ⟨.st (.ops m κ all dec ((o, al) :: rest)), f, σ, ob⟩
            | some d => match memK dec d, evA n f (.tmp d) with
              | true, .v (.bool b) _ => (match b, want with
                | true, true | false, false => opM L n m dec f σ ob o al (fun m f σ ob => machA L n q (.ops m κ all dec rest) f σ ob) ⟨.op m κ all dec o al rest, f, σ, ob⟩
                | true, false | false, true => (match o.dst with | some e => machA L n q (.ops m κ all (e :: dec) rest) ((e, .v undef 0) :: f) σ ob | none => machA L n q (.ops m κ all dec rest) f σ ob))
              | false, .v (.bool b) _ => ⟨.grd m κ all dec d b o al rest, f, σ, ob⟩
              | _, .v (.tuple _) _ => (match o.dst with | some e => machA L n q (.ops m κ all (e :: dec) rest) ((e, .v undef 0) :: f) σ ob | none => machA L n q (.ops m κ all dec rest) f σ ob)
              | _, _ => ⟨.st (.ops m κ all dec ((o, al) :: rest)), f, σ, ob⟩ := by
  show (match lastOf m al rest with | some (σp, ex) => appK σp σ fun σ => machA L n q (.ops (.last ex) κ all dec [(o, true)]) f σ ob | none => _) = _
  cases lastOf m al rest with
  | some p => obtain ⟨σp, ex⟩ := p; simp only [appK_eq]
  | none =>
    simp only
    cases o.guard with
    | none => rfl
    | some jw =>
      obtain ⟨j, want⟩ := jw
      simp only
      rcases nthA_cases all.toList j with ⟨g, hj, hk⟩ | hk
      · rw [hk, hj]
        simp only
        cases g.dst with
        | none => rfl
        | some d =>
          simp only [evAK_eq]
      · rw [hk]
        cases hj : all.toList[j]? with
        | none => rfl
        | some g =>
          exfalso
          have : ∀ (l : List Oper) (i : Nat), l[i]? = some g → nthK l i (fun _ => 1) 0 = 1 := by
            intro l
            induction l with
            | nil => intro i h; simp at h
            | cons b l ih => intro i h; cases i with
              | zero => rfl
              | succ i => simp [nthK]; exact ih i (by simpa using h)
          have h1 := hk (α := Nat) (fun _ => 1) 0
          rw [this _ _ hj] at h1
          cases h1
theorem mach_ob {P : Program} {L : List TD} (hT : TOk P L) {n : Nat} : ∀ (q : Nat) (s : AMS) (f : AEnv) (σ : Store) (ob : Obs), OT (machA L n q s f σ ob).ob → OT ob
  | 0, s, f, σ, ob, h => h
  | q + 1, .nrm κ, f, σ, ob, h => by
    cases κ with
    | nil => exact h
    | cons k κ => cases k <;> first | exact mach_ob hT q _ _ _ _ h | exact h
  | q + 1, .code κ c, f, σ, ob, h => by
    cases c with
    | cond x a b =>
      simp only [machA, evNK_eq] at h
      cases hv : evN n f x with
      | v t hh => rw [hv] at h; cases t <;> exact h
      | _ => rw [hv] at h; exact h
    | region id ops draw => cases draw <;> first | exact h | exact mach_ob hT q _ _ _ _ h
    | exit id =>
      simp only [machA] at h
      rcases post_skip_to (P := P) (Q := fun _ _ _ => True) (id := id) κ with ⟨κ', h1, _⟩ | h1
      · rw [h1] at h; exact mach_ob hT q _ _ _ _ h
      · rw [h1] at h; exact h
    | skip => exact mach_ob hT q _ _ _ _ h
    | seq a b => exact mach_ob hT q _ _ _ _ h
    | block id c => exact mach_ob hT q _ _ _ _ h
    | _ => exact h
  | q + 1, .ops m κ all dec rest, f, σ, ob, h => by
    cases rest with
    | nil =>
      cases m with
      | plain => exact mach_ob hT q _ _ _ _ h
      | rest => exact mach_ob hT q _ _ _ _ h
      | last ex => obtain ⟨eb, at_⟩ := ex; cases at_ <;> first | exact h | exact mach_ob hT q _ _ _ _ h
      | reg pre σp ex =>
        obtain ⟨eb, at_⟩ := ex
        cases at_
        · simp only [machA, appK_eq] at h; exact mach_ob hT q _ _ _ _ h
        · exact h
    | cons x rest =>
      obtain ⟨o, al⟩ := x
      rw [mach_ops] at h
      have hop : OT (opM L n m dec f σ ob o al (fun m f σ ob => machA L n q (.ops m κ all dec rest) f σ ob) ⟨.op m κ all dec o al rest, f, σ, ob⟩).ob → OT ob := fun h => by
        rcases opM_cases (P := P) (L := L) hT (n := n) (m := m) (dec := dec) (o := o) (al := al) (f := f) (σ := σ) (ob := ob) (k := fun m f σ ob => machA L n q (.ops m κ all dec rest) f σ ob) (z := ⟨.op m κ all dec o al rest, f, σ, ob⟩) with e | ⟨m', f', σ', ob', e⟩
        · rw [e] at h; exact h
        · rw [e] at h
          have := mach_ob hT q _ _ _ _ h
          exact fun p hp => this p (List.mem_append_right _ hp)
      have skip : OT (match o.dst with | some e => machA L n q (.ops m κ all (e :: dec) rest) ((e, .v undef 0) :: f) σ ob | none => machA L n q (.ops m κ all dec rest) f σ ob).ob → OT ob := fun h => by
        cases hd : o.dst with
        | none => rw [hd] at h; exact mach_ob hT q _ _ _ _ h
        | some e => rw [hd] at h; exact mach_ob hT q _ _ _ _ h
      split at h
      · exact mach_ob hT q _ _ _ _ h
      · split at h
        · exact hop h
        · split at h
          · exact h
          · split at h
            · exact h
            · split at h
              · split at h <;> first | exact hop h | exact skip h
              · exact h
              · exact skip h
              · exact h
theorem machA_sound {P : Program} {L : List TD} (hT : TOk P L) {c : Ctx} {n : Nat} {Q : Exit → Act → World → Prop} : ∀ (q : Nat) (s : AMS) (f : AEnv) (σ : Store) (ob : Obs), OT (machA L n q s f σ ob).ob → DenOA c P n Q (machA L n q s f σ ob) → DenS0A c P n Q s f σ
  | 0, s, f, σ, ob, hob, h => h
  | q + 1, .nrm κ, f, σ, ob, hob, h => by
    cases κ with
    | nil => exact h
    | cons k κ =>
      cases k with
      | seq c' => exact machA_sound hT q (.code κ c') f σ ob hob h
      | blk id => exact machA_sound hT q (.nrm κ) f σ ob hob h
      | inv R => exact h
  | q + 1, .code κ c', f, σ, ob, hob, h => by
    cases c' with
    | skip =>
      have := machA_sound hT q (.nrm κ) f σ ob hob h
      exact fun _ w S fc Sg a b => wp_skip (this trivial w S fc Sg a b)
    | seq a b =>
      have := machA_sound hT q (.code (.seq b :: κ) a) f σ ob hob h
      exact fun _ w S fc Sg a b => wp_seq (this trivial w S fc Sg a b)
    | block id c' =>
      have := machA_sound hT q (.code (.blk id :: κ) c') f σ ob hob h
      exact fun _ w S fc Sg a b => wp_block (this trivial w S fc Sg a b)
    | cond x a b =>
      simp only [machA, evNK_eq] at hob h
      cases hv : evN n f x with
      | v t hh =>
        cases t with
        | bool t =>
          rw [hv] at h
          refine fun _ w S fc Sg hs hh => ?_
          have hx := hs.env.evalN (n := n) x
          rw [hv] at hx
          exact wp_cond (t := t) (by rw [act_eval, rep_v hx]) (h trivial w S fc Sg hs hh)
        | _ => rw [hv] at h; exact h
      | _ => rw [hv] at h; exact h
    | region id ops draw =>
      cases draw
      · have := machA_sound hT q (.ops .plain κ ops [] (ops.toList.map fun o => (o, true))) f σ ob hob h
        exact fun _ w S fc Sg a b => wp_region_OR (this trivial w S fc Sg a b)
      · exact h
    | exit id =>
      simp only [machA] at hob h
      rcases post_skip_to (P := P) (Q := Q) (id := id) κ with ⟨κ', h1, h2⟩ | h1
      · rw [h1] at hob h
        have := machA_sound hT q (.nrm κ') f σ ob hob h
        exact fun _ w S fc Sg a b => wp_exit (h2 _ _ (this trivial w S fc Sg a b))
      · rw [h1] at h
        exact h
    | ret => exact fun _ w S fc Sg a b => wp_ret (h trivial w S fc Sg a b)
    | loop c' => exact h
    | _ => exact h
  | q + 1, .ops m κ all dec rest, f, σ, ob, hob, h => by
    cases rest with
    | nil =>
      cases m with
      | plain =>
        have := machA_sound hT q (.nrm κ) f σ ob hob h
        exact fun _ w S fc Sg a b => this trivial w S fc Sg a b
      | rest =>
        have := machA_sound hT q (.nrm κ) f σ ob hob h
        exact fun _ w S fc Sg a b => this trivial w S fc Sg a b
      | last ex =>
        obtain ⟨eb, at_⟩ := ex
        cases at_ with
        | none =>
          have := machA_sound hT q (.nrm κ) f σ ob hob h
          exact fun _ w S fc Sg a b => this trivial w S fc Sg a b
        | some t => exact h
      | reg pre σp ex =>
        obtain ⟨eb, at_⟩ := ex
        cases at_ with
        | none =>
          simp only [machA, appK_eq] at hob h
          have := machA_sound hT q (.nrm κ) f (σp ++ σ) ob hob h
          exact fun _ w S fc Sg a b => this trivial w S fc Sg a b.plain
        | some t => exact h
    | cons x rest =>
      obtain ⟨o, al⟩ := x
      rw [mach_ops] at hob h
      intro hok w S fc Sg hs hh
      have hlm : ∀ ex, m = .last ex → ex.b = true ∧ al = true ∧ rest = [] := by
        intro ex e
        subst e
        obtain ⟨h1, h2 | h2⟩ := hok
        · obtain ⟨o', h2⟩ := h2
          simp at h2
          exact ⟨h1, h2.1.2, h2.2⟩
        · cases h2
      have step : ∀ {z : ARes}, OT (opM L n m dec f σ ob o al (fun m f σ ob => machA L n q (.ops m κ all dec rest) f σ ob) ⟨.op m κ all dec o al rest, f, σ, ob⟩).ob → DenOA c P n Q (opM L n m dec f σ ob o al (fun m f σ ob => machA L n q (.ops m κ all dec rest) f σ ob) ⟨.op m κ all dec o al rest, f, σ, ob⟩) → Step P (conM Sg m) (post P Q κ) o al rest.isEmpty (OR P (conM Sg m) all (post P Q κ) rest) (act n fc) w := fun hob h =>
        stepM (P := P) (L := L) hT (dec := dec) hlm hob (fun m' f' σ' ob' h => mach_ob (P := P) hT q _ _ _ _ h) (fun m' f' σ' ob' hob h => machA_sound hT q (.ops m' κ all dec rest) f' σ' ob' hob h) rfl h w S fc Sg hs hh
      show OR P (conM Sg m) all (post P Q κ) ((o, al) :: rest) (act n fc) w
      cases hlast : lastOf m al rest with
      | some p =>
        obtain ⟨σp, ex⟩ := p
        obtain ⟨⟨pre, rfl⟩, rfl, rfl, hb⟩ := lastOf_some hlast
        rw [hlast] at hob h
        exact machA_sound hT q (.ops (.last ex) κ all dec [(o, true)]) f (σp ++ σ) ob hob h ⟨hb, .inl ⟨o, rfl⟩⟩ w S fc Sg hs hh.plain
      | none =>
        rw [hlast] at hob h
        simp only at hob h
        unfold OR
        cases hg : o.guard with
        | none =>
          rw [hg] at hob h
          rw [if_pos (by simp [Region.wanted, hg])]
          exact step (z := ⟨.st (.nrm []), f, σ, ob⟩) hob h
        | some jw =>
          obtain ⟨j, want⟩ := jw
          rw [hg] at hob h
          simp only at hob h
          have back : OR P (conM Sg m) all (post P Q κ) ((o, al) :: rest) (act n fc) w → (if Region.wanted o (yielded all (act n fc).tmps) = true then Step P (conM Sg m) (post P Q κ) o al rest.isEmpty (OR P (conM Sg m) all (post P Q κ) rest) (act n fc) w else OR P (conM Sg m) all (post P Q κ) rest ((act n fc).put o.dst undef) w) := fun h => by
            unfold OR at h; exact h
          have stop : DenOA c P n Q ⟨.st (.ops m κ all dec ((o, al) :: rest)), f, σ, ob⟩ → OR P (conM Sg m) all (post P Q κ) ((o, al) :: rest) (act n fc) w := fun h => h hok w S fc Sg hs hh
          cases hj : all.toList[j]? with
          | none => rw [hj] at h; exact back (stop h)
          | some g =>
            rw [hj] at hob h
            simp only at hob h
            cases hd : g.dst with
            | none => rw [hd] at h; exact back (stop h)
            | some d =>
              rw [hd] at hob h
              simp only at hob h
              have hx := hs.env.eval (n := n) (.tmp d)
              by_cases hn : d < n
              · have hwt := wanted_of (f := fc) hg hj hd hn
                have hev : ev n fc (.tmp d) = get fc d := by
                  unfold ev
                  simp only [evK]
                  have : Nat.blt d n = true := by simpa [Nat.blt_eq] using hn
                  rw [this]; simp only []; rw [getK_eq]; rfl
                rw [hev] at hx
                have skip : OT (match o.dst with | some e => machA L n q (.ops m κ all (e :: dec) rest) ((e, .v undef 0) :: f) σ ob | none => machA L n q (.ops m κ all dec rest) f σ ob).ob → DenOA c P n Q (match o.dst with | some e => machA L n q (.ops m κ all (e :: dec) rest) ((e, .v undef 0) :: f) σ ob | none => machA L n q (.ops m κ all dec rest) f σ ob) → OR P (conM Sg m) all (post P Q κ) rest ((act n fc).put o.dst undef) w := fun hob h => by
                  rw [act_put]
                  have hok' : ∀ dec', (AMS.ops m κ all dec' rest).ok := fun dec' => by
                    cases m with
                    | last ex => obtain ⟨h1, h2, h3⟩ := hlm ex rfl; exact ⟨h1, .inr h3⟩
                    | _ => trivial
                  cases hdst : o.dst with
                  | none => rw [hdst] at hob h; exact machA_sound hT q (.ops m κ all dec rest) _ σ ob hob h (hok' _) w S fc Sg hs hh
                  | some e =>
                    rw [hdst] at hob h
                    exact machA_sound hT q (.ops m κ all (e :: dec) rest) _ σ ob hob h (hok' _) w S ((e, undef) :: fc) Sg ⟨hs.env.put (some e) mk_v, hs.ev, hs.sub⟩ hh
                rw [hwt]
                cases hv : evA n f (.tmp d) with
                | v x hx' =>
                  rw [hv] at hx hob h
                  have hgx := rep_v hx
                  cases x with
                  | bool b =>
                    rw [hgx]
                    cases hm : memK dec d
                    · rw [hm] at h
                      have h' := back (h (by cases m <;> first | trivial | exact hlm _ rfl) w S fc Sg hs hh)
                      rw [hwt, hgx] at h'
                      exact h'
                    · rw [hm] at hob h
                      cases b <;> cases want
                      · rw [if_pos (by rfl)]; exact step (z := ⟨.st (.nrm []), f, σ, ob⟩) hob h
                      · rw [if_neg (by simp)]; exact skip hob h
                      · rw [if_neg (by simp)]; exact skip hob h
                      · rw [if_pos (by rfl)]; exact step (z := ⟨.st (.nrm []), f, σ, ob⟩) hob h
                  | tuple vs =>
                    rw [hgx]
                    rw [if_neg (by simp)]
                    cases hm : memK dec d <;> rw [hm] at hob h <;> exact skip hob h
                  | _ =>
                    have h' : OR P (conM Sg m) all (post P Q κ) ((o, al) :: rest) (act n fc) w := by
                      cases hm : memK dec d <;> rw [hm] at h <;> exact stop h
                    have h' := back h'
                    rw [hwt] at h'
                    exact h'
                | _ =>
                  rw [hv] at h
                  have h' : OR P (conM Sg m) all (post P Q κ) ((o, al) :: rest) (act n fc) w := by
                    cases hm : memK dec d <;> rw [hm] at h <;> exact stop h
                  have h' := back h'
                  rw [hwt] at h'
                  exact h'
              ·
                have hev : evA n f (.tmp d) = .v undef 0 := by
                  unfold evA
                  simp only [evAK]
                  have : Nat.blt d n = false := by
                    cases hb : Nat.blt d n
                    · rfl
                    · exact absurd (by simpa [Nat.blt_eq] using hb) hn
                  rw [this]; rfl
                have hwt : Region.wanted o (yielded all (act n fc).tmps) = false := by
                  rw [Array.getElem?_toList] at hj
                  simp [Region.wanted, hg, yielded, hj, hd, act, hn]
                rw [hwt, if_neg (by simp), act_put]
                rw [hev] at hob h
                have hok' : ∀ dec', (AMS.ops m κ all dec' rest).ok := fun dec' => by
                  cases m with
                  | last ex => obtain ⟨h1, h2, h3⟩ := hlm ex rfl; exact ⟨h1, .inr h3⟩
                  | _ => trivial
                cases hm : memK dec d <;> rw [hm] at hob h <;> simp only [undef] at hob h
                all_goals
                  cases hdst : o.dst with
                  | none => rw [hdst] at hob h; exact machA_sound hT q (.ops m κ all dec rest) _ σ ob hob h (hok' _) w S fc Sg hs hh
                  | some e =>
                    rw [hdst] at hob h
                    exact machA_sound hT q (.ops m κ all (e :: dec) rest) _ σ ob hob h (hok' _) w S ((e, undef) :: fc) Sg ⟨hs.env.put (some e) mk_v, hs.ev, hs.sub⟩ hh
end Go.Proofs.YtjcolfogmmjaoaaGreatDoor.A
end

section
set_option linter.unusedVariables false
set_option linter.unusedSimpArgs false
namespace Go.Proofs.YtjcolfogmmjaoaaGreatDoor.A
open V
def zipk : List Nat → List Chunk → Store
  | k :: ks, c :: cs => (k, c) :: zipk ks cs
  | [], c :: cs => (0, c) :: zipk [] cs
  | _, [] => []
def HoldsL (M : Nat → Prop) (w : World) (cs : List Chunk) (S : Nat → Prop) : Prop := Holds M w (cs.map fun c => (0, c)) S
theorem Holds.keys {M : Nat → Prop} {w : World} : ∀ {σ τ : Store} {S : Nat → Prop}, Holds M w σ S → σ.map (·.2) = τ.map (·.2) → Holds M w τ S
  | [], [], S, h, _ => h
  | [], _ :: _, S, h, e => by simp at e
  | _ :: _, [], S, h, e => by simp at e
  | (j, c) :: σ, (k, d) :: τ, S, ⟨S1, S2, h1, h2, h3, h4⟩, e => by
    simp only [List.map_cons, List.cons.injEq] at e
    obtain ⟨rfl, e⟩ := e
    exact ⟨S1, S2, h1, h2, h3, h4.keys e⟩
theorem zipk_snd : ∀ (ks : List Nat) (cs : List Chunk), (zipk ks cs).map (·.2) = cs
  | k :: ks, c :: cs => by unfold zipk; simp [zipk_snd ks cs]
  | [], c :: cs => by unfold zipk; simp [zipk_snd [] cs]
  | [], [] => rfl
  | _ :: _, [] => rfl
theorem HoldsL.zip {M : Nat → Prop} {w : World} {cs : List Chunk} {S : Nat → Prop} (h : HoldsL M w cs S) (ks : List Nat) : Holds M w (zipk ks cs) S := Holds.keys h (by rw [zipk_snd, List.map_map]; exact List.map_id' cs)
def takes : Store → List Nat → Option (List Chunk × Store)
  | σ, [] => some ([], σ)
  | σ, k :: ks => match look σ k with
    | none => none
    | some c => match takes (del σ k) ks with
      | none => none
      | some (cs, r) => some (c :: cs, r)
theorem Holds.takes {M : Nat → Prop} {w : World} : ∀ {ks : List Nat} {σ : Store} {S : Nat → Prop} {cs : List Chunk} {r : Store}, Holds M w σ S → A.takes σ ks = some (cs, r) → ∃ S1 S2, HoldsL M w cs S1 ∧ Holds M w r S2 ∧ (∀ b, S b ↔ S1 b ∨ S2 b) ∧ ∀ b, S1 b → ¬ S2 b
  | [], σ, S, cs, r, h, e => by
    unfold A.takes at e
    simp at e
    obtain ⟨rfl, rfl⟩ := e
    exact ⟨no, S, fun _ h => h, h, fun b => ⟨.inr, fun h => h.elim (fun h => h.elim) id⟩, fun _ h => h.elim⟩
  | k :: ks, σ, S, cs, r, h, e => by
    unfold A.takes at e
    split at e
    · cases e
    · rename_i c hl
      split at e
      · cases e
      · rename_i cs' r' ht
        simp at e
        obtain ⟨rfl, rfl⟩ := e
        obtain ⟨T1, T2, k1, k2, k3, k4⟩ := h.take hl
        obtain ⟨U1, U2, u1, u2, u3, u4⟩ := k4.takes ht
        refine ⟨fun b => T1 b ∨ U1 b, U2, ⟨T1, U1, fun b => Iff.rfl, fun b hb hu => k2 b hb ((u3 b).2 (.inl hu)), k3, u1⟩, u2, fun b => ?_, fun b hb hu => hb.elim (fun hb => k2 b hb ((u3 b).2 (.inr hu))) fun hb => u4 b hb hu⟩
        rw [k1 b, u3 b, or_assoc]
def rekK {α : Sort _} : List Nat → List Chunk → Store → (Store → α) → α
  | _, [], r, k => k r
  | [], c :: cs, r, k => rekK [] cs r fun s => k ((0, c) :: s)
  | j :: ks, c :: cs, r, k => rekK ks cs r fun s => k ((j, c) :: s)
theorem rekK_eq {α : Sort _} : ∀ (ks : List Nat) (cs : List Chunk) (r : Store) (k : Store → α), rekK ks cs r k = k (zipk ks cs ++ r)
  | [], [], r, k => rfl
  | _ :: _, [], r, k => rfl
  | [], c :: cs, r, k => by unfold rekK zipk; rw [rekK_eq]; rfl
  | j :: ks, c :: cs, r, k => by unfold rekK zipk; rw [rekK_eq]; rfl
mutual
def Fit : AV → AV → Prop
  | .v x _, .v y _ => x = y
  | .v x _, .d d => match d with
    | .v y => x = y ∧ x.oneCell' = true
    | .sl _ es => x = .slice none 0 0 ∧ es = []
    | _ => False
  | .d x, .v y _ => x = .v y
  | .d x, .d y => x = y
  | .row x _, .row y _ => x = y
  | .agg xs, .agg ys => Fits xs ys
  | .tup xs, .tup ys => Fits xs ys
  | .ifc t a, .ifc u b => t = u ∧ Fit a b
  | .fn g xs, .fn h ys => g = h ∧ Fits xs ys
  | _, .any => True
  | _, _ => False
def Fits : List AV → List AV → Prop
  | [], [] => True
  | a :: as, b :: bs => Fit a b ∧ Fits as bs
  | _, _ => False
end
mutual
theorem Fit.rep {M : Nat → Prop} {w : World} : ∀ {a b : AV} {v : Value}, Fit a b → Rep M w a v → Rep M w b v
  | .v x _, .v y _, v, h, hr => by unfold Fit at h; subst h; unfold Rep at hr ⊢; exact hr
  | .v x _, .d d, v, h, hr => by
    unfold Fit at h
    unfold Rep at hr ⊢
    subst hr
    cases d with
    | v y => obtain ⟨rfl, h⟩ := h; unfold DRep; exact ⟨rfl, h⟩
    | sl k es => obtain ⟨rfl, rfl⟩ := h; unfold DRep; exact ⟨none, 0, rfl, by simp, by simp, by simp⟩
    | _ => exact h.elim
  | .d x, .v y _, v, h, hr => by unfold Fit at h; subst h; unfold Rep at hr ⊢; unfold DRep at hr; exact hr.1
  | .d x, .d y, v, h, hr => by unfold Fit at h; subst h; exact hr
  | .row x _, .row y _, v, h, hr => by unfold Fit at h; subst h; unfold Rep at hr ⊢; exact hr
  | .agg xs, .agg ys, v, h, hr => by unfold Fit at h; unfold Rep at hr ⊢; obtain ⟨zs, e, h1, h2⟩ := hr; exact ⟨zs, e, Fits.reps h h1, h2⟩
  | .tup xs, .tup ys, v, h, hr => by unfold Fit at h; unfold Rep at hr ⊢; obtain ⟨zs, e, h1⟩ := hr; exact ⟨zs, e, Fits.reps h h1⟩
  | .ifc t a, .ifc u b, v, h, hr => by unfold Fit at h; unfold Rep at hr ⊢; obtain ⟨rfl, h⟩ := h; obtain ⟨x, e, h1⟩ := hr; exact ⟨x, e, Fit.rep h h1⟩
  | .fn g xs, .fn k ys, v, h, hr => by unfold Fit at h; unfold Rep at hr ⊢; obtain ⟨rfl, h⟩ := h; obtain ⟨zs, e, h1⟩ := hr; exact ⟨zs, e, Fits.reps h h1⟩
  | .v _ _, .any, v, h, hr => by unfold Rep; trivial
  | .d _, .any, v, h, hr => by unfold Rep; trivial
  | .row _ _, .any, v, h, hr => by unfold Rep; trivial
  | .agg _, .any, v, h, hr => by unfold Rep; trivial
  | .tup _, .any, v, h, hr => by unfold Rep; trivial
  | .ifc _ _, .any, v, h, hr => by unfold Rep; trivial
  | .fn _ _, .any, v, h, hr => by unfold Rep; trivial
  | .any, .any, v, h, hr => by unfold Rep; trivial
  | .v _ _, .row _ _, v, h, hr => by unfold Fit at h; exact h.elim
  | .v _ _, .agg _, v, h, hr => by unfold Fit at h; exact h.elim
  | .v _ _, .tup _, v, h, hr => by unfold Fit at h; exact h.elim
  | .v _ _, .ifc _ _, v, h, hr => by unfold Fit at h; exact h.elim
  | .v _ _, .fn _ _, v, h, hr => by unfold Fit at h; exact h.elim
  | .d _, .row _ _, v, h, hr => by unfold Fit at h; exact h.elim
  | .d _, .agg _, v, h, hr => by unfold Fit at h; exact h.elim
  | .d _, .tup _, v, h, hr => by unfold Fit at h; exact h.elim
  | .d _, .ifc _ _, v, h, hr => by unfold Fit at h; exact h.elim
  | .d _, .fn _ _, v, h, hr => by unfold Fit at h; exact h.elim
  | .row _ _, .v _ _, v, h, hr => by unfold Fit at h; exact h.elim
  | .row _ _, .d _, v, h, hr => by unfold Fit at h; exact h.elim
  | .row _ _, .agg _, v, h, hr => by unfold Fit at h; exact h.elim
  | .row _ _, .tup _, v, h, hr => by unfold Fit at h; exact h.elim
  | .row _ _, .ifc _ _, v, h, hr => by unfold Fit at h; exact h.elim
  | .row _ _, .fn _ _, v, h, hr => by unfold Fit at h; exact h.elim
  | .agg _, .v _ _, v, h, hr => by unfold Fit at h; exact h.elim
  | .agg _, .d _, v, h, hr => by unfold Fit at h; exact h.elim
  | .agg _, .row _ _, v, h, hr => by unfold Fit at h; exact h.elim
  | .agg _, .tup _, v, h, hr => by unfold Fit at h; exact h.elim
  | .agg _, .ifc _ _, v, h, hr => by unfold Fit at h; exact h.elim
  | .agg _, .fn _ _, v, h, hr => by unfold Fit at h; exact h.elim
  | .tup _, .v _ _, v, h, hr => by unfold Fit at h; exact h.elim
  | .tup _, .d _, v, h, hr => by unfold Fit at h; exact h.elim
  | .tup _, .row _ _, v, h, hr => by unfold Fit at h; exact h.elim
  | .tup _, .agg _, v, h, hr => by unfold Fit at h; exact h.elim
  | .tup _, .ifc _ _, v, h, hr => by unfold Fit at h; exact h.elim
  | .tup _, .fn _ _, v, h, hr => by unfold Fit at h; exact h.elim
  | .ifc _ _, .v _ _, v, h, hr => by unfold Fit at h; exact h.elim
  | .ifc _ _, .d _, v, h, hr => by unfold Fit at h; exact h.elim
  | .ifc _ _, .row _ _, v, h, hr => by unfold Fit at h; exact h.elim
  | .ifc _ _, .agg _, v, h, hr => by unfold Fit at h; exact h.elim
  | .ifc _ _, .tup _, v, h, hr => by unfold Fit at h; exact h.elim
  | .ifc _ _, .fn _ _, v, h, hr => by unfold Fit at h; exact h.elim
  | .fn _ _, .v _ _, v, h, hr => by unfold Fit at h; exact h.elim
  | .fn _ _, .d _, v, h, hr => by unfold Fit at h; exact h.elim
  | .fn _ _, .row _ _, v, h, hr => by unfold Fit at h; exact h.elim
  | .fn _ _, .agg _, v, h, hr => by unfold Fit at h; exact h.elim
  | .fn _ _, .tup _, v, h, hr => by unfold Fit at h; exact h.elim
  | .fn _ _, .ifc _ _, v, h, hr => by unfold Fit at h; exact h.elim
  | .any, .v _ _, v, h, hr => by unfold Fit at h; exact h.elim
  | .any, .d _, v, h, hr => by unfold Fit at h; exact h.elim
  | .any, .row _ _, v, h, hr => by unfold Fit at h; exact h.elim
  | .any, .agg _, v, h, hr => by unfold Fit at h; exact h.elim
  | .any, .tup _, v, h, hr => by unfold Fit at h; exact h.elim
  | .any, .ifc _ _, v, h, hr => by unfold Fit at h; exact h.elim
  | .any, .fn _ _, v, h, hr => by unfold Fit at h; exact h.elim
theorem Fits.reps {M : Nat → Prop} {w : World} : ∀ {as bs : List AV} {vs : List Value}, Fits as bs → Reps M w as vs → Reps M w bs vs
  | [], [], vs, h, hr => hr
  | [], _ :: _, vs, h, hr => by unfold Fits at h; exact h.elim
  | _ :: _, [], vs, h, hr => by unfold Fits at h; exact h.elim
  | a :: as, b :: bs, vs, h, hr => by
    unfold Fits at h
    unfold Reps at hr ⊢
    obtain ⟨x, r, e, h1, h2⟩ := hr
    exact ⟨x, r, e, Fit.rep h.1 h1, Fits.reps h.2 h2⟩
end
def CFit : Chunk → Chunk → Prop
  | .blk g t cs, .blk g' t' cs' => g = g' ∧ t = t' ∧ Fits cs cs'
  | .row x e k es, .row x' e' k' es' => x = x' ∧ e = e' ∧ k = k' ∧ es = es'
  | .map r es, .map r' es' => r = r' ∧ es = es'
  | .ext a, .ext b => a = b
  | _, _ => False
def CFits : List Chunk → List Chunk → Prop
  | [], [] => True
  | a :: as, b :: bs => CFit a b ∧ CFits as bs
  | _, _ => False
theorem CFit.rep {M : Nat → Prop} {w : World} {a b : Chunk} {S : Nat → Prop} (h : CFit a b) (hr : CRep M w a S) : CRep M w b S := by
  cases a <;> cases b <;> first | exact h.elim | skip
  · obtain ⟨rfl, rfl, h⟩ := h
    obtain ⟨hS, xs, hb, hr, h1⟩ := hr
    exact ⟨hS, xs, hb, h.reps hr, h1⟩
  · obtain ⟨rfl, rfl, rfl, rfl⟩ := h; exact hr
  · obtain ⟨rfl, rfl⟩ := h; exact hr
  · cases h; exact hr
theorem CFits.holds {M : Nat → Prop} {w : World} : ∀ {as bs : List Chunk} {S : Nat → Prop}, CFits as bs → HoldsL M w as S → HoldsL M w bs S
  | [], [], S, h, hr => hr
  | [], _ :: _, S, h, hr => h.elim
  | _ :: _, [], S, h, hr => h.elim
  | a :: as, b :: bs, S, h, ⟨S1, S2, h1, h2, h3, h4⟩ => ⟨S1, S2, h1, h2, h.1.rep h3, CFits.holds h.2 h4⟩
theorem HoldsM.step {m : Mode} {M S : Nat → Prop} {w : World} {σ : Store} {Sg : World → Prop} (h : HoldsM m M S w σ Sg) : ∃ Sp Su, Holds M w (spOf m) Sp ∧ Holds M w σ Su ∧ (∀ b, S b ↔ Sp b ∨ Su b) ∧ (∀ b, Sp b → ¬ Su b) ∧
    ∀ (M' Su' : Nat → Prop) (w1 : World) (σ1 : Store), Ev Su w w1 → (∀ b, b < w.heap.size → Su b ∨ M' b → M b) → Holds M' w1 σ1 Su' → (∀ b, Su' b → Su b ∨ w.heap.size ≤ b) → (∀ pre σp ex, m = .reg pre σp ex → Sg w1) ∧ HoldsM (m.hap true) M' (or2 Sp Su') w1 σ1 Sg := by
  cases m with
  | plain => exact ⟨no, S, fun _ h => h, h, fun b => ⟨.inr, fun h => h.elim (fun h => h.elim) id⟩, fun _ h => h.elim, fun M' Su' w1 σ1 hev hm h1 hs => ⟨fun _ _ _ e => (by cases e), Holds.iff h1 fun b => ⟨fun h => h.elim (fun h => h.elim) id, .inr⟩⟩⟩
  | rest => exact ⟨no, S, fun _ h => h, h, fun b => ⟨.inr, fun h => h.elim (fun h => h.elim) id⟩, fun _ h => h.elim, fun M' Su' w1 σ1 hev hm h1 hs => ⟨fun _ _ _ e => (by cases e), Holds.iff h1 fun b => ⟨fun h => h.elim (fun h => h.elim) id, .inr⟩⟩⟩
  | last ex => exact ⟨no, S, fun _ h => h, h, fun b => ⟨.inr, fun h => h.elim (fun h => h.elim) id⟩, fun _ h => h.elim, fun M' Su' w1 σ1 hev hm h1 hs => ⟨fun _ _ _ e => (by cases e), Holds.iff h1 fun b => ⟨fun h => h.elim (fun h => h.elim) id, .inr⟩⟩⟩
  | reg pre σp ex =>
    obtain ⟨ws, U, Sp, Su, h⟩ := h
    refine ⟨Sp, Su, h.hp, h.hu, h.all, h.dis, fun M' Su' w1 σ1 hev hm h1 hs => ?_⟩
    have hsg1 : Sg w1 := by
      have hnow := h.now
      rw [h.sg] at hnow ⊢
      intro b hb hU
      rw [← hnow b hb hU]
      exact hev.block b (Nat.lt_of_lt_of_le hb h.size) fun h' => by
        rcases h.un b h' with h' | h'
        · exact hU h'
        · omega
    refine ⟨fun _ _ _ _ => hsg1, ws, U, Sp, Su', h.sg, hsg1, Nat.le_trans h.size hev.size, h.hp.ev hev hm (fun b hb h' => h.dis b hb h'), h1, fun b => Iff.rfl, fun b hb h' => ?_, fun b hb => ?_, h.kept, fun h => by cases h⟩
    · rcases hs b h' with h' | h'
      · exact h.dis b hb h'
      · have := h.hp.lt b hb; omega
    · rcases hs b hb with h' | h'
      · exact h.un b h'
      · exact .inr (Nat.le_trans h.size h')
def Post (X S : Nat → Prop) (w : World) (R : AV → List Chunk → Prop) (e : Ending) (w' : World) : Prop :=
  ∃ v a cs S', e = .returned v ∧ R a cs ∧ Rep (or2 S' X) w' a v ∧ HoldsL (or2 S' X) w' cs S' ∧ Ev S w w' ∧ ∀ b, S' b → S b ∨ w.heap.size ≤ b
structure FSpec (P : Program) (g : FuncId) (args : List AV) (cs : List Chunk) (R : AV → List Chunk → Prop) : Prop where
  out : ∀ (X S : Nat → Prop) (w : World) (xs : List Value), (∀ b, S b → ¬ X b) → (∀ b, X b → b < w.heap.size) → HoldsL (or2 S X) w cs S → Reps (or2 S X) w args xs → Calls P g xs.toArray w (Post X S w R)
theorem FSpec.mono {P : Program} {g : FuncId} {args : List AV} {cs : List Chunk} {R R' : AV → List Chunk → Prop} (h : FSpec P g args cs R) (hR : ∀ a cs, R a cs → R' a cs) : FSpec P g args cs R' :=
  ⟨fun X S w xs h1 h2 h3 h4 => (h.out X S w xs h1 h2 h3 h4).mono fun e w' ⟨v, a, cs', S', k1, k2, k3⟩ => ⟨v, a, cs', S', k1, hR _ _ k2, k3⟩⟩
theorem FSpec.fit {P : Program} {g : FuncId} {args args' : List AV} {cs cs' : List Chunk} {R : AV → List Chunk → Prop} (h : FSpec P g args' cs' R) (ha : Fits args args') (hc : CFits cs cs') : FSpec P g args cs R :=
  ⟨fun X S w xs h1 h2 h3 h4 => h.out X S w xs h1 h2 (hc.holds h3) (ha.reps h4)⟩
def enA : Nat → List AV → AEnv
  | _, [] => []
  | i, v :: vs => (i, v) :: enA (i + 1) vs
theorem enA_rep {M : Nat → Prop} {w : World} : ∀ {as : List AV} {xs : List Value} (i : Nat), Reps M w as xs → EnvRep M w (enA i as) (en i xs)
  | [], xs, i, h => fun t => by show Rep M w (getA [] t) _; show Rep M w .any _; unfold Rep; trivial
  | a :: as, xs, i, h => by
    unfold Reps at h
    obtain ⟨x, r, rfl, h1, h2⟩ := h
    intro t
    show Rep M w (getA ((i, a) :: enA (i + 1) as) t) (get ((i, x) :: en (i + 1) r) t)
    rw [getA_cons, get_cons]
    split
    · exact h1
    · exact enA_rep (i + 1) h2 t
def Ctx.post (c : Ctx) (R : AV → List Chunk → Prop) : Ending → World → Prop := Post c.X c.S c.w R
section
variable {P : Program} {L : List TD} {n : Nat} {Q : Exit → Act → World → Prop} {c : Ctx}
theorem a_enter (hT : TOk P L) {k : FuncId} {fn : Func} {cd : Code} {args : List AV} {cs : List Chunk} {R : AV → List Chunk → Prop} (args' : List AV) (ks : List Nat) (hf : P.funcs[k]? = some fn) (hb : fn.body = some cd) (hn : fn.ntmps = n) (hl : Nat.ble args'.length n = true)
    (ha : Fits args args') (h : ∀ c : Ctx, DenA c P n (bodyPost P fn (c.post R)) (.code [] cd) (enA 0 args') (zipk ks cs)) : FSpec P k args cs R := by
  refine ⟨fun X S w xs h1 h2 h3 h4 => ?_⟩
  have h5 := ha.reps h4
  have hlen := h5.len
  refine V.enter hT xs hf hb hn (by rw [hlen]; exact hl) ⟨?_⟩
  exact (h ⟨X, S, w, h1, h2⟩).out trivial w S (en 0 xs) (fun _ => True) ⟨enA_rep 0 h5, Ev.refl _ _, fun b hb => .inl hb⟩ (h3.zip ks)
theorem a_go (hT : TOk P L) {s : AMS} {f : AEnv} {σ : Store} {r : ARes} (h : machA L n fuel s f σ [] = r) (hob : r.ob.map (·.1) = r.ob.map (·.2)) (hd : DenOA c P n Q r) : DenA c P n Q s f σ :=
  ⟨machA_sound hT fuel s f σ [] (h ▸ OT.of hob) (h ▸ hd)⟩
variable {s : AMS} {f f' : AEnv} {σ σ' : Store} {ob : Obs} {κ : List Kt} {all : Array Oper} {dec : List Nat} {o : Oper} {al : Bool} {rest : List (Oper × Bool)} {m : Mode}
theorem a_if (hT : TOk P L) {x y : Code} {b : Bool} (h : machA L n fuel s f σ [] = ⟨.br κ b x y, f', σ', ob⟩) (hob : ob.map (·.1) = ob.map (·.2)) (h1 : b = true → DenA c P n Q (.code κ x) f' σ') (h2 : b = false → DenA c P n Q (.code κ y) f' σ') : DenA c P n Q s f σ :=
  a_go hT h hob fun _ w S fc Sg hs hh => by
    cases b
    · exact (h2 rfl).out trivial w S fc Sg hs hh
    · exact (h1 rfl).out trivial w S fc Sg hs hh
theorem a_t (hT : TOk P L) {x y : Code} {b : Bool} (h : machA L n fuel s f σ [] = ⟨.br κ b x y, f', σ', ob⟩) (hob : ob.map (·.1) = ob.map (·.2)) (hb : b = true) (h1 : DenA c P n Q (.code κ x) f' σ') : DenA c P n Q s f σ :=
  a_if hT h hob (fun _ => h1) (fun e => by rw [hb] at e; cases e)
theorem a_f (hT : TOk P L) {x y : Code} {b : Bool} (h : machA L n fuel s f σ [] = ⟨.br κ b x y, f', σ', ob⟩) (hob : ob.map (·.1) = ob.map (·.2)) (hb : b = false) (h1 : DenA c P n Q (.code κ y) f' σ') : DenA c P n Q s f σ :=
  a_if hT h hob (fun e => by rw [hb] at e; cases e) (fun _ => h1)
theorem a_g (hT : TOk P L) {d : Nat} {b : Bool} (h : machA L n fuel s f σ [] = ⟨.grd m κ all dec d b o al rest, f', σ', ob⟩) (hob : ob.map (·.1) = ob.map (·.2)) {hh : Nat} (hd : getA f' d = .v (.bool b) hh)
    (h1 : b = true → DenA c P n Q (.ops m κ all (d :: dec) ((o, al) :: rest)) ((d, .v (.bool true) 0) :: f') σ') (h2 : b = false → DenA c P n Q (.ops m κ all (d :: dec) ((o, al) :: rest)) ((d, .v (.bool false) 0) :: f') σ') : DenA c P n Q s f σ :=
  a_go hT h hob fun hok w S fc Sg hs hh => by
    have hok' : ∀ dec', (AMS.ops m κ all dec' ((o, al) :: rest)).ok := fun dec' => by
      cases m with
      | last ex => obtain ⟨h1, h2, h3⟩ := hok; exact ⟨h1, .inl ⟨o, by rw [h2, h3]⟩⟩
      | _ => trivial
    have hx : get fc d = .bool b := by have := hs.env d; rw [hd] at this; exact rep_v this
    have key : ∀ b', b' = b → Sat c w S ((d, .v (.bool b') 0) :: f') ((d, .bool b') :: fc) := fun b' e => ⟨hs.env.put (some d) mk_v, hs.ev, hs.sub⟩
    show OR P (conM Sg m) all (post P Q κ) ((o, al) :: rest) (act n fc) w
    cases b
    · have := (h2 rfl).out (hok' _) w S ((d, .bool false) :: fc) Sg (key false rfl) hh
      change OR P (conM Sg m) all (post P Q κ) ((o, al) :: rest) (act n ((d, .bool false) :: fc)) w at this
      rwa [act_same hx] at this
    · have := (h1 rfl).out (hok' _) w S ((d, .bool true) :: fc) Sg (key true rfl) hh
      change OR P (conM Sg m) all (post P Q κ) ((o, al) :: rest) (act n ((d, .bool true) :: fc)) w at this
      rwa [act_same hx] at this
theorem a_gt (hT : TOk P L) {d : Nat} {b : Bool} (h : machA L n fuel s f σ [] = ⟨.grd m κ all dec d b o al rest, f', σ', ob⟩) (hob : ob.map (·.1) = ob.map (·.2)) {hh : Nat} (hd : getA f' d = .v (.bool b) hh) (hb : b = true)
    (h1 : DenA c P n Q (.ops m κ all (d :: dec) ((o, al) :: rest)) ((d, .v (.bool true) 0) :: f') σ') : DenA c P n Q s f σ := a_g hT h hob hd (fun _ => h1) (fun e => by rw [hb] at e; cases e)
theorem a_gf (hT : TOk P L) {d : Nat} {b : Bool} (h : machA L n fuel s f σ [] = ⟨.grd m κ all dec d b o al rest, f', σ', ob⟩) (hob : ob.map (·.1) = ob.map (·.2)) {hh : Nat} (hd : getA f' d = .v (.bool b) hh) (hb : b = false)
    (h1 : DenA c P n Q (.ops m κ all (d :: dec) ((o, al) :: rest)) ((d, .v (.bool false) 0) :: f') σ') : DenA c P n Q s f σ := a_g hT h hob hd (fun e => by rw [hb] at e; cases e) (fun _ => h1)
def After (Y Su : Nat → Prop) (w : World) (R : AV → Store → Prop) (v : Value) (w1 : World) : Prop :=
  ∃ a σ1 Su', R a σ1 ∧ Rep (or2 Su' Y) w1 a v ∧ Holds (or2 Su' Y) w1 σ1 Su' ∧ Ev Su w w1 ∧ ∀ b, Su' b → Su b ∨ w.heap.size ≤ b
def Does (P : Program) (Y Su : Nat → Prop) (w : World) (R : AV → Store → Prop) : Result Next → Prop
  | .ok (.value v) w1 => After Y Su w R v w1
  | .ok .skip w1 => After Y Su w R undef w1
  | .ok (.enter k args) w0 => Calls P k args w0 fun e w1 => ∃ v, e = .returned v ∧ After Y Su w R v w1
  | _ => False
theorem a_eff (hT : TOk P L) (R : AV → Store → Prop) (h : machA L n fuel s f σ [] = ⟨.op m κ all dec o true rest, f', σ', ob⟩) (hob : ob.map (·.1) = ob.map (·.2))
    (he : ∀ (Y Su : Nat → Prop) (w : World) (fc : Env), (∀ b, Su b → ¬ Y b) → (∀ b, Y b → b < w.heap.size) → Holds (or2 Su Y) w σ' Su → EnvRep (or2 Su Y) w f' fc → Does P Y Su w R ((execOp (ev n fc) o).run P w))
    (hk : ∀ a σ1, R a σ1 → DenA c P n Q (.ops (m.hap true) κ all dec rest) (putA f' o.dst a) σ1) : DenA c P n Q s f σ := by
  refine a_go hT h hob fun hok w S fc Sg hs hh => ?_
  have haa : (act n fc).eval = ev n fc := funext (act_eval n fc)
  have hcon : conM Sg (m.hap true) = conM Sg m := by cases m <;> rfl
  have hok' : (AMS.ops (m.hap true) κ all dec rest).ok := by
    cases m with
    | last ex => obtain ⟨h1, h2, h3⟩ := hok; exact ⟨h1, .inr h3⟩
    | _ => trivial
  obtain ⟨Sp, Su, hp, hu, hall, hdis, hstep⟩ := hh.step
  have hY : ∀ b, or2 Sp c.X b → b < w.heap.size := fun b hb => hb.elim (fun hb => hp.lt b hb) fun hb => Nat.lt_of_lt_of_le (c.old b hb) hs.ev.size
  have hdisX : ∀ b, S b → ¬ c.X b := fun b hb hx => (hs.sub b hb).elim (fun h => c.dis b h hx) fun h => Nat.lt_irrefl _ (Nat.lt_of_le_of_lt h (c.old b hx))
  have hd : ∀ b, Su b → ¬ or2 Sp c.X b := fun b hb h => h.elim (fun h => hdis b h hb) (hdisX b ((hall b).2 (.inr hb)))
  have hM1 : ∀ b, or2 Su (or2 Sp c.X) b → or2 S c.X b := fun b h => h.elim (fun h => .inl ((hall b).2 (.inr h))) fun h => h.elim (fun h => .inl ((hall b).2 (.inl h))) .inr
  have hdo := he (or2 Sp c.X) Su w fc hd hY (hu.of fun b _ h => hM1 b h) (hs.env.of fun b _ h => hM1 b h)
  have next : ∀ v w1, After (or2 Sp c.X) Su w R v w1 → Keep (conM Sg m) rest.isEmpty w1 ∧ OR P (conM Sg m) all (post P Q κ) rest ((act n fc).put o.dst v) w1 := by
    rintro v w1 ⟨a, σ1, Su', hR, hrep, hh1, hev, hsub⟩
    have hM2 : ∀ b, or2 (or2 Sp Su') c.X b → or2 Su' (or2 Sp c.X) b := fun b h => h.elim (fun h => h.elim (fun h => .inr (.inl h)) .inl) fun h => .inr (.inr h)
    have hm : ∀ b, b < w.heap.size → Su b ∨ or2 (or2 Sp Su') c.X b → or2 S c.X b := fun b hb h => by
      rcases h with h | (h | h) | h
      · exact .inl ((hall b).2 (.inr h))
      · exact .inl ((hall b).2 (.inl h))
      · rcases hsub b h with h | h
        · exact .inl ((hall b).2 (.inr h))
        · omega
      · exact .inr h
    obtain ⟨hsg, hh2⟩ := hstep (or2 (or2 Sp Su') c.X) Su' w1 σ1 hev hm (hh1.of fun b _ h => hM2 b h) hsub
    refine ⟨?_, ?_⟩
    · cases m with
      | plain => trivial
      | rest => exact .inr trivial
      | last ex => obtain ⟨h1, _, h3⟩ := hok; exact .inl (by rw [h1, h3]; rfl)
      | reg pre σp ex => exact .inr (hsg _ _ _ rfl)
    · rw [act_put, ← hcon]
      refine (hk a σ1 hR).out hok' w1 (or2 Sp Su') (put fc o.dst v) Sg ⟨?_, ?_, ?_⟩ hh2
      · exact EnvRep.put (hs.env.pass hev hm) o.dst (hrep.of fun b _ h => hM2 b h)
      · exact hs.ev.then hev fun b hb h => (hs.sub b ((hall b).2 (.inr h))).elim id fun h => by omega
      · rintro b (h | h)
        · exact hs.sub b ((hall b).2 (.inl h))
        · rcases hsub b h with h | h
          · exact hs.sub b ((hall b).2 (.inr h))
          · exact .inr (Nat.le_trans hs.ev.size h)
  refine .inr ⟨rfl, .inl ?_⟩
  unfold Oper.wp
  rw [haa]
  revert hdo
  generalize (execOp (ev n fc) o).run P w = res
  intro hdo
  cases res with
  | halt _ _ => exact hdo.elim
  | ok nx w1 =>
    cases nx with
    | value v => exact next v w1 hdo
    | skip => exact next undef w1 hdo
    | enter k args =>
      refine Calls.mono hdo fun e w2 ⟨v, he, hv⟩ => ?_
      subst he
      exact next v w2 hv
    | _ => exact hdo.elim
end
end Go.Proofs.YtjcolfogmmjaoaaGreatDoor.A
end

section
set_option linter.unusedVariables false
set_option linter.unusedSimpArgs false
namespace Go.Proofs.YtjcolfogmmjaoaaGreatDoor.A
open V
def zeroOf (P : Program) (t : TypeId) : List Value := match P.info? t with
  | some i => match i.zero with
    | some z => match Nat.ble z.cells.size 40 && ones z.cells.toList with | true => z.cells.toList | false => []
    | none => []
  | none => []
def zt (Z : List (List Value)) (t : TypeId) : List Value := Z.getD t []
def ZOk (P : Program) (Z : List (List Value)) : Prop := ∀ t, zt Z t = [] ∨ zt Z t = zeroOf P t
theorem ZOk.of {P : Program} {Z : List (List Value)} (h : (List.range Z.length).map (zeroOf P) = Z) : ZOk P Z := by
  intro t
  by_cases ht : t < Z.length
  · right
    unfold zt
    rw [List.getD_eq_getElem?_getD, List.getElem?_eq_getElem ht, Option.getD_some]
    have : ((List.range Z.length).map (zeroOf P))[t]? = Z[t]? := by rw [h]
    rw [List.getElem?_eq_getElem ht, List.getElem?_map, List.getElem?_range ht] at this
    simpa using this.symm
  · left
    unfold zt
    rw [List.getD_eq_getElem?_getD, List.getElem?_eq_none (Nat.le_of_not_lt ht)]
    rfl
theorem ZOk.spec {P : Program} {Z : List (List Value)} (hZ : ZOk P Z) {t : TypeId} {z : Value} {zs : List Value} (h : zt Z t = z :: zs) : ∃ i v, P.info? t = some i ∧ i.zero = some v ∧ v.cells.toList = z :: zs ∧ ones (z :: zs) = true := by
  rcases hZ t with e | e
  · rw [e] at h; cases h
  · rw [e] at h
    unfold zeroOf at h
    split at h
    · rename_i i hi
      split at h
      · rename_i v hv
        split at h
        · rename_i h1; rw [Bool.and_eq_true] at h1; have h1 := h1.2; rw [h] at h1; exact ⟨i, v, hi, hv, h, h1⟩
        · cases h
      · cases h
    · cases h
def avs (l : List Value) : List AV := l.map fun x => .v x 0
def cellsOf1 : AV → Option (List AV)
  | .agg cs => some cs
  | a => match one1 a with | true => some [a] | false => none
theorem cellsOf1_rep {M : Nat → Prop} {w : World} {a : AV} {cs : List AV} {v : Value} (h : cellsOf1 a = some cs) (hr : Rep M w a v) : Reps M w cs v.cells.toList ∧ ∀ u ∈ v.cells.toList, u.oneCell' = true := by
  have single : ∀ {a : AV}, one1 a = true → Rep M w a v → Reps M w [a] v.cells.toList ∧ ∀ u ∈ v.cells.toList, u.oneCell' = true := fun h1 hr => by
    have hx := one1_one h1 hr
    rw [cells_one hx]
    exact ⟨Reps.cons hr Reps.nil, by simpa using hx⟩
  cases a with
  | agg cs' =>
    simp [cellsOf1] at h
    subst h
    unfold Rep at hr
    obtain ⟨ys, rfl, hr, h1⟩ := hr
    exact ⟨by simpa [Value.cells] using hr, by simpa [Value.cells] using h1⟩
  | _ =>
    simp only [cellsOf1] at h
    split at h
    · rename_i h1
      simp at h
      subst h
      exact single h1 hr
    · cases h
def datK : AV → Option Dat
  | .d x => some x
  | .v x _ => match one1 (.v x 0) with | true => some (.v x) | false => none
  | .ifc t (.agg cs) => none
  | _ => none
def datsK : List AV → Option (List Dat)
  | [] => some []
  | a :: as => match datK a with
    | none => none
    | some d => match datsK as with
      | none => none
      | some ds => some (d :: ds)
theorem datK_rep {M : Nat → Prop} {w : World} {a : AV} {d : Dat} {v : Value} (h : datK a = some d) (hr : Rep M w a v) : DRep M w d v := by
  cases a with
  | d x => simp [datK] at h; subst h; unfold Rep at hr; exact hr
  | v x hh =>
    simp only [datK] at h
    split at h
    · rename_i h1
      simp at h
      subst h
      have h2 := one1_one (M := M) (w := w) h1 (x := x) mk_v
      unfold Rep at hr
      unfold DRep
      exact ⟨hr, h2⟩
    · cases h
  | ifc t a => cases a <;> simp [datK] at h
  | _ => simp [datK] at h
theorem datsK_rep {M : Nat → Prop} {w : World} : ∀ {as : List AV} {ds : List Dat} {vs : List Value}, datsK as = some ds → Reps M w as vs → VRep M w ds vs
  | [], ds, vs, h, hr => by simp [datsK] at h; subst h; unfold Reps at hr; unfold VRep; exact hr
  | a :: as, ds, vs, h, hr => by
    unfold datsK at h
    split at h
    · cases h
    · rename_i d hd
      split at h
      · cases h
      · rename_i ds' hds
        simp at h
        subst h
        unfold Reps at hr
        obtain ⟨y, r, rfl, h1, h2⟩ := hr
        exact VRep.cons (datK_rep hd h1) (datsK_rep hds h2)
section
variable {P : Program} {L : List TD} {Z : List (List Value)} {n : Nat} {Q : Exit → Act → World → Prop} {c : Ctx}
variable {s : AMS} {f f' : AEnv} {σ σ' : Store} {ob : Obs} {κ : List Kt} {all : Array Oper} {dec : List Nat} {o : Oper} {al : Bool} {rest : List (Oper × Bool)} {m : Mode}
theorem a_pure (hT : TOk P L) (a : AV) (h : machA L n fuel s f σ [] = ⟨.op m κ all dec o al rest, f', σ', ob⟩) (hob : ob.map (·.1) = ob.map (·.2))
    (he : ∀ M w fc, EnvRep M w f' fc → ∃ v, (∀ w', (execOp (ev n fc) o).run P w' = .ok (.value v) w') ∧ Rep M w a v) (hk : DenA c P n Q (.ops m κ all dec rest) (putA f' o.dst a) σ') : DenA c P n Q s f σ := by
  refine a_go hT h hob fun hok w S fc Sg hs hh => ?_
  obtain ⟨v, hv, hr⟩ := he _ _ _ hs.env
  have haa : (act n fc).eval = ev n fc := funext (act_eval n fc)
  refine .inl ⟨v, fun w' _ => by rw [haa]; exact hv w', ?_⟩
  rw [act_put]
  refine hk.out ?_ w S (put fc o.dst v) Sg ⟨hs.env.put o.dst hr, hs.ev, hs.sub⟩ hh
  cases m with
  | last ex => obtain ⟨h1, h2, h3⟩ := hok; exact ⟨h1, .inr h3⟩
  | _ => trivial
theorem a_bin (hT : TOk P L) {op : BinOp} {t yt : TypeId} {x y : Operand} {p q : Value} {h1 h2 : Nat} (r : Value) (h : machA L n fuel s f σ [] = ⟨.op m κ all dec o al rest, f', σ', ob⟩) (hob : ob.map (·.1) = ob.map (·.2)) (ho : o.op = .binOp op t x y yt) (hop : op.ctorIdx ≠ BinOp.eql.ctorIdx ∧ op.ctorIdx ≠ BinOp.neq.ctorIdx)
    (hx : evN n f' x = .v p h1) (hy : evN n f' y = .v q h2) (hr : ∀ w, (binOp op t p q).run P w = .ok r w) (hk : DenA c P n Q (.ops m κ all dec rest) (putA f' o.dst (.v r 0)) σ') : DenA c P n Q s f σ := by
  refine a_pure hT (.v r 0) h hob (fun M w fc he => ⟨r, fun w' => ?_, mk_v⟩) hk
  have h3 := he.evalN (n := n) x
  have h4 := he.evalN (n := n) y
  rw [hx] at h3
  rw [hy] at h4
  exact run_bin hop ho (rep_v h3) (rep_v h4) (hr w')
theorem bin_xor {t : TypeId} {k : IntKind} {a b : Int} (w : World) : (binOp .xor t (.int k a) (.int k b)).run P w = .ok (.int k (k.wrap (BitVec.ofInt k.bits a ^^^ BitVec.ofInt k.bits b).toNat)) w := by simp only [binOp, ne_eq, not_true_eq_false, if_false, Op.intBits]; rfl
theorem bin_and {t : TypeId} {k : IntKind} {a b : Int} (w : World) : (binOp .and t (.int k a) (.int k b)).run P w = .ok (.int k (k.wrap (BitVec.ofInt k.bits a &&& BitVec.ofInt k.bits b).toNat)) w := by simp only [binOp, ne_eq, not_true_eq_false, if_false, Op.intBits]; rfl
theorem bin_or {t : TypeId} {k : IntKind} {a b : Int} (w : World) : (binOp .or t (.int k a) (.int k b)).run P w = .ok (.int k (k.wrap (BitVec.ofInt k.bits a ||| BitVec.ofInt k.bits b).toNat)) w := by simp only [binOp, ne_eq, not_true_eq_false, if_false, Op.intBits]; rfl
theorem bin_shl {t : TypeId} {k k2 : IntKind} {a b : Int} (hb : 0 ≤ b) (w : World) : (binOp .shl t (.int k a) (.int k2 b)).run P w = .ok (.int k (k.wrap (a * 2 ^ (min b.toNat k.bits)))) w := by simp only [binOp, Op.shift, if_neg (show ¬ b < 0 by omega)]; rfl
theorem bin_shr {t : TypeId} {k k2 : IntKind} {a b : Int} (hb : 0 ≤ b) (w : World) : (binOp .shr t (.int k a) (.int k2 b)).run P w = .ok (.int k (a.fdiv (2 ^ (min b.toNat k.bits)))) w := by simp only [binOp, Op.shift, if_neg (show ¬ b < 0 by omega)]; rfl
theorem bin_cat {t : TypeId} {a b : ByteArray} (h : a.size + b.size ≤ 9223372036854775807) (w : World) : (binOp .add t (.string a) (.string b)).run P w = .ok (.string (a ++ b)) w := by
  have : ¬ ((a.size + b.size : Nat) : Int) > IntKind.i64.max := by simp only [IntKind.max, IntKind.bits, IntKind.signed]; omega
  simp only [binOp, Op.stringOp]
  rw [if_neg this]; rfl
def bldA (zs : List AV) (fs : List (Nat × Nat × Bool)) : List (Nat × AV) → Option (List AV)
  | [] => some zs
  | (i, a) :: l => match fs[i]?, cellsOf1 a with
    | some (off, size, _), some cs => match Nat.beq cs.length size && Nat.ble (off + cs.length) zs.length with
      | true => bldA (setA zs off cs) fs l
      | false => none
    | _, _ => none
theorem bld_fold (off : Nat) (vs : List Value) (z : List Value) (h : off + vs.length ≤ z.length) : (vs.toArray.zipIdx.foldl (fun cs (x : Value × Nat) => cs.setIfInBounds (off + x.2) x.1) z.toArray) = (z.take off ++ vs ++ z.drop (off + vs.length)).toArray := by
  apply Array.ext_getElem?
  intro j
  have := foldl_set off vs 0 z.toArray (by simpa using h) j
  rw [← Array.foldl_toList, Array.toList_zipIdx, this]
  simp only [Nat.add_zero, List.getElem?_toArray]
  by_cases h1 : off ≤ j ∧ j < off + vs.length
  · rw [if_pos h1, List.append_assoc, List.getElem?_append_right (by simp; omega), List.getElem?_append_left (by simp; omega)]
    simp [show min off z.length = off by omega]
  · rw [if_neg h1]
    rcases Nat.lt_or_ge j off with h2 | h2
    · rw [List.append_assoc, List.getElem?_append_left (by simp; omega), List.getElem?_take_of_lt h2]
    · rw [List.append_assoc, List.getElem?_append_right (by simp; omega), List.getElem?_append_right (by simp; omega), List.getElem?_drop]
      congr 1
      simp
      omega
theorem bldA_rep {M : Nat → Prop} {w : World} {fs : List (Nat × Nat × Bool)} : ∀ {ps : List (Nat × AV)} {vs : List (Nat × Value)} {zs cs : List AV} {z : List Value}, bldA zs fs ps = some cs → Reps M w zs z → (∀ u ∈ z, u.oneCell' = true) → ps.map (·.1) = vs.map (·.1) → Reps M w (ps.map (·.2)) (vs.map (·.2)) →
    ∃ xs, V.bld z.toArray fs vs = some xs.toArray ∧ Reps M w cs xs ∧ ∀ u ∈ xs, u.oneCell' = true
  | [], vs, zs, cs, z, h, hz, h1, hi, hr => by
    simp [bldA] at h
    subst h
    simp at hi
    subst hi
    exact ⟨z, rfl, hz, h1⟩
  | (i, a) :: ps, [], zs, cs, z, h, hz, h1, hi, hr => by simp at hi
  | (i, a) :: ps, (j, v) :: vs, zs, cs, z, h, hz, h1, hi, hr => by
    simp only [List.map_cons, List.cons.injEq] at hi
    obtain ⟨rfl, hi⟩ := hi
    simp only [List.map_cons] at hr
    unfold Reps at hr
    obtain ⟨y, r, e, hra, hr⟩ := hr
    simp only [List.cons.injEq] at e
    obtain ⟨rfl, rfl⟩ := e
    unfold bldA at h
    split at h
    · rename_i off size ag cs' hf hc
      split at h
      · rename_i hb
        simp only [Bool.and_eq_true] at hb
        have hb1 := Nat.eq_of_beq_eq_true hb.1
        have hb2 := Nat.le_of_ble_eq_true hb.2
        obtain ⟨hrc, h1c⟩ := cellsOf1_rep hc hra
        have hlc := hrc.len
        have hlz := hz.len
        rw [setA_eq zs off cs' hb2] at h
        obtain ⟨xs, hx1, hx2, hx3⟩ := bldA_rep (z := z.take off ++ v.cells.toList ++ z.drop (off + v.cells.toList.length)) h (by rw [← hlc]; exact ((hz.take off).app hrc).app (hz.drop _)) (by
          intro u hu
          rw [List.mem_append, List.mem_append] at hu
          rcases hu with (hu | hu) | hu
          · exact h1 u (List.mem_of_mem_take hu)
          · exact h1c u hu
          · exact h1 u (List.mem_of_mem_drop hu)) hi hr
        refine ⟨xs, ?_, hx2, hx3⟩
        unfold V.bld at hx1 ⊢
        unfold Instr.fill
        simp only [hf, Option.map_some]
        rw [if_neg (by simp; simp at hlc; omega)]
        have := bld_fold off v.cells.toList z (by omega)
        simp only [Array.toArray_toList] at this
        rw [this]
        exact hx1
      · cases h
    · cases h
theorem a_build (hT : TOk P L) (hZ : ZOk P Z) {t : TypeId} {k : Nat} {fs : List (Nat × Nat × Bool)} {ps : Array (Nat × Operand)} {z : Value} {zs : List Value} (cs : List AV) (h : machA L n fuel s f σ [] = ⟨.op m κ all dec o al rest, f', σ', ob⟩) (hob : ob.map (·.1) = ob.map (·.2)) (ho : o.op = .build t ps) (ht : tl L t = .agg k fs) (hz : zt Z t = z :: zs)
    (hf : bldA (avs (z :: zs)) fs (ps.toList.map fun p => (p.1, evA n f' p.2)) = some cs) (hk : DenA c P n Q (.ops m κ all dec rest) (putA f' o.dst (.agg cs)) σ') : DenA c P n Q s f σ := by
  refine a_pure hT (.agg cs) h hob (fun M w fc he => ?_) hk
  obtain ⟨i, v, hi, hiz, hcs, h1⟩ := hZ.spec hz
  obtain ⟨Fs, inf, hu, hi', hm, hall, rfl⟩ := agg_fields hT ht
  have hrep : ∀ l : List (Nat × Operand), Reps M w (l.map fun p => evA n f' p.2) (l.map fun p => ev n fc p.2) := fun l => by
    induction l with
    | nil => exact Reps.nil
    | cons p l ih => exact Reps.cons (he.eval p.2) ih
  obtain ⟨xs, hx1, hx2, hx3⟩ := bldA_rep (M := M) (w := w) (vs := ps.toList.map fun p => (p.1, ev n fc p.2)) (z := z :: zs) hf (reps_vs _) (ones_spec h1) (by simp) (by rw [List.map_map, List.map_map]; exact hrep ps.toList)
  refine ⟨.agg xs.toArray, fun w' => ?_, by unfold Rep; exact ⟨xs, rfl, hx2, hx3⟩⟩
  have hmap : (Fs.mapM fun (f : Field) => (do pure (f.offset, ← sizeOf f.type) : Sem (Nat × Nat))).run P w' = .ok (Fs.map fun f => (f.offset, P.cellsOf f.type)) w' := by
    obtain ⟨Fs⟩ := Fs
    rw [List.mapM_toArray]
    have : ∀ l : List Field, (∀ f ∈ l, (P.info? f.type).isSome = true) → (l.mapM fun (f : Field) => (do pure (f.offset, ← sizeOf f.type) : Sem (Nat × Nat))).run P w' = .ok (l.map fun f => (f.offset, P.cellsOf f.type)) w' := by
      intro l
      induction l with
      | nil => intro _; simp
      | cons f l ih =>
        intro h
        have h1 := ih fun g hg => h g (by simp [hg])
        simp only [List.mapM_cons, Sem.run_bind, run_sizeOf' (h f (by simp)), Result.andThen_ok, Sem.run_pure] at h1 ⊢
        rw [h1]
        simp
    have := this Fs fun f hf => (hall f (by simpa using hf)).1
    simp only [Sem.run_map, Sem.run_bind, Sem.run_pure] at this ⊢
    rw [this]
    simp
  have hfill : Instr.fill (fun i => (Fs.map fun f => (f.offset, P.cellsOf f.type))[i]?) v.cells ((ps.map fun (i, x) => (i, ev n fc x)).toList) = some xs.toArray := by
    rw [← hx1]
    unfold V.bld
    congr 1
    · funext i
      rw [List.getElem?_map, Option.map_map, Array.getElem?_map, Array.getElem?_toList]
      rfl
    · rw [← hcs]
    · simp
  unfold execOp
  simp only [ho, Instr.build, Sem.run_bind, zeroValue, typeInfo, run_program, Result.andThen_ok, hi, hiz, Sem.run_pure, run_underlying hu, hmap]
  rw [hfill]
  rfl
theorem a_ix (hT : TOk P L) {t e : TypeId} {k hh : Nat} {x y : Operand} {es : List (List Dat)} {ki : IntKind} {i : Int} (d : List Dat) (h : machA L n fuel s f σ [] = ⟨.op m κ all dec o al rest, f', σ', ob⟩) (hob : ob.map (·.1) = ob.map (·.2)) (ho : o.op = .indexAddr t x y) (ht : tl L t = .sl e k)
    (hx : evA n f' x = .d (.sl k es)) (hy : evN n f' y = .v (.int ki i) hh) (h0 : 0 ≤ i) (hd : es[i.toNat]? = some d) (hk : DenA c P n Q (.ops m κ all dec rest) (putA f' o.dst (.d (.p d))) σ') : DenA c P n Q s f σ := by
  refine a_pure hT (.d (.p d)) h hob (fun M w fc he => ?_) hk
  obtain ⟨hu, hi, hm⟩ := sl_tl hT ht
  have h1 := he.eval (n := n) x
  have h2 := he.evalN (n := n) y
  rw [hx] at h1
  rw [hy] at h2
  unfold Rep at h1
  unfold DRep at h1
  obtain ⟨A, cap, e, hc, hlen, hr⟩ := h1
  have hlt := (List.getElem?_eq_some_iff.1 hd).1
  obtain ⟨ad, rfl, hM, hb, hS⟩ := hr (by intro e; rw [e] at hlt; simp at hlt)
  refine ⟨.pointer (some (ad.add (i.toNat * k))), fun w' => ?_, ?_⟩
  · simp [execOp, ho, Instr.indexAt, e, rep_v h2, asIntOf, underlying, hu, h0, show i < (es.length : Int) by omega, run_sizeOf' hi, hm]
  · unfold Rep
    unfold DRep
    refine ⟨_, rfl, by rwa [add_block], by rwa [add_block], LRep.mk fun j x hj => ?_⟩
    rw [Nat.zero_add, add_add]
    have := (SRep.flat.1 hS).get (i.toNat * k + j) x ?_
    · rwa [Nat.zero_add] at this
    ·
      have key : ∀ (es : List (List Dat)) (i : Nat), (∀ e ∈ es, e.length = k) → es[i]? = some d → es.flatten[i * k + j]? = some x := by
        intro es
        induction es with
        | nil => intro i _ h; simp at h
        | cons e es ih =>
          intro i hl h
          cases i with
          | zero =>
            simp at h
            subst h
            rw [List.flatten_cons, Nat.zero_mul, Nat.zero_add, List.getElem?_append_left (List.getElem?_eq_some_iff.1 hj).1]
            exact hj
          | succ i =>
            have he := hl e (by simp)
            rw [List.flatten_cons, List.getElem?_append_right (by rw [he, Nat.succ_mul]; omega), he]
            rw [show (i + 1) * k + j - k = i * k + j by rw [Nat.succ_mul]; omega]
            exact ih i (fun e' h' => hl e' (by simp [h'])) (by simpa using h)
      exact key es i.toNat hlen hd
theorem a_sx (hT : TOk P L) {t : TypeId} {hh h2 : Nat} {x y : Operand} {b : ByteArray} {ki : IntKind} {i : Int} (h : machA L n fuel s f σ [] = ⟨.op m κ all dec o al rest, f', σ', ob⟩) (hob : ob.map (·.1) = ob.map (·.2)) (ho : o.op = .index t x y) (ht : tl L t = .str)
    (hx : evN n f' x = .v (.string b) hh) (hy : evN n f' y = .v (.int ki i) h2) (h0 : 0 ≤ i) (h1 : i.toNat < b.size) (hk : DenA c P n Q (.ops m κ all dec rest) (putA f' o.dst (.v (.int .u8 b[i.toNat].toNat) 0)) σ') : DenA c P n Q s f σ := by
  refine a_pure hT _ h hob (fun M w fc he => ⟨.int .u8 b[i.toNat].toNat, fun w' => ?_, mk_v⟩) hk
  have h3 := he.evalN (n := n) x
  have h4 := he.evalN (n := n) y
  rw [hx] at h3
  rw [hy] at h4
  simp [execOp, ho, Instr.index, rep_v h3, rep_v h4, asIntOf, underlying, str_tl hT ht, h0, h1]
theorem a_sl (hT : TOk P L) {t e : TypeId} {k : Nat} {x : Operand} {lo hi : Option Operand} {es : List (List Dat)} (l r : Nat) (es' : List (List Dat)) (h : machA L n fuel s f σ [] = ⟨.op m κ all dec o al rest, f', σ', ob⟩) (hob : ob.map (·.1) = ob.map (·.2)) (ho : o.op = .slice t x lo hi none) (ht : tl L t = .sl e k) (hx : evA n f' x = .d (.sl k es))
    (hlo : match lo with | none => l = 0 | some y => ∃ (q : IntKind) (hh : Nat), evN n f' y = .v (.int q l) hh) (hhi : match hi with | none => r = es.length | some y => ∃ (q : IntKind) (hh : Nat), evN n f' y = .v (.int q r) hh) (h0 : l ≤ r) (h1 : r ≤ es.length)
    (hes : (es.drop l).take (r - l) = es') (hk : DenA c P n Q (.ops m κ all dec rest) (putA f' o.dst (.d (.sl k es'))) σ') : DenA c P n Q s f σ := by
  refine a_pure hT (.d (.sl k es')) h hob (fun M w fc he => ?_) hk
  subst hes
  obtain ⟨hu, hinf, hm⟩ := sl_tl hT ht
  have h3 := he.eval (n := n) x
  rw [hx] at h3
  unfold Rep at h3
  unfold DRep at h3
  obtain ⟨A, cap, hv, hc, hlen, hr⟩ := h3
  have hlo' : ∀ y, lo = some y → ∃ q : IntKind, ev n fc y = .int q l := fun y e => by
    subst e; obtain ⟨q, hh, e⟩ := hlo; have := he.evalN (n := n) y; rw [e] at this; exact ⟨q, rep_v this⟩
  have hhi' : ∀ y, hi = some y → ∃ q : IntKind, ev n fc y = .int q r := fun y e => by
    subst e; obtain ⟨q, hh, e⟩ := hhi; have := he.evalN (n := n) y; rw [e] at this; exact ⟨q, rep_v this⟩
  have hrc : r ≤ cap := by omega
  refine ⟨.slice (if cap = l then A else A.map (·.add (l * k))) (r - l) (cap - l), fun w' => ?_, ?_⟩
  · have hbd : (Instr.sliceBounds true es.length cap (lo.map (ev n fc)) (hi.map (ev n fc)) none).run P w' = .ok (l, r, cap) w' := by
      cases hi with
      | none =>
        simp at hhi; subst hhi
        cases lo with
        | none => simp at hlo; subst hlo; simp [Instr.sliceBounds]
        | some y => obtain ⟨q, hy⟩ := hlo' y rfl; simp [Instr.sliceBounds, hy, Instr.sliceBound, asIntOf, h0]
      | some z =>
        obtain ⟨q', hz⟩ := hhi' z rfl
        cases lo with
        | none => simp at hlo; subst hlo; simp [Instr.sliceBounds, hz, Instr.sliceBound, asIntOf, hrc]
        | some y => obtain ⟨q, hy⟩ := hlo' y rfl; simp [Instr.sliceBounds, hy, hz, Instr.sliceBound, asIntOf, h0, hrc]
    simp [execOp, ho, Instr.sliceAt, Instr.slice, hv, underlying, hu, hbd, run_sizeOf' hinf, hm]
  · unfold Rep
    unfold DRep
    have hl' : ((es.drop l).take (r - l)).length = r - l := by simp; omega
    refine ⟨_, cap - l, by rw [hl'], by rw [hl']; omega, fun e' he' => hlen e' (List.mem_of_mem_drop (List.mem_of_mem_take he')), fun hne => ?_⟩
    have hne' : es ≠ [] := by intro e; subst e; simp at hne
    obtain ⟨ad, rfl, hM, hb, hS⟩ := hr hne'
    have hlt : l < r := by
      rcases Nat.lt_or_ge l r with h | h
      · exact h
      · exfalso; apply hne; rw [show r - l = 0 by omega]; simp
    refine ⟨ad.add (l * k), by rw [if_neg (by omega)]; rfl, by rwa [add_block], by rwa [add_block], SRep.flat.2 (LRep.mk fun j d hj => ?_)⟩
    rw [Nat.zero_add, add_add]
    have hf := SRep.flat.1 hS
    have key : ∀ (es : List (List Dat)) (l : Nat), (∀ e ∈ es, e.length = k) → l ≤ es.length → es.flatten.drop (l * k) = (es.drop l).flatten := by
      intro es
      induction es with
      | nil => intro l _ _; simp
      | cons e es ih =>
        intro l hl hle
        cases l with
        | zero => simp
        | succ l =>
          have he := hl e (by simp)
          rw [List.flatten_cons, List.drop_append, he, show (l + 1) * k - k = l * k by rw [Nat.succ_mul]; omega, ih l (fun e' h' => hl e' (by simp [h'])) (by simpa using hle), List.drop_eq_nil_of_le (by rw [he, Nat.succ_mul]; omega)]
          simp
    have pre : ∀ (es : List (List Dat)) (m : Nat) (j : Nat) (d : Dat), (es.take m).flatten[j]? = some d → es.flatten[j]? = some d := by
      intro es m j d hj
      have : es.flatten = (es.take m).flatten ++ (es.drop m).flatten := by rw [← List.flatten_append, List.take_append_drop]
      rw [this, List.getElem?_append_left (List.getElem?_eq_some_iff.1 hj).1]
      exact hj
    have := hf.get (l * k + j) d (by rw [← List.getElem?_drop, key es l hlen (by omega)]; exact pre _ _ _ _ hj)
    rwa [Nat.zero_add] at this
theorem a_ssl (hT : TOk P L) {t : TypeId} {hh : Nat} {x : Operand} {lo hi : Option Operand} {b : ByteArray} (l r : Nat) (b' : ByteArray) (h : machA L n fuel s f σ [] = ⟨.op m κ all dec o al rest, f', σ', ob⟩) (hob : ob.map (·.1) = ob.map (·.2)) (ho : o.op = .slice t x lo hi none) (ht : tl L t = .str) (hx : evN n f' x = .v (.string b) hh)
    (hlo : match lo with | none => l = 0 | some y => ∃ (q : IntKind) (hh : Nat), evN n f' y = .v (.int q l) hh) (hhi : match hi with | none => r = b.size | some y => ∃ (q : IntKind) (hh : Nat), evN n f' y = .v (.int q r) hh) (h0 : l ≤ r) (h1 : r ≤ b.size)
    (hes : b.extract l r = b') (hk : DenA c P n Q (.ops m κ all dec rest) (putA f' o.dst (.v (.string b') 0)) σ') : DenA c P n Q s f σ := by
  refine a_pure hT _ h hob (fun M w fc he => ⟨.string b', fun w' => ?_, mk_v⟩) hk
  subst hes
  have h3 := he.evalN (n := n) x
  rw [hx] at h3
  have hlo' : ∀ y, lo = some y → ∃ q : IntKind, ev n fc y = .int q l := fun y e => by
    subst e; obtain ⟨q, hh, e⟩ := hlo; have := he.evalN (n := n) y; rw [e] at this; exact ⟨q, rep_v this⟩
  have hhi' : ∀ y, hi = some y → ∃ q : IntKind, ev n fc y = .int q r := fun y e => by
    subst e; obtain ⟨q, hh, e⟩ := hhi; have := he.evalN (n := n) y; rw [e] at this; exact ⟨q, rep_v this⟩
  have hbd : (Instr.sliceBounds false b.size b.size (lo.map (ev n fc)) (hi.map (ev n fc)) none).run P w' = .ok (l, r, b.size) w' := by
    cases hi with
    | none =>
      simp at hhi; subst hhi
      cases lo with
      | none => simp at hlo; subst hlo; simp [Instr.sliceBounds]
      | some y => obtain ⟨q, hy⟩ := hlo' y rfl; simp [Instr.sliceBounds, hy, Instr.sliceBound, asIntOf, h0]
    | some z =>
      obtain ⟨q', hz⟩ := hhi' z rfl
      cases lo with
      | none => simp at hlo; subst hlo; simp [Instr.sliceBounds, hz, Instr.sliceBound, asIntOf, h1]
      | some y => obtain ⟨q, hy⟩ := hlo' y rfl; simp [Instr.sliceBounds, hy, hz, Instr.sliceBound, asIntOf, h0, h1]
  simp [execOp, ho, Instr.sliceAt, Instr.slice, rep_v h3, underlying, str_tl hT ht, hbd]
end
end Go.Proofs.YtjcolfogmmjaoaaGreatDoor.A
end
