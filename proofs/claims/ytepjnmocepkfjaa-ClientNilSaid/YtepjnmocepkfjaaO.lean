/- More operations: structs built, conversions of bytes and texts, a string's byte. They hold of any program. -/
import Derived.Test.YtepjnmocepkfjaaM
set_option linter.unusedVariables false
set_option linter.unusedSimpArgs false
namespace Go.Proofs.Ytepjnmocepkfjaa.V

section
variable {P : Program} {L : List TD} {n : Nat} {Q : Exit → Act → World → Prop} {s : MS} {f f' : Env} {w : World} {κ : List Kt} {all : Array Oper} {dec : List Nat} {o : Oper} {al : Bool} {rest : List (Oper × Bool)} {S : World → Prop} {ex : Ex}

def bld (z : Array Value) (fs : List (Nat × Nat × Bool)) (parts : List (Nat × Value)) : Option (Array Value) := Instr.fill (fun i => (fs[i]?).map fun q => (q.1, q.2.1)) z parts
/-- A struct is built. -/
theorem go_build (hT : TOk P L) {D : Dr} {t : TypeId} {m : Nat} {fs : List (Nat × Nat × Bool)} {ps : Array (Nat × Operand)} {z : Array Value} (cs : Array Value) (h : mach L n fuel s f = .op D κ all dec o al rest f') (ho : o.op = .build t ps) (ht : tl L t = .agg m fs) (hz : (P.info? t).map (·.zero) = some (some (.agg z)))
    (hf : bld z fs (ps.toList.map fun p => (p.1, ev n f' p.2)) = some cs) (hk : DenS P n Q (.ops D κ all dec rest) (put f' o.dst (.agg cs)) w) : DenS P n Q s f w := by
  have htd : tdOf P t = .agg m fs := by rcases hT t with e | e <;> rw [e] at ht; cases ht; exact ht
  obtain ⟨Fs, i, hu, hi, hm, hall, rfl⟩ := tdOf_agg htd
  have hiz : i.zero = some (.agg z) := by simpa [hi] using hz
  refine go hT h (den_val _ (fun w' _ => ?_) hk)
  have hmap : (Fs.mapM fun (f : Field) => (do pure (f.offset, ← sizeOf f.type) : Sem (Nat × Nat))).run P w' = .ok (Fs.map fun f => (f.offset, P.cellsOf f.type)) w' := by
    obtain ⟨Fs⟩ := Fs
    rw [List.mapM_toArray]
    have : ∀ l : List Field, (∀ f ∈ l, (P.info? f.type).isSome = true) → (l.mapM fun (f : Field) => (do pure (f.offset, ← sizeOf f.type) : Sem (Nat × Nat))).run P w' = .ok (l.map fun f => (f.offset, P.cellsOf f.type)) w' := by
      intro l
      induction l with
      | nil => intro _; simp
      | cons f l ih =>
        intro h
        have h1 := ih fun g hg => h g (by simp [hg])
        simp only [List.mapM_cons, Sem.run_bind, run_sizeOf' (h f (by simp)), Result.andThen_ok, Sem.run_pure] at h1 ⊢
        rw [h1]
        simp
    have := this Fs fun f hf => (hall f (by simpa using hf)).1
    simp only [Sem.run_map, Sem.run_bind, Sem.run_pure] at this ⊢
    rw [this]
    simp
  have hfill : Instr.fill (fun i => (Fs.map fun f => (f.offset, P.cellsOf f.type))[i]?) z ((ps.map fun (i, x) => (i, ev n f' x)).toList) = some cs := by
    rw [← hf]
    unfold bld
    congr 1
    · funext i
      rw [List.getElem?_map, Option.map_map, Array.getElem?_map, Array.getElem?_toList]
      rfl
    · simp
  unfold execOp
  simp only [ho, Instr.build, Sem.run_bind, zeroValue, typeInfo, run_program, Result.andThen_ok, hi, hiz, Sem.run_pure, run_underlying hu, hmap, Value.cells]
  rw [hfill]
  rfl

/-- The bytes of a text, as cells. -/
def byV (b : UInt8) : Value := .int .u8 b.toNat
def byD (b : UInt8) : Dat := .v (byV b)
def bytesD (l : List UInt8) : Dat := .sl 1 (l.map byD)
theorem oneCells {M : Nat → Prop} {w : World} {α : Type} (g : α → Value) (h1 : ∀ x, (g x).oneCell' = true) : ∀ l : List α, VRep M w (l.map fun x => .v (g x)) (l.map g)
  | [] => VRep.nil
  | x :: l => VRep.cons (ARep.mkVal (h1 x)) (oneCells g h1 l)
theorem bytes_cells {M : Nat → Prop} {w : World} {l : List UInt8} {x : Value} (h : ARep M w (bytesD l) x) :
    ∃ A c, x = .slice A l.length c ∧ l.length ≤ c ∧ (l ≠ [] → ∃ ad, A = some ad ∧ ¬ M ad.block ∧ Cells w ad (l.map byV)) := by
  obtain ⟨A, m, c, rfl, hl, hc, hr⟩ := h.slice
  simp at hl
  subst hl
  refine ⟨A, c, rfl, hc, fun hn => ?_⟩
  obtain ⟨ad, ha, hM, hL⟩ := hr (by simpa using hn)
  refine ⟨ad, ha, hM, fun j v hv => ?_⟩
  obtain ⟨hj, rfl⟩ := List.getElem?_eq_some_iff.1 hv
  obtain ⟨y, hy, hr⟩ := hL j (by simpa using hj)
  rw [hy]
  simp [byD] at hr
  rw [hr.val]
  simp

theorem run_pushes {P : Program} {w : World} (g : Value → ByteArray → Sem (ForInStep ByteArray)) (hg : ∀ (b : UInt8) (r : ByteArray), (g (byV b) r).run P w = .ok (.yield (r.push b)) w) : ∀ (l : List UInt8) (s : ByteArray),
    (forIn (m := Sem) (l.map byV) s g).run P w = .ok ⟨s.data ++ l.toArray⟩ w
  | [], s => by simp
  | b :: l, s => by
    simp only [List.map_cons, List.forIn_cons, Sem.run_bind, hg, Result.andThen_ok]
    rw [run_pushes g hg l]
    simp [ByteArray.push]
theorem run_toString {P : Program} {w : World} {src dst e : TypeId} {l : List UInt8} {x : Value} {M : Nat → Prop} (hs : P.underlying src = some (.slice e)) (he : P.underlying e = some (.int .u8)) (hd : P.underlying dst = some .string) (h : ARep M w (bytesD l) x) :
    (convert src dst x).run P w = .ok (.string ⟨l.toArray⟩) w := by
  obtain ⟨A, c, rfl, hc, hr⟩ := bytes_cells h
  have hconv : (convert src dst (.slice A l.length c)).run P w = (Conv.bytesToString (.slice A l.length c)).run P w := by
    simp [convert, underlying, hs, hd, he]
  rw [hconv]
  cases A with
  | none =>
    have : l = [] := by
      cases l with
      | nil => rfl
      | cons b l => obtain ⟨ad, h, _⟩ := hr (by simp); cases h
    subst this
    simp [Conv.bytesToString]
    rfl
  | some ad =>
    have hcells : Cells w ad (l.map byV) := by
      by_cases hne : l = []
      · subst hne; intro j v hv; simp at hv
      · obtain ⟨ad', e, _, h⟩ := hr hne; cases e; exact h
    have hl := run_loadCells_list (P := P) (w := w) ad (l.map byV) hcells
    simp only [List.length_map] at hl
    unfold Conv.bytesToString
    simp only [Sem.run_bind, hl, Result.andThen_ok, List.forIn_toArray]
    rw [run_pushes (P := P) (w := w) _ (fun b r => by simp [byV]) l .empty]
    simp [ByteArray.empty, ByteArray.emptyWithCapacity]
    rfl

theorem int_tl (hT : TOk P L) {t : TypeId} {k : IntKind} (ht : tl L t = .int k) : P.underlying t = some (.int k) := by
  rcases hT t with h | h
  · rw [h] at ht; cases ht
  · rw [h] at ht; exact tdOf_int ht
theorem str_tl (hT : TOk P L) {t : TypeId} (ht : tl L t = .str) : P.underlying t = some .string := by
  rcases hT t with h | h
  · rw [h] at ht; cases ht
  · rw [h] at ht; exact tdOf_str ht
/-- string(b). -/
theorem go_str (hT : TOk P L) {src dst e : TypeId} {x : Operand} {v : Value} {M : Nat → Prop} {l : List UInt8} (h : mach L n fuel s f = .op none κ all dec o al rest f') (ho : o.op = .convert src dst x) (hs : tl L src = .sl e 1) (he : tl L e = .int .u8) (hd : tl L dst = .str) (hx : ev n f' x = v)
    (hr : ARep M w (bytesD l) v) (hk : DenS P n Q (.ops none κ all dec rest) (put f' o.dst (.string ⟨l.toArray⟩)) w) : DenS P n Q s f w :=
  go hT h (den_val _ (fun w' e' => by
    cases e'
    unfold execOp
    simp only [ho, Sem.run_bind, Sem.run_pure, hx, run_toString (sl_tl hT hs).1 (int_tl hT he) (str_tl hT hd) hr, Result.andThen_ok]) hk)
theorem go_strS (hT : TOk P L) {src dst e : TypeId} {x : Operand} {v : Value} {M : Nat → Prop} {l : List UInt8} (h : mach L n fuel s f = .op (some (S, ex)) κ all dec o al rest f') (ho : o.op = .convert src dst x) (hs : tl L src = .sl e 1) (he : tl L e = .int .u8) (hd : tl L dst = .str) (hx : ev n f' x = v)
    (hr : ∀ w', S w' → ARep M w' (bytesD l) v) (hk : DenS P n Q (.ops (some (S, ex)) κ all dec rest) (put f' o.dst (.string ⟨l.toArray⟩)) w) : DenS P n Q s f w :=
  go hT h (den_val _ (fun w' e' => by
    unfold execOp
    simp only [ho, Sem.run_bind, Sem.run_pure, hx, run_toString (sl_tl hT hs).1 (int_tl hT he) (str_tl hT hd) (hr w' e'), Result.andThen_ok]) hk)

theorem cell_freeze (w : World) (a : Addr) (m : Nat) (b : Addr) : (w.freeze a m).cell? b = w.cell? b := by
  unfold World.freeze
  split
  · rfl
  · by_cases he : a.block = b.block
    · simp only [World.cell?, Array.getElem?_modify, he, if_true]
      cases w.heap[b.block]? with
      | none => rfl
      | some o => cases o <;> rfl
    · simp only [World.cell?, Array.getElem?_modify, he, if_false]
theorem Ev.freeze (w : World) (a : Addr) (m : Nat) : Ev (at1 a.block) w (w.freeze a m) := by
  unfold World.freeze
  split
  · exact Ev.refl _ _
  · refine ⟨rfl, rfl, rfl, by simp, fun b hb hn => ?_⟩
    simp only [Array.getElem?_modify]
    rw [if_neg (fun e => hn e.symm)]
/-- What is read goes by the cells alone. -/
theorem ARep.cells {M : Nat → Prop} {w w' : World} (hc : ∀ a, w'.cell? a = w.cell? a) {d : Dat} {x : Value} (h : ARep M w d x) : ARep M w' d x := by
  have key : ∀ (d : Dat) (x : Value), ARep M w d x → ARep M w' d x := by
    intro d
    refine Dat.rec (motive_1 := fun d => ∀ x, ARep M w d x → ARep M w' d x) (motive_2 := fun ds => (∀ ad i, LRep M w ds ad i → LRep M w' ds ad i) ∧ (∀ xs, VRep M w ds xs → VRep M w' ds xs)) ?_ ?_ ?_ ?_ ?_ d
    · intro u x h; unfold ARep at h ⊢; exact h
    · intro k ds ih x h
      unfold ARep at h ⊢
      obtain ⟨A, m, c, e, hl, hc, hr⟩ := h
      exact ⟨A, m, c, e, hl, hc, fun hn => let ⟨ad, ha, hM, hL⟩ := hr hn; ⟨ad, ha, hM, ih.1 _ _ hL⟩⟩
    · intro t ag ds ih x h
      unfold ARep at h ⊢
      obtain ⟨u, e, h1, h2, h3⟩ := h
      exact ⟨u, e, h1, h2, ih.2 _ h3⟩
    · exact ⟨fun ad i _ => by unfold LRep; trivial, fun xs h => by unfold VRep at h ⊢; exact h⟩
    · intro d ds ih1 ih2
      refine ⟨fun ad i h => ?_, fun xs h => ?_⟩
      · unfold LRep at h ⊢
        obtain ⟨⟨x, hx, hd⟩, h2⟩ := h
        exact ⟨⟨x, by rw [hc]; exact hx, ih1 x hd⟩, ih2.1 _ _ h2⟩
      · unfold VRep at h ⊢
        obtain ⟨x, r, e, hx, h2⟩ := h
        exact ⟨x, r, e, ih1 x hx, ih2.2 _ h2⟩
  exact key d x h
/-- A conversion of bytes to bytes: a mark is laid, what is read stays. -/
theorem go_mark (hT : TOk P L) {D : Dr} {src e : TypeId} {k : Nat} {x : Operand} {v : Value} {M : Nat → Prop} {d : Dat} (h : mach L n fuel s f = .op D κ all dec o true rest f') (ho : o.op = .convert src src x) (hs : tl L src = .sl e k) (he : tl L e = .int .u8) (hx : ev n f' x = v) (hv : ∃ a m c, v = .slice (some a) m c)
    (hr : ARep M w d v) (hk : ∀ w', Ev (ob v) w w' → ARep M w' d v → Keep D rest.isEmpty w' ∧ DenS P n Q (.ops D κ all dec rest) (put f' o.dst v) w') : DenS P n Q s f w := by
  obtain ⟨a, m, c, rfl⟩ := hv
  have h1 := (sl_tl hT hs).1
  have h2 := int_tl hT he
  have hrun : ∃ w', (convert src src (.slice (some a) m c)).run P w = .ok (.slice (some a) m c) w' ∧ Ev (at1 a.block) w w' ∧ ∀ b, w'.cell? b = w.cell? b := by
    unfold convert
    simp only [Sem.run_bind, run_underlying h1, Result.andThen_ok, run_underlying h2, beq_self_eq_true, markStringish, run_shape]
    cases hsh : w.shape? a.block with
    | none => exact ⟨w, by simp, Ev.refl _ _, fun _ => rfl⟩
    | some p =>
      obtain ⟨t, q⟩ := p
      exact ⟨_, by simp only [Sem.run_bind, run_freeze, Result.andThen_ok, Sem.run_pure], Ev.freeze w ⟨a.block, q, none⟩ 1, cell_freeze w _ _⟩
  obtain ⟨w', hrun, he, hc⟩ := hrun
  obtain ⟨hS, hn⟩ := hk w' (he.mono fun b _ hb => by simp only [at1] at hb; subst hb; rfl) (hr.cells hc)
  refine go hT h (den_new _ ?_ hS hn)
  unfold execOp
  simp only [ho, Sem.run_bind, Sem.run_pure, hx, hrun, Result.andThen_ok]
/-- []byte(s). -/
theorem go_bytes (hT : TOk P L) {D : Dr} {src dst e : TypeId} {x : Operand} {b : ByteArray} (h : mach L n fuel s f = .op D κ all dec o true rest f') (ho : o.op = .convert src dst x) (hs : tl L src = .str) (hd : tl L dst = .sl e 1) (he : tl L e = .int .u8) (hx : ev n f' x = .string b) (hb : b.size ≤ lim)
    (hk : ∀ u w', Ev no w w' → (∀ M : Nat → Prop, (∀ b, M b → b < w.heap.size) → ARep M w' (bytesD b.data.toList) u) → Keep D rest.isEmpty w' ∧ DenS P n Q (.ops D κ all dec rest) (put f' o.dst u) w') : DenS P n Q s f w := by
  have h1 := str_tl hT hs
  have h2 := (sl_tl hT hd).1
  have h3 := int_tl hT he
  unfold lim at hb
  obtain ⟨cap, hcap, hrun⟩ : ∃ cap, b.size ≤ cap ∧ (convert src dst (.string b)).run P w = .ok (.slice (some ⟨w.heap.size, 0, none⟩) b.size cap)
      ((w.drew.alloc (.cells ((b.data.map byV) ++ Array.replicate (cap - b.size) (.int .u8 0)) e)).freeze ⟨w.heap.size, ((b.data.map byV) ++ Array.replicate (cap - b.size) (Value.int .u8 0)).size, none⟩ 1) := by
    refine ⟨Question.cut (.appendCap b.size 0 e) (w.tape w.drawn (.appendCap b.size 0 e)), by simp [Question.cut], ?_⟩
    unfold convert
    simp only [Sem.run_bind, run_underlying h1, run_underlying h2, run_underlying h3, Result.andThen_ok, Conv.stringToBytes, run_choose, Question.forced, Bool.false_eq_true, if_false, newRow, run_newObj, Sem.run_pure, World.alloc_eq, World.drew_eq, markStringish, run_shape]
    have hsh : (w.drew.alloc (.cells ((b.data.map byV) ++ Array.replicate (Question.cut (.appendCap b.size 0 e) (w.tape w.drawn (.appendCap b.size 0 e)) - b.size) (.int .u8 0)) e)).shape? w.heap.size = some (e, ((b.data.map byV) ++ Array.replicate (Question.cut (.appendCap b.size 0 e) (w.tape w.drawn (.appendCap b.size 0 e)) - b.size) (Value.int .u8 0)).size) := by
      unfold World.shape?
      have := heap_alloc_new w.drew (.cells ((b.data.map byV) ++ Array.replicate (Question.cut (.appendCap b.size 0 e) (w.tape w.drawn (.appendCap b.size 0 e)) - b.size) (.int .u8 0)) e)
      rw [show w.drew.heap.size = w.heap.size from rfl] at this
      rw [this]
    have hsz : w.drew.heap.size = w.heap.size := rfl
    simp only [hsz]
    rw [show (b.data.map fun b => Value.int .u8 b.toNat) = b.data.map byV from rfl, hsh]
    rfl
  have hev : Ev no w ((w.drew.alloc (.cells ((b.data.map byV) ++ Array.replicate (cap - b.size) (.int .u8 0)) e)).freeze ⟨w.heap.size, ((b.data.map byV) ++ Array.replicate (cap - b.size) (Value.int .u8 0)).size, none⟩ 1) := by
    refine (((Ev.drew w).trans (Ev.alloc w.drew _)).then (Ev.freeze _ _ _) fun i hi h => ?_)
    simp only [at1] at h
    omega
  obtain ⟨hS, hn⟩ := hk (.slice (some ⟨w.heap.size, 0, none⟩) b.size cap) _ hev (fun M hM => by
    refine ARep.mkSlice (by simp) hcap fun hne => ⟨_, rfl, fun hm => Nat.lt_irrefl _ (hM _ hm), fun j hj => ?_⟩
    simp at hj
    refine ⟨byV b.data[j], ?_, ?_⟩
    · rw [cell_freeze, add_plain]
      have hd : w.heap.size = w.drew.heap.size := rfl
      rw [hd, World.cell?_alloc_new]
      rw [Array.getElem?_append_left (by simpa using hj)]
      simp [hj]
    · simp only [List.getElem_map, byD]
      exact ARep.mkVal rfl)
  refine go hT h (den_new _ ?_ hS hn)
  unfold execOp
  simp only [ho, Sem.run_bind, Sem.run_pure, hx, hrun, Result.andThen_ok]

end
end Go.Proofs.Ytepjnmocepkfjaa.V
