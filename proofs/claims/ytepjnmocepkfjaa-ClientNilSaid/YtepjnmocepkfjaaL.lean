/- From the row's own reading of the arguments to data, and back. It holds of any program. -/
import Derived.Test.YtepjnmocepkfjaaO
import GoSem.ClaimChange
import Derived.Carry
import Derived.ChangeShapes
import Derived.DataElems
import Derived.Carry
import Derived.ChangeOld
import Derived.SizedLaws
import Derived.ShutString
set_option linter.unusedVariables false
set_option linter.unusedSimpArgs false
namespace Go.Proofs.Ytepjnmocepkfjaa.V

theorem wrap64 {x : Int} (h1 : -9223372036854775808 ≤ x) (h2 : x ≤ 9223372036854775807) : IntKind.wrap .i64 x = x := by simp [IntKind.wrap, IntKind.bits, IntKind.signed]; omega
theorem next64 {i : Nat} (h : i < 4611686018427387904) : IntKind.wrap .i64 ((i : Int) + 1) = ((i + 1 : Nat) : Int) := by rw [wrap64 (by omega) (by omega)]; rfl
theorem wrapU64 {x : Int} (h1 : 0 ≤ x) (h2 : x < 18446744073709551616) : IntKind.wrap .u64 x = x := by simp [IntKind.wrap, IntKind.bits, IntKind.signed]; omega

inductive Ty where
  | int (k : IntKind)
  | bool
  | str
  | sl (es : List Ty)
mutual
/-- A datum of that type. -/
def HasTy : Ty → Dat → Prop
  | .int k, d => ∃ m, d = .v (.int k m) ∧ (Lit.int k m).wf = true
  | .bool, d => ∃ b, d = .v (.bool b)
  | .str, d => ∃ s : ByteArray, d = .v (.string s) ∧ s.size ≤ reachBytes
  | .sl es, d => ∃ xs : List (List Dat), d = .sl es.length xs.flatten ∧ xs.length ≤ reachBytes ∧ AllTy es xs
def HasTys : List Ty → List Dat → Prop
  | [], ds => ds = []
  | t :: ts, ds => ∃ d r, ds = d :: r ∧ HasTy t d ∧ HasTys ts r
/-- Each element. -/
def AllTy (es : List Ty) : List (List Dat) → Prop
  | [] => True
  | x :: xs => HasTys es x ∧ AllTy es xs
end
theorem HasTys.len : ∀ {ts : List Ty} {ds : List Dat}, HasTys ts ds → ds.length = ts.length
  | [], ds, h => by unfold HasTys at h; simp [h]
  | t :: ts, ds, h => by unfold HasTys at h; obtain ⟨d, r, rfl, _, h⟩ := h; simp [h.len]
theorem HasTys.app : ∀ {ts ts' : List Ty} {ds ds' : List Dat}, HasTys ts ds → HasTys ts' ds' → HasTys (ts ++ ts') (ds ++ ds')
  | [], ts', ds, ds', h, h' => by unfold HasTys at h; subst h; simpa using h'
  | t :: ts, ts', ds, ds', h, h' => by
    unfold HasTys at h
    obtain ⟨d, r, rfl, h1, h2⟩ := h
    simp only [List.cons_append]
    unfold HasTys
    exact ⟨d, _, rfl, h1, h2.app h'⟩
theorem AllTy.all : ∀ {es : List Ty} {xs : List (List Dat)}, AllTy es xs → ∀ x ∈ xs, HasTys es x
  | es, [], _, x, h => by simp at h
  | es, y :: ys, h, x, hx => by
    unfold AllTy at h
    rcases List.mem_cons.1 hx with rfl | hx
    · exact h.1
    · exact h.2.all x hx
theorem AllTy.mk : ∀ {es : List Ty} {xs : List (List Dat)}, (∀ x ∈ xs, HasTys es x) → AllTy es xs
  | es, [], _ => by unfold AllTy; trivial
  | es, y :: ys, h => by unfold AllTy; exact ⟨h y (by simp), AllTy.mk fun x hx => h x (by simp [hx])⟩

def tysF (P : Program) (rec_ : TypeId → Option (List Ty)) : Nat → List Field → Option (List Ty)
  | _, [] => some []
  | off, f :: fs => if f.offset = off then (rec_ f.type).bind fun a => if a.length = P.cellsOf f.type then (tysF P rec_ (off + a.length) fs).map (a ++ ·) else none else none
def tysOf (P : Program) : Nat → TypeId → Option (List Ty)
  | 0, _ => none
  | g + 1, t => match P.underlying t with
    | some .bool => some [.bool]
    | some (.int k) => some [.int k]
    | some .string => some [.str]
    | some (.slice e) => (tysOf P g e).bind fun es => if es.length = P.cellsOf e ∧ 0 < P.bytesOf e then some [.sl es] else none
    | some (.struct fs) => (tysF P (tysOf P g) 0 fs.toList).bind fun l => if l.length = P.cellsOf t then some l else none
    | _ => none

theorem mapM_some {α β : Type} {g : α → Option β} : ∀ {l : List α} {ys : List β}, l.mapM g = some ys → ys.length = l.length ∧ ∀ (i : Nat) x, l[i]? = some x → ∃ y, ys[i]? = some y ∧ g x = some y
  | [], ys, h => by simp at h; subst h; simp
  | x :: l, ys, h => by
    rw [List.mapM_cons] at h
    cases hx : g x with
    | none => simp [hx] at h
    | some y =>
      cases hl : l.mapM g with
      | none => simp [hx, hl] at h
      | some zs =>
        simp [hx, hl] at h
        subst h
        obtain ⟨h1, h2⟩ := mapM_some hl
        refine ⟨by simp [h1], fun i z hi => ?_⟩
        cases i with
        | zero => simp at hi; subst hi; exact ⟨y, rfl, hx⟩
        | succ i => simpa using h2 i z (by simpa using hi)

theorem cells_some {w : World} {base : Nat} {a : Addr} {m : Nat} {cs : List Value} (h : w.cells? base a m = some cs) : cs.length = m ∧ Cells w a cs := by
  unfold World.cells? at h
  split at h
  · obtain ⟨h1, h2⟩ := mapM_some h
    simp at h1
    refine ⟨h1, fun i v hi => ?_⟩
    have hlt : i < m := by
      have := (List.getElem?_eq_some_iff.1 hi).1
      omega
    obtain ⟨y, hy, hc⟩ := h2 i i (by simp [List.getElem?_range, hlt])
    rw [hi] at hy
    cases hy
    exact hc
  · cases h

theorem LRep.app {M : Nat → Prop} {w : World} {ad : Addr} : ∀ {ds ds' : List Dat} {i : Nat}, LRep M w ds ad i → LRep M w ds' ad (i + ds.length) → LRep M w (ds ++ ds') ad i
  | [], ds', i, _, h => by simpa using h
  | d :: ds, ds', i, h, h' => by
    unfold LRep at h
    simp only [List.cons_append]
    unfold LRep
    exact ⟨h.1, h.2.app (by simpa [Nat.add_assoc, Nat.add_comm 1] using h')⟩
theorem VRep.toL {M : Nat → Prop} {w : World} {ad : Addr} : ∀ {ds : List Dat} {cs : List Value} (i : Nat), VRep M w ds cs → Cells w (ad.add i) cs → LRep M w ds ad i
  | [], cs, i, h, hc => by unfold LRep; trivial
  | d :: ds, cs, i, h, hc => by
    unfold VRep at h
    obtain ⟨x, r, rfl, h1, h2⟩ := h
    unfold LRep
    refine ⟨⟨x, by have := hc 0 x rfl; rwa [Addr.add_add, Nat.add_zero] at this, h1⟩, h2.toL (i + 1) fun j v hj => ?_⟩
    have := hc (j + 1) v (by simpa using hj)
    simpa [Addr.add_add, Nat.add_assoc, Nat.add_comm 1] using this

section
variable {H : Type} {enc : TypeId × Value → H} {P : Program} {w : World} {sp : Nat → Bool}
theorem fields_arep {fuel g : Nat} (ih : ∀ t cs d ps tys, DataW.trod enc P w 0 sp true fuel t cs = some (d, ps) → (∀ x ∈ d.weights P t, x ≤ reachBytes) → tysOf P g t = some tys → ∃ ds, VRep no w ds cs ∧ HasTys tys ds) :
    ∀ (fs : List Field) (off : Nat) (cs : List Value) (l : List Ty) (xs : List (DataW H × List MemPlace)), tysF P (tysOf P g) off fs = some l → cs.length = off + l.length →
      (fs.mapM fun f => DataW.trod enc P w 0 sp true fuel f.type ((cs.drop f.offset).take (P.cellsOf f.type))) = some xs → (∀ x ∈ DataW.weightsEach P (fs.map (·.type)) (xs.map (·.1)), x ≤ reachBytes) → ∃ ds, VRep no w ds (cs.drop off) ∧ HasTys l ds
  | [], off, cs, l, xs, hl, hc, _, _ => by
    simp [tysF] at hl
    subst hl
    simp at hc
    exact ⟨[], by unfold VRep; exact List.drop_eq_nil_of_le (by omega), by unfold HasTys; rfl⟩
  | f :: fs, off, cs, l, xs, hl, hc, hm, hwt => by
    unfold tysF at hl
    split at hl
    · rename_i hoff
      cases ha : tysOf P g f.type with
      | none => simp [ha] at hl
      | some a =>
        simp only [ha, Option.bind_some] at hl
        split at hl
        · rename_i hal
          cases hr : tysF P (tysOf P g) (off + a.length) fs with
          | none => simp [hr] at hl
          | some r =>
            simp [hr] at hl
            subst hl
            rw [List.mapM_cons] at hm
            cases hf : DataW.trod enc P w 0 sp true fuel f.type ((cs.drop f.offset).take (P.cellsOf f.type)) with
            | none => simp [hf] at hm
            | some y =>
              cases hms : (fs.mapM fun f => DataW.trod enc P w 0 sp true fuel f.type ((cs.drop f.offset).take (P.cellsOf f.type))) with
              | none => simp [hf, hms] at hm
              | some ys =>
                have hxs : xs = y :: ys := by simpa [hf, hms] using hm.symm
                subst hxs
                simp only [List.map_cons, DataW.weightsEach, List.mem_append] at hwt
                obtain ⟨d1, h1, h2⟩ := ih _ _ y.1 y.2 a hf (fun x hx => hwt x (.inl hx)) ha
                obtain ⟨d2, h3, h4⟩ := fields_arep ih fs (off + a.length) cs r ys hr (by simp at hc; omega) hms (fun x hx => hwt x (.inr hx))
                refine ⟨d1 ++ d2, ?_, h2.app h4⟩
                have : cs.drop off = (cs.drop f.offset).take (P.cellsOf f.type) ++ cs.drop (off + a.length) := by
                  rw [hoff, ← hal, ← List.drop_drop, List.take_append_drop]
                rw [this]
                exact h1.app h3
        · cases hl
    · cases hl

theorem trod_arep : ∀ (fuel g : Nat) (t : TypeId) (cs : List Value) (d : DataW H) (ps : List MemPlace) (tys : List Ty), DataW.trod enc P w 0 sp true fuel t cs = some (d, ps) → (∀ x ∈ d.weights P t, x ≤ reachBytes) → tysOf P g t = some tys → ∃ ds, VRep no w ds cs ∧ HasTys tys ds
  | 0, g, t, cs, d, ps, tys, h, hw, ht => by simp [DataW.trod] at h
  | fuel + 1, 0, t, cs, d, ps, tys, h, hw, ht => by simp [tysOf] at ht
  | fuel + 1, g + 1, t, cs, d, ps, tys, h, hw, ht => by
    unfold tysOf at ht
    unfold DataW.trod at h
    split at ht
    · -- bool
      rename_i hu
      simp only [hu] at h
      cases ht
      split at h <;> simp_all
      exact ⟨_, VRep.nil.cons (ARep.mkVal rfl), by unfold HasTys HasTys; exact ⟨_, _, rfl, by unfold HasTy; exact ⟨_, rfl⟩, rfl⟩⟩
    · rename_i hu
      simp only [hu] at h
      cases ht
      split at h <;> simp_all
      exact ⟨_, VRep.nil.cons (ARep.mkVal rfl), by unfold HasTys HasTys; exact ⟨_, _, rfl, by unfold HasTy; exact ⟨_, rfl, h.1.2⟩, rfl⟩⟩
    · rename_i hu
      simp only [hu] at h
      cases ht
      split at h <;> simp_all
      exact ⟨_, VRep.nil.cons (ARep.mkVal rfl), by unfold HasTys HasTys; exact ⟨_, _, rfl, by unfold HasTy; exact ⟨_, rfl, by
        have := hw
        rw [← h.2.1] at this
        simpa [DataW.weights] using this⟩, rfl⟩⟩
    · rename_i e hu
      simp only [hu] at h
      cases he : tysOf P g e with
      | none => simp [he] at ht
      | some es =>
        simp only [he, Option.bind_some] at ht
        split at ht
        · rename_i hel
          obtain ⟨hel, hby⟩ := hel
          cases ht
          split at h <;> simp_all
          · refine ⟨_, VRep.nil.cons (ARep.mkSlice (k := es.length) (ds := []) (by simp) (by simp) (by simp)), ?_⟩
            unfold HasTys HasTys
            exact ⟨_, _, rfl, by unfold HasTy; exact ⟨[], rfl, by simp, by unfold AllTy; trivial⟩, rfl⟩
          · rename_i e2 a len cap heq
            subst heq
            obtain ⟨⟨h1, h2⟩, h3⟩ := h
            cases hm : ((List.range len).mapM fun i => (w.cells? 0 (a.add (i * P.cellsOf e)) (P.cellsOf e)).bind (DataW.trod enc P w 0 sp true fuel e)) with
            | none => simp [hm] at h3
            | some els =>
              obtain ⟨hn, hall⟩ := mapM_some hm
              simp at hn
              rw [hm] at h3
              simp only [Option.bind_some, Option.map_eq_some_iff] at h3
              obtain ⟨rest, _, h3⟩ := h3
              have hd : d = DataW.slice (els.map (·.1)) (rest.map (·.1)) := by injection h3 with h3 _; exact h3.symm
              subst hd
              have hw1 : (els.length + rest.length) * P.bytesOf e ≤ reachBytes := hw _ (by simp [DataW.weights, hu])
              have hlr : len ≤ reachBytes := by
                have := Nat.le_mul_of_pos_right (els.length + rest.length) hby
                omega
              have hwa : ∀ (ys : List (DataW H × List MemPlace)), (∀ x ∈ DataW.weightsAll P e (ys.map (·.1)), x ≤ reachBytes) → ∀ y ∈ ys, ∀ x ∈ y.1.weights P e, x ≤ reachBytes := by
                intro ys
                induction ys with
                | nil => intro _ y hy; simp at hy
                | cons z zs ih =>
                  intro hz y hy x hx
                  simp only [List.map_cons, DataW.weightsAll, List.mem_append] at hz
                  rcases List.mem_cons.1 hy with rfl | hy
                  · exact hz x (.inl hx)
                  · exact ih (fun x hx => hz x (.inr hx)) y hy x hx
              have hwe := hwa els fun x hx => hw x (by simp [DataW.weights, hu, hx])
              have key : ∀ n, n ≤ len → ∃ xs : List (List Dat), xs.length = n ∧ AllTy es xs ∧ xs.flatten.length = n * es.length ∧ LRep no w xs.flatten a 0 := by
                intro n
                induction n with
                | zero => exact fun _ => ⟨[], rfl, by unfold AllTy; trivial, by simp, by simp [LRep]⟩
                | succ n ihn =>
                  intro hle
                  obtain ⟨xs, k1, k2, k3, k4⟩ := ihn (by omega)
                  obtain ⟨y, hyn, hy⟩ := hall n n (List.getElem?_range (by omega))
                  cases hc : w.cells? 0 (a.add (n * P.cellsOf e)) (P.cellsOf e) with
                  | none => simp [hc] at hy
                  | some cs' =>
                    simp only [hc, Option.bind_some] at hy
                    obtain ⟨ds, d1, d2⟩ := trod_arep fuel g e cs' y.1 y.2 es hy (hwe y (List.mem_of_getElem? hyn)) he
                    obtain ⟨_, hcc⟩ := cells_some hc
                    refine ⟨xs ++ [ds], by simp [k1], AllTy.mk fun x hx => ?_, ?_, ?_⟩
                    · rcases List.mem_append.1 hx with hx | hx
                      · exact k2.all x hx
                      · simp at hx; subst hx; exact d2
                    · simp [k3, d2.len, Nat.succ_mul]
                    · simp only [List.flatten_append, List.flatten_cons, List.flatten_nil, List.append_nil]
                      exact k4.app (d1.toL _ (by rw [k3, Nat.zero_add, hel]; exact hcc))
              obtain ⟨xs, k1, k2, k3, k4⟩ := key len (Nat.le_refl _)
              refine ⟨[.sl es.length xs.flatten], VRep.nil.cons (ARep.mkSlice (by rw [k3]) h1 fun _ => ⟨a, rfl, id, fun j hj => by simpa using k4.get j hj⟩), ?_⟩
              unfold HasTys HasTys
              exact ⟨_, _, rfl, by unfold HasTy; exact ⟨xs, rfl, by omega, k2⟩, rfl⟩
        · cases ht
    · rename_i fs hu
      simp only [hu] at h
      cases hf : tysF P (tysOf P g) 0 fs.toList with
      | none => simp [hf] at ht
      | some l =>
        simp only [hf, Option.bind_some] at ht
        split at ht
        · rename_i hl
          cases ht
          split at h <;> try simp_all
          rename_i hlen
          obtain ⟨xs, hxs, hd, _⟩ := h
          have := fields_arep (fun t cs d ps tys => trod_arep fuel g t cs d ps tys) fs.toList 0 cs tys xs hf (by omega) hxs (fun x hx => hw x (by rw [← hd]; simpa [DataW.weights, hu] using hx))
          simpa using this
        · cases ht
    · cases ht
end

/-! ### Data of the common types -/
theorem HasTys.cons {t : Ty} {ts : List Ty} {ds : List Dat} (h : HasTys (t :: ts) ds) : ∃ d r, ds = d :: r ∧ HasTy t d ∧ HasTys ts r := by unfold HasTys at h; exact h
theorem HasTys.nil {ds : List Dat} (h : HasTys [] ds) : ds = [] := by unfold HasTys at h; exact h
theorem HasTy.int {k : IntKind} {d : Dat} (h : HasTy (.int k) d) : ∃ m, d = .v (.int k m) ∧ k.min ≤ m ∧ m ≤ k.max := by
  unfold HasTy at h
  obtain ⟨m, e, h⟩ := h
  simp only [Lit.wf, Bool.and_eq_true, decide_eq_true_eq] at h
  exact ⟨m, e, h⟩
theorem HasTy.i64 {d : Dat} (h : HasTy (.int .i64) d) : ∃ m : Int, d = .v (.int .i64 m) ∧ -9223372036854775808 ≤ m ∧ m ≤ 9223372036854775807 := by
  obtain ⟨m, e, h1, h2⟩ := h.int
  exact ⟨m, e, by simpa [IntKind.min, IntKind.bits, IntKind.signed] using h1, by simpa [IntKind.max, IntKind.bits, IntKind.signed] using h2⟩
theorem HasTy.u64 {d : Dat} (h : HasTy (.int .u64) d) : ∃ m : Nat, d = .v (.int .u64 m) ∧ m < 18446744073709551616 := by
  obtain ⟨m, e, h1, h2⟩ := h.int
  have h1 : 0 ≤ m := by simpa [IntKind.min, IntKind.bits, IntKind.signed] using h1
  have h2 : m ≤ 18446744073709551615 := by simpa [IntKind.max, IntKind.bits, IntKind.signed] using h2
  exact ⟨m.toNat, by rw [e, Int.toNat_of_nonneg h1], by omega⟩
theorem HasTy.u8 {d : Dat} (h : HasTy (.int .u8) d) : ∃ b : UInt8, d = byD b := by
  obtain ⟨m, e, h1, h2⟩ := h.int
  have h1 : 0 ≤ m := by simpa [IntKind.min, IntKind.bits, IntKind.signed] using h1
  have h2 : m ≤ 255 := by simpa [IntKind.max, IntKind.bits, IntKind.signed] using h2
  refine ⟨UInt8.ofNat m.toNat, ?_⟩
  rw [e]
  unfold byD byV
  rw [UInt8.toNat_ofNat']
  congr 2
  omega
theorem HasTy.bl {d : Dat} (h : HasTy .bool d) : ∃ b, d = .v (.bool b) := by unfold HasTy at h; exact h
theorem HasTy.str {d : Dat} (h : HasTy .str d) : ∃ b : ByteArray, d = .v (.string b) ∧ b.size ≤ reachBytes := by unfold HasTy at h; exact h
/-- A slice: its elements, each turned into what it stands for. -/
theorem HasTy.many {α : Type} {es : List Ty} {d : Dat} (h : HasTy (.sl es) d) (g : α → List Dat) (ok : α → Prop) (h1 : ∀ ds, HasTys es ds → ∃ x, ds = g x ∧ ok x) : ∃ l : List α, d = .sl es.length (l.flatMap g) ∧ l.length ≤ reachBytes ∧ ∀ x ∈ l, ok x := by
  unfold HasTy at h
  obtain ⟨xs, e, hl, ha⟩ := h
  have key : ∀ xs : List (List Dat), AllTy es xs → ∃ l : List α, xs.flatten = l.flatMap g ∧ l.length = xs.length ∧ ∀ x ∈ l, ok x := by
    intro xs
    induction xs with
    | nil => exact fun _ => ⟨[], rfl, rfl, fun x h => by simp at h⟩
    | cons x xs ih =>
      intro h
      unfold AllTy at h
      obtain ⟨l, h2, h3, h4⟩ := ih h.2
      obtain ⟨y, h5, h6⟩ := h1 x h.1
      exact ⟨y :: l, by simp [h2, h5], by simp [h3], fun z hz => by rcases List.mem_cons.1 hz with rfl | hz; exact h6; exact h4 z hz⟩
  obtain ⟨l, h2, h3, h4⟩ := key xs ha
  exact ⟨l, by rw [e, h2], by omega, h4⟩
theorem HasTy.bytes {d : Dat} (h : HasTy (.sl [.int .u8]) d) : ∃ l : List UInt8, d = bytesD l ∧ l.length ≤ reachBytes := by
  obtain ⟨l, e, h1, _⟩ := h.many (fun b : UInt8 => [byD b]) (fun _ => True) fun ds hd => by
    obtain ⟨d, r, rfl, h1, h2⟩ := hd.cons
    obtain ⟨b, rfl⟩ := h1.u8
    exact ⟨b, by rw [h2.nil], trivial⟩
  refine ⟨l, ?_, h1⟩
  rw [e, bytesD]
  simp [List.map_eq_flatMap]
theorem LRep.cut {M : Nat → Prop} {w : World} {ad : Addr} : ∀ {ds : List Dat} {i : Nat}, LRep M w ds ad i → ∃ cs, VRep M w ds cs ∧ Cells w (ad.add i) cs
  | [], i, _ => ⟨[], VRep.nil, fun j v h => by simp at h⟩
  | d :: ds, i, h => by
    unfold LRep at h
    obtain ⟨⟨x, h1, h2⟩, h⟩ := h
    obtain ⟨cs, h3, h4⟩ := h.cut
    refine ⟨x :: cs, h3.cons h2, fun j v hv => ?_⟩
    cases j with
    | zero => simp at hv; subst hv; rw [Addr.add_add]; exact h1
    | succ j =>
      have := h4 j v (by simpa using hv)
      simpa [Addr.add_add, Nat.add_assoc, Nat.add_comm 1] using this
theorem flatMap_get {α : Type} {g : α → List Dat} {k : Nat} (hg : ∀ x, (g x).length = k) : ∀ {l : List α} {i : Nat} {o : α}, l[i]? = some o → ∀ j, j < k → (l.flatMap g)[i * k + j]? = (g o)[j]?
  | x :: l, 0, o, h, j, hj => by
    simp at h
    subst h
    rw [List.flatMap_cons, Nat.zero_mul, Nat.zero_add, List.getElem?_append_left (by rw [hg]; exact hj)]
  | x :: l, i + 1, o, h, j, hj => by
    rw [List.flatMap_cons, List.getElem?_append_right (by rw [hg, Nat.succ_mul]; omega), hg, show (i + 1) * k + j - k = i * k + j by rw [Nat.succ_mul]; omega]
    exact flatMap_get hg (by simpa using h) j hj
theorem flatMap_len {α : Type} {g : α → List Dat} {k : Nat} (hg : ∀ x, (g x).length = k) : ∀ l : List α, (l.flatMap g).length = l.length * k
  | [] => by simp
  | x :: l => by rw [List.flatMap_cons, List.length_append, hg, flatMap_len hg l, List.length_cons, Nat.succ_mul]; omega
/-- A slice of elements of k cells each. -/
theorem many_get {α : Type} {g : α → List Dat} {k : Nat} {M : Nat → Prop} {w : World} {l : List α} {x : Value} (hg : ∀ x, (g x).length = k) (hk : 0 < k) (h : ARep M w (.sl k (l.flatMap g)) x) :
    ∃ A c, x = .slice A l.length c ∧ l.length ≤ c ∧ (l ≠ [] → ∃ ad, A = some ad ∧ ¬ M ad.block ∧ ∀ (i : Nat) (o : α), l[i]? = some o → ∃ cs, Cells w (ad.add (i * k)) cs ∧ VRep M w (g o) cs) := by
  obtain ⟨A, m, c, rfl, hl, hc, hr⟩ := h.slice
  rw [flatMap_len hg] at hl
  obtain rfl : l.length = m := Nat.eq_of_mul_eq_mul_right hk hl
  refine ⟨A, c, rfl, hc, fun hn => ?_⟩
  obtain ⟨ad, ha, hM, hL⟩ := hr (fun h => by
    have := flatMap_len hg l
    rw [h] at this
    rw [List.length_nil, eq_comm, Nat.mul_eq_zero] at this
    rcases this with h | h
    · exact hn (List.length_eq_zero_iff.1 h)
    · omega)
  refine ⟨ad, ha, hM, fun i o hi => ?_⟩
  obtain ⟨cs, h1, h2⟩ := LRep.cut (M := M) (w := w) (ad := ad) (ds := g o) (i := i * k) (LRep.mk fun j hj => by
    have hj' : j < k := by rw [← hg o]; exact hj
    have hget := flatMap_get hg hi j hj'
    rw [List.getElem?_eq_getElem hj] at hget
    obtain ⟨hb, he⟩ := List.getElem?_eq_some_iff.1 hget
    obtain ⟨y, hy, hd⟩ := hL (i * k + j) hb
    rw [he] at hd
    exact ⟨y, hy, hd⟩)
  exact ⟨cs, h2, h1⟩

/-! ### The frame of a law: from the walk to the row -/
def isStruct (P : Program) (t : TypeId) : Bool := match P.underlying t with | some (.struct _) => true | _ => false
/-- A struct is an aggregate; nothing else is. -/
def ArgForm (P : Program) (t : TypeId) (v : Value) : Prop := (isStruct P t = true → v = .agg v.cells) ∧ (isStruct P t = false → ∀ cs, v ≠ .agg cs)
/-- The arguments are data of those types. -/
def ArgsOk (P : Program) (w : World) : List TypeId → List (List Ty) → List Value → Prop
  | t :: ts, ty :: tys, v :: vs => (∃ ds, HasTys ty ds ∧ VRep no w ds v.cells.toList ∧ ArgForm P t v) ∧ ArgsOk P w ts tys vs
  | [], [], [] => True
  | _, _, _ => False
theorem argv_one {P : Program} {w : World} {t : TypeId} {ty : List Ty} {args : Array Value} (h : ArgsOk P w [t] [ty] args.toList) : ∃ v, args = #[v] ∧ ∃ ds, HasTys ty ds ∧ VRep no w ds v.cells.toList ∧ ArgForm P t v := by
  rcases args with ⟨l⟩
  match l, h with
  | [v], h => unfold ArgsOk at h; exact ⟨v, rfl, h.1⟩
  | _ :: _ :: _, h => unfold ArgsOk at h; exact absurd h.2 (by unfold ArgsOk; exact id)
  | [], h => unfold ArgsOk at h; exact h.elim
theorem args_cons {P : Program} {w : World} {t : TypeId} {ts : List TypeId} {ty : List Ty} {tys : List (List Ty)} {l : List Value} (h : ArgsOk P w (t :: ts) (ty :: tys) l) : ∃ v r, l = v :: r ∧ (∃ ds, HasTys ty ds ∧ VRep no w ds v.cells.toList ∧ ArgForm P t v) ∧ ArgsOk P w ts tys r := by
  match l, h with
  | v :: r, h => unfold ArgsOk at h; exact ⟨v, r, rfl, h.1, h.2⟩
  | [], h => unfold ArgsOk at h; exact h.elim
theorem args_nil {P : Program} {w : World} {l : List Value} (h : ArgsOk P w [] [] l) : l = [] := by
  match l, h with
  | [], _ => rfl
  | _ :: _, h => unfold ArgsOk at h; exact h.elim
theorem argv_two {P : Program} {w : World} {t t2 : TypeId} {ty ty2 : List Ty} {args : Array Value} (h : ArgsOk P w [t, t2] [ty, ty2] args.toList) : ∃ v v2, args = #[v, v2] ∧ (∃ ds, HasTys ty ds ∧ VRep no w ds v.cells.toList ∧ ArgForm P t v) ∧ ∃ ds, HasTys ty2 ds ∧ VRep no w ds v2.cells.toList ∧ ArgForm P t2 v2 := by
  obtain ⟨v, r, e, h1, h⟩ := args_cons h
  obtain ⟨v2, r2, rfl, h2, h⟩ := args_cons h
  obtain rfl := args_nil h
  exact ⟨v, v2, Array.ext' e, h1, h2⟩
theorem argv_three {P : Program} {w : World} {t t2 t3 : TypeId} {ty ty2 ty3 : List Ty} {args : Array Value} (h : ArgsOk P w [t, t2, t3] [ty, ty2, ty3] args.toList) : ∃ v v2 v3, args = #[v, v2, v3] ∧ (∃ ds, HasTys ty ds ∧ VRep no w ds v.cells.toList ∧ ArgForm P t v) ∧ (∃ ds, HasTys ty2 ds ∧ VRep no w ds v2.cells.toList ∧ ArgForm P t2 v2) ∧ ∃ ds, HasTys ty3 ds ∧ VRep no w ds v3.cells.toList ∧ ArgForm P t3 v3 := by
  obtain ⟨v, r, e, h1, h⟩ := args_cons h
  obtain ⟨v2, r2, rfl, h2, h⟩ := args_cons h
  obtain ⟨v3, r3, rfl, h3, h⟩ := args_cons h
  obtain rfl := args_nil h
  exact ⟨v, v2, v3, Array.ext' e, h1, h2, h3⟩
/-- One cell, one value. -/
theorem arg_cell {w : World} {ty : Ty} {v : Value} {p : Prop} (h : ∃ ds, HasTys [ty] ds ∧ VRep no w ds v.cells.toList ∧ p) : ∃ d x, HasTy ty d ∧ ARep no w d x ∧ v.cells.toList = [x] := by
  obtain ⟨ds, h1, h2, _⟩ := h
  obtain ⟨d, r, rfl, h3, h4⟩ := h1.cons
  obtain rfl := h4.nil
  unfold VRep at h2
  obtain ⟨x, r, e, h5, h6⟩ := h2
  unfold VRep at h6
  subst h6
  exact ⟨d, x, h3, h5, e⟩
theorem cells_inv {v x : Value} (h : v.cells.toList = [x]) (hs : ∀ cs, v ≠ .agg cs) : v = x := by
  cases v <;> first | (simp [Value.cells] at h; exact h) | exact absurd rfl (hs _)
/-- One cell, of a type that is no struct. -/
theorem arg_one {P : Program} {w : World} {t : TypeId} {ty : Ty} {v : Value} (h : ∃ ds, HasTys [ty] ds ∧ VRep no w ds v.cells.toList ∧ ArgForm P t v) (hs : isStruct P t = false) : ∃ d, HasTy ty d ∧ ARep no w d v := by
  have hw : ∀ cs, v ≠ .agg cs := by obtain ⟨_, _, _, hf⟩ := h; exact hf.2 hs
  obtain ⟨d, x, h1, h2, h3⟩ := arg_cell h
  rw [cells_inv h3 hw]
  exact ⟨d, h1, h2⟩
theorem arg_u8 {P : Program} {w : World} {t : TypeId} {v : Value} (h : ∃ ds, HasTys [.int .u8] ds ∧ VRep no w ds v.cells.toList ∧ ArgForm P t v) (hs : isStruct P t = false) : ∃ b : UInt8, v = byV b := by
  obtain ⟨d, h1, h2⟩ := arg_one h hs
  obtain ⟨b, rfl⟩ := h1.u8
  exact ⟨b, ARep.val (u := byV b) h2⟩
theorem arg_u64 {P : Program} {w : World} {t : TypeId} {v : Value} (h : ∃ ds, HasTys [.int .u64] ds ∧ VRep no w ds v.cells.toList ∧ ArgForm P t v) (hs : isStruct P t = false) : ∃ m : Nat, v = .int .u64 m ∧ m < 18446744073709551616 := by
  obtain ⟨d, h1, h2⟩ := arg_one h hs
  obtain ⟨m, rfl, hm⟩ := h1.u64
  exact ⟨m, h2.val, hm⟩
theorem arg_i64 {P : Program} {w : World} {t : TypeId} {v : Value} (h : ∃ ds, HasTys [.int .i64] ds ∧ VRep no w ds v.cells.toList ∧ ArgForm P t v) (hs : isStruct P t = false) : ∃ m : Int, v = .int .i64 m ∧ -9223372036854775808 ≤ m ∧ m ≤ 9223372036854775807 := by
  obtain ⟨d, h1, h2⟩ := arg_one h hs
  obtain ⟨m, rfl, hm⟩ := h1.i64
  exact ⟨m, h2.val, hm⟩
theorem arg_bool {P : Program} {w : World} {t : TypeId} {v : Value} (h : ∃ ds, HasTys [.bool] ds ∧ VRep no w ds v.cells.toList ∧ ArgForm P t v) (hs : isStruct P t = false) : ∃ b, v = .bool b := by
  obtain ⟨d, h1, h2⟩ := arg_one h hs
  obtain ⟨m, rfl⟩ := h1.bl
  exact ⟨m, h2.val⟩
theorem arg_bytes {P : Program} {w : World} {t : TypeId} {v : Value} (h : ∃ ds, HasTys [.sl [.int .u8]] ds ∧ VRep no w ds v.cells.toList ∧ ArgForm P t v) (hs : isStruct P t = false) : ∃ l : List UInt8, ARep no w (bytesD l) v ∧ l.length ≤ reachBytes := by
  obtain ⟨d, h1, h2⟩ := arg_one h hs
  obtain ⟨l, rfl, hl⟩ := h1.bytes
  exact ⟨l, h2, hl⟩
theorem arg_many {α : Type} {P : Program} {w : World} {t : TypeId} {v : Value} {es : List Ty} (h : ∃ ds, HasTys [.sl es] ds ∧ VRep no w ds v.cells.toList ∧ ArgForm P t v) (hs : isStruct P t = false) (g : α → List Dat) (ok : α → Prop) (h1 : ∀ ds, HasTys es ds → ∃ x, ds = g x ∧ ok x) :
    ∃ l : List α, ARep no w (.sl es.length (l.flatMap g)) v ∧ l.length ≤ reachBytes ∧ ∀ x ∈ l, ok x := by
  obtain ⟨d, h2, h3⟩ := arg_one h hs
  obtain ⟨l, rfl, hl, hok⟩ := h2.many g ok h1
  exact ⟨l, h3, hl, hok⟩
def tysAll (P : Program) : List TypeId → Option (List (List Ty))
  | [] => some []
  | t :: ts => (tysOf P 12 t).bind fun a => (tysAll P ts).map (a :: ·)
section
open Go.ChangeShapes Go.RowKit
variable {H : Type} {enc : TypeId × Value → H} {P : Program}
theorem args_ok {W : World} {sp : Nat → Bool} {base : Nat} : ∀ {ts : List TypeId} {tys : List (List Ty)} {vs : List Value} {ds : List (DataW H)} {ps : List MemPlace}, DataW.TrodAll enc P W 0 sp true ts vs ds ps → tysAll P ts = some tys → (∀ x ∈ DataW.weightsEach P ts ds, x ≤ reachBytes) →
    (∀ (j : Nat) t v, ts[j]? = some t → vs[j]? = some v → Value.okWide P W .any base t v) → ArgsOk P W ts tys vs ∧ vs.length = ts.length ∧ ds.length = ts.length
  | [], tys, vs, ds, ps, h, ht, _, _ => by
    obtain ⟨rfl, rfl, rfl⟩ := trodAll_nil h
    simp [tysAll] at ht
    subst ht
    exact ⟨by unfold ArgsOk; trivial, rfl, rfl⟩
  | t :: ts, tys, vs, ds, ps, h, ht, hwt, hw => by
    obtain ⟨v, vs, d, ds, p, q, rfl, rfl, rfl, ⟨fuel, h0⟩, h1⟩ := trodAll_cons h
    unfold tysAll at ht
    cases ha : tysOf P 12 t with
    | none => simp [ha] at ht
    | some a =>
      cases hr : tysAll P ts with
      | none => simp [ha, hr] at ht
      | some r =>
        simp [ha, hr] at ht
        subst ht
        obtain ⟨k1, k2, k3⟩ := args_ok h1 hr (fun x hx => hwt x (by simp [DataW.weightsEach, hx])) fun j t v hj hv => hw (j + 1) t v (by simpa using hj) (by simpa using hv)
        obtain ⟨dd, d1, d2⟩ := trod_arep fuel 12 t _ d p a h0 (fun x hx => hwt x (by simp [DataW.weightsEach, hx])) ha
        refine ⟨?_, by simp [k2], by simp [k3]⟩
        unfold ArgsOk
        refine ⟨⟨dd, d2, d1, fun hs => ?_, fun hs cs hv => ?_⟩, k1⟩
        · have := hw 0 t v rfl rfl
          unfold Value.okWide at this
          unfold isStruct at hs
          split at this
          · obtain ⟨cs, rfl, _⟩ := this; rfl
          · obtain ⟨cs, rfl, _⟩ := this; rfl
          · rename_i hn1 _
            split at hs
            · exact absurd (by assumption) (hn1 _)
            · cases hs
        · have := hw 0 t v rfl rfl
          subst hv
          unfold isStruct at hs
          unfold Value.okWide at this
          unfold tysOf at ha
          split at ha
          · rename_i hu; simp [hu, Cell.okWide, Cell.ok] at this
          · rename_i hu; simp [hu, Cell.okWide, Cell.ok] at this
          · rename_i hu; simp [hu, Cell.okWide, Cell.ok] at this
          · rename_i hu; simp [hu, Cell.okWide, Cell.ok] at this
          · rename_i hu; simp [hu] at hs
          · cases ha
theorem args_same (hl : laidOutB P = true) {W W' : World} (hb : Below W.heap.size W W') : ∀ {ts : List TypeId} {vs : List Value} {ds : List (DataW H)} {ps : List MemPlace}, ts.all (fun t => P.readableRec t && decide (t < P.types.size)) = true →
    DataW.TrodAll enc P W 0 (fun _ => true) true ts vs ds ps → (∀ x ∈ ps, x.block < W.heap.size) → DataW.TrodAll enc P W' 0 (fun b => decide (b < W.heap.size)) true ts vs ds ps
  | [], vs, ds, ps, _, h, _ => by
    obtain ⟨rfl, rfl, rfl⟩ := trodAll_nil h
    unfold DataW.TrodAll; rfl
  | t :: ts, vs, ds, ps, ht, h, hlt => by
    obtain ⟨v, vs, d, ds, p, q, rfl, rfl, rfl, h0, h1⟩ := trodAll_cons h
    simp only [List.all_cons, Bool.and_eq_true, decide_eq_true_eq] at ht
    exact ⟨p, q, Below.trod hl ht.1.1 ht.1.2 h0 hb fun x hx => hlt x (by simp [hx]), args_same hl hb ht.2 h1 fun x hx => hlt x (by simp [hx]), rfl⟩

/-- What a law does: true, and no old block has turned. -/
def LawR (w : World) (e : Ending) (w' : World) : Prop := e = .returned (.bool true) ∧ Ev no w w'
theorem law_post {s : ChangeSpec} {fn : Func} {f : FuncId} {tys : List (List Ty)} {b : TypeId} (hl : laidOutB P = true) (hp : fn.params.toList.all (fun t => P.readableRec t && decide (t < P.types.size)) = true)
    (hty : tysAll P fn.params.toList = some tys) (hb : fn.resultTypes = #[b]) (hub : P.underlying b = some .bool) (hvars : s.vars = [])
    (hfn : ∀ ds : List (DataW H), ds.length = fn.params.toList.length → (s.fn H ds).results = [.lit (.bool true)] ∧ (s.fn H ds).args = ds ∧ (s.fn H ds).vars = [])
    (walk : ∀ W args, ArgsOk P W fn.params.toList tys args.toList → Calls P f args W (LawR W))
    (W : World) (base : Nat) (args : Array Value) (ds gs : List (DataW H)) (before : List MemPlace) (hval : ∀ (j : Nat) t v, fn.params[j]? = some t → args[j]? = some v → Value.okWide P W .any base t v)
    (hW : DataW.Whole enc P fn.params.toList s.vars false W args.toList ds gs before)
    (hsz : (DataW.weightsEach P (fn.params.toList ++ s.plain.varTypes P) (ds ++ gs)).all (· ≤ reachBytes) = true) (hvt : s.plain.varTypes P = []) :
    Calls P f args W fun e W' => ∃ v, e = .returned v ∧ s.post enc P fn false true false false W args v W' := by
  have hW' := hW
  obtain ⟨p, q, hA, hV, rfl, hfz, hnd⟩ := hW
  rw [hvars] at hV
  obtain ⟨rfl, rfl⟩ := trodVars_none hV
  obtain ⟨hargs, hn, hd⟩ := args_ok hA hty (by simpa [hvt] using hsz) fun j t v hj hv => hval j t v (by simpa using hj) (by simpa using hv)
  refine (walk W args hargs).mono fun e W' ⟨he, hev⟩ => ?_
  subst he
  obtain ⟨r1, r2, r3⟩ := hfn (ds ++ []) (by simpa using hd)
  refine ⟨_, rfl, ds, [], p ++ [], [], p, [], hW', ?_, ?_, ?_, hev.below.frame _, fun h => by cases h⟩
  · rw [r1, hb]
    exact trodAll_mk1 (shut_bool hub _)
  · rw [r2]
    simpa using args_same hl hev.below hp hA (DataW.TrodAll.lt hA)
  · rw [hvars, r3]
    unfold DataW.TrodVars; rfl
end
end Go.Proofs.Ytepjnmocepkfjaa.V
