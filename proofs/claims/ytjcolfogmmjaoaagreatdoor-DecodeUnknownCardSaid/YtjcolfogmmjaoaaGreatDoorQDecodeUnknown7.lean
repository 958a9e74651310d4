import Derived.Test.YtjcolfogmmjaoaaGreatDoorQDecodeUnknown6
import Derived.Lib.Bytealg
import Derived.Test.YtjcolfogmmjaoaaGreatDoorQDecodeUnknown4
import Derived.Test.YtjcolfogmmjaoaaGreatDoorQDecodeUnknown5
section
set_option linter.unusedVariables false
set_option linter.unusedSimpArgs false
set_option maxRecDepth 100000
namespace Go.Proofs.YtjcolfogmmjaoaaGreatDoor.A
open V
def valK : AV → Option Value
  | .v x _ => some x
  | _ => none
section
variable {P : Program} {L : List TD} {n : Nat} {Q : Exit → Act → World → Prop} {c : Ctx}
variable {s : AMS} {f f' : AEnv} {σ σ' : Store} {κ : List Kt} {all : Array Oper} {dec : List Nat} {rest : List (Oper × Bool)} {m : Mode} {o : Oper} {al : Bool} {ob : Obs}
theorem a_ext (hT : TOk P L) {k : FuncId} {xs : Array Operand} {ts : Array TypeId} (args : List Value) (v : Value) (h : machA L n fuel s f σ [] = ⟨.op m κ all dec o true rest, f', σ', ob⟩) (hob : ob.map (·.1) = ob.map (·.2)) (ho : o.op = .call ⟨.value (.func k), xs, ts⟩)
    (ha : (xs.toList.map fun x => valK (evN n f' x)) = args.map some) (hr : ∀ w, (callFunc k args.toArray).run P w = .ok (.value v) w)
    (hk : DenA c P n Q (.ops (m.hap true) κ all dec rest) (putA f' o.dst (.v v 0)) σ') : DenA c P n Q s f σ := by
  refine a_eff hT (fun a σ1 => a = .v v 0 ∧ σ1 = σ') h hob (fun Y Su w fc hd hY hh he => ?_) (fun a σ1 ⟨ha, hs⟩ => by subst ha; subst hs; exact hk)
  have hval : ∀ (l : List Operand) (vs : List Value), (l.map fun x => valK (evN n f' x)) = vs.map some → l.map (ev n fc) = vs := by
    intro l
    induction l with
    | nil => intro vs h; cases vs with | nil => rfl | cons _ _ => simp at h
    | cons x l ih =>
      intro vs h
      cases vs with
      | nil => simp at h
      | cons u vs =>
        simp only [List.map_cons, List.cons.injEq] at h
        rw [List.map_cons, ih vs h.2]
        congr 1
        have h3 := he.evalN (n := n) x
        have h4 := h.1
        cases hx : evN n f' x <;> rw [hx] at h4 <;> simp [valK] at h4
        rw [hx] at h3
        rw [rep_v h3, h4]
  have hrun : (execOp (ev n fc) o).run P w = .ok (.value v) w := by
    have h1 : xs.map (ev n fc) = args.toArray := by
      have := hval xs.toList args ha
      rw [← this]
      obtain ⟨xs⟩ := xs
      simp
    simp [execOp, ho, resolve, invoke, ev, evK, Deferred.ofValue, hr, h1]
  rw [hrun]
  exact ⟨_, _, Su, ⟨rfl, rfl⟩, mk_v, hh, Ev.refl _ _, fun b hb => .inl hb⟩
end
end Go.Proofs.YtjcolfogmmjaoaaGreatDoor.A
end

section
set_option linter.unusedVariables false
set_option linter.unusedSimpArgs false
namespace Go.Proofs.YtjcolfogmmjaoaaGreatDoor.A
open V
def ShF (P : Program) (R : TypeId → List Dat → Prop) : List Field → List Dat → Prop
  | [], ds => ds = []
  | f :: fs, ds => ∃ a r, ds = a ++ r ∧ R f.type a ∧ ShF P R fs r
def ShT (P : Program) : Nat → TypeId → List Dat → Prop
  | 0, _, _ => False
  | g + 1, t, ds => match P.underlying t with
    | some .bool => ∃ b, ds = [.v (.bool b)]
    | some (.int k) => ∃ m, ds = [.v (.int k m)] ∧ (Lit.int k m).wf = true
    | some .string => ∃ b : ByteArray, ds = [.v (.string b)] ∧ b.size ≤ reachBytes
    | some (.slice e) => ∃ xs : List (List Dat), ds = [.sl (P.cellsOf e) xs] ∧ xs.length ≤ reachBytes ∧ ∀ x ∈ xs, ShT P g e x
    | some (.struct fs) => ShF P (ShT P g) fs.toList ds
    | _ => False
def layF (P : Program) (ts : List TypeId) : Nat → List Field → Nat → Bool
  | off, [], n => off == n
  | off, f :: fs, n => f.offset == off && ts.contains f.type && layF P ts (off + P.cellsOf f.type) fs n
def layT (P : Program) (ts : List TypeId) (t : TypeId) : Bool := match P.underlying t with
  | some .bool => true
  | some (.int _) => true
  | some .string => true
  | some (.slice e) => decide (0 < P.cellsOf e) && decide (0 < P.bytesOf e) && ts.contains e
  | some (.struct fs) => layF P ts 0 fs.toList (P.cellsOf t)
  | _ => false
def layOk (P : Program) (ts : List TypeId) : Bool := ts.all (layT P ts)
theorem VRep.app2 {M : Nat → Prop} {w : World} : ∀ {ds ds' : List Dat} {xs xs' : List Value}, VRep M w ds xs → VRep M w ds' xs' → VRep M w (ds ++ ds') (xs ++ xs')
  | [], ds', xs, xs', h, h' => by unfold VRep at h; subst h; simpa using h'
  | d :: ds, ds', xs, xs', h, h' => by
    unfold VRep at h
    obtain ⟨x, r, rfl, h1, h2⟩ := h
    simp only [List.cons_append]
    unfold VRep
    exact ⟨x, _, rfl, h1, VRep.app2 h2 h'⟩
theorem VRep.len2 {M : Nat → Prop} {w : World} : ∀ {ds : List Dat} {xs : List Value}, VRep M w ds xs → xs.length = ds.length
  | [], xs, h => by unfold VRep at h; simp [h]
  | d :: ds, xs, h => by unfold VRep at h; obtain ⟨x, r, rfl, _, h2⟩ := h; simp [VRep.len2 h2]
theorem vrep_one {M : Nat → Prop} {w : World} {d : Dat} {x : Value} (h : DRep M w d x) : VRep M w [d] [x] := by
  unfold VRep
  exact ⟨x, [], rfl, h, by unfold VRep; rfl⟩
theorem VRep.toL2 {M : Nat → Prop} {w : World} {ad : Addr} : ∀ {ds : List Dat} {cs : List Value} (i : Nat), VRep M w ds cs → Cells w (ad.add i) cs → LRep M w ds ad i
  | [], cs, i, h, hc => by unfold LRep; trivial
  | d :: ds, cs, i, h, hc => by
    unfold VRep at h
    obtain ⟨x, r, rfl, h1, h2⟩ := h
    unfold LRep
    refine ⟨⟨x, by have := hc 0 x rfl; rwa [Addr.add_add, Nat.add_zero] at this, h1⟩, VRep.toL2 (i + 1) h2 fun j v hj => ?_⟩
    have := hc (j + 1) v (by simpa using hj)
    simpa [Addr.add_add, Nat.add_assoc, Nat.add_comm 1] using this
theorem SRep.app1 {M : Nat → Prop} {w : World} {ad : Addr} {e : List Dat} : ∀ {es : List (List Dat)} {i : Nat}, SRep M w es ad i → LRep M w e ad (i + es.flatten.length) → SRep M w (es ++ [e]) ad i
  | [], i, _, h => by unfold SRep; exact ⟨by simpa using h, by unfold SRep; trivial⟩
  | x :: es, i, h, h' => by
    unfold SRep at h
    simp only [List.cons_append]
    unfold SRep
    exact ⟨h.1, SRep.app1 h.2 (by simpa [Nat.add_assoc] using h')⟩
section
variable {H : Type} {enc : TypeId × Value → H} {P : Program} {w : World} {sp : Nat → Bool}
theorem fields_sh {fuel : Nat} {ts : List TypeId} {n : Nat} (ih : ∀ t cs d ps, ts.contains t = true → DataW.trod enc P w 0 sp true fuel t cs = some (d, ps) → (∀ x ∈ d.weights P t, x ≤ reachBytes) → ∃ ds, VRep no w ds cs ∧ ShT P fuel t ds) :
    ∀ (fs : List Field) (off : Nat) (cs : List Value) (xs : List (DataW H × List MemPlace)), layF P ts off fs n = true → cs.length = n →
      (fs.mapM fun f => DataW.trod enc P w 0 sp true fuel f.type ((cs.drop f.offset).take (P.cellsOf f.type))) = some xs → (∀ x ∈ DataW.weightsEach P (fs.map (·.type)) (xs.map (·.1)), x ≤ reachBytes) → ∃ ds, VRep no w ds (cs.drop off) ∧ ShF P (ShT P fuel) fs ds
  | [], off, cs, xs, hl, hc, _, _ => by
    simp [layF] at hl
    exact ⟨[], by unfold VRep; exact List.drop_eq_nil_of_le (by omega), rfl⟩
  | f :: fs, off, cs, xs, hl, hc, hm, hwt => by
    unfold layF at hl
    rw [Bool.and_eq_true, Bool.and_eq_true] at hl
    obtain ⟨⟨h1, h2⟩, h3⟩ := hl
    have hoff : f.offset = off := by simpa using h1
    rw [List.mapM_cons] at hm
    cases hf : DataW.trod enc P w 0 sp true fuel f.type ((cs.drop f.offset).take (P.cellsOf f.type)) with
    | none => simp [hf] at hm
    | some y =>
      cases hms : (fs.mapM fun f => DataW.trod enc P w 0 sp true fuel f.type ((cs.drop f.offset).take (P.cellsOf f.type))) with
      | none => simp [hf, hms] at hm
      | some ys =>
        have hxs : xs = y :: ys := by simpa [hf, hms] using hm.symm
        subst hxs
        simp only [List.map_cons, DataW.weightsEach, List.mem_append] at hwt
        obtain ⟨d1, k1, k2⟩ := ih _ _ y.1 y.2 h2 hf (fun x hx => hwt x (.inl hx))
        obtain ⟨d2, k3, k4⟩ := fields_sh ih fs (off + P.cellsOf f.type) cs ys h3 hc hms (fun x hx => hwt x (.inr hx))
        refine ⟨d1 ++ d2, ?_, d1, d2, rfl, k2, k4⟩
        have : cs.drop off = (cs.drop f.offset).take (P.cellsOf f.type) ++ cs.drop (off + P.cellsOf f.type) := by
          rw [hoff, ← List.drop_drop, List.take_append_drop]
        rw [this]
        exact VRep.app2 k1 k3
theorem trod_sh {ts : List TypeId} (hlay : layOk P ts = true) : ∀ (fuel : Nat) (t : TypeId) (cs : List Value) (d : DataW H) (ps : List MemPlace), ts.contains t = true → DataW.trod enc P w 0 sp true fuel t cs = some (d, ps) → (∀ x ∈ d.weights P t, x ≤ reachBytes) → ∃ ds, VRep no w ds cs ∧ ShT P fuel t ds
  | 0, t, cs, d, ps, hts, h, hw => by simp [DataW.trod] at h
  | fuel + 1, t, cs, d, ps, hts, h, hw => by
    have hl : layT P ts t = true := List.all_eq_true.1 hlay t (by simpa using hts)
    unfold layT at hl
    unfold DataW.trod at h
    unfold ShT
    split at hl
    · rename_i hu
      simp only [hu] at h ⊢
      split at h <;> simp_all
      rename_i b
      exact ⟨[.v (.bool b)], vrep_one (by unfold DRep; exact ⟨rfl, rfl⟩), by cases b <;> simp⟩
    · rename_i hu
      simp only [hu] at h ⊢
      split at h <;> simp_all
      exact ⟨_, vrep_one (by unfold DRep; exact ⟨rfl, rfl⟩), _, rfl, h.1.2⟩
    · rename_i hu
      simp only [hu] at h ⊢
      split at h <;> simp_all
      refine ⟨_, vrep_one (by unfold DRep; exact ⟨rfl, rfl⟩), _, rfl, ?_⟩
      have := hw
      rw [← h.2.1] at this
      simpa [DataW.weights] using this
    · rename_i e hu
      simp only [hu] at h ⊢
      rw [Bool.and_eq_true, Bool.and_eq_true, decide_eq_true_eq, decide_eq_true_eq] at hl
      obtain ⟨⟨hk, hby⟩, hte⟩ := hl
      split at h <;> simp_all
      · rename_i heq
        subst heq
        exact ⟨[.sl (P.cellsOf _) []], vrep_one (by unfold DRep; exact ⟨_, 0, rfl, Nat.le_refl _, by simp, fun h => absurd rfl h⟩), [], rfl, by simp, by simp⟩
      · rename_i e2 a len cap heq
        subst heq
        obtain ⟨⟨h1, h2⟩, h3⟩ := h
        cases hm : ((List.range len).mapM fun i => (w.cells? 0 (a.add (i * P.cellsOf e)) (P.cellsOf e)).bind (DataW.trod enc P w 0 sp true fuel e)) with
        | none => simp [hm] at h3
        | some els =>
          obtain ⟨hn, hall⟩ := mapM_some hm
          simp at hn
          rw [hm] at h3
          simp only [Option.bind_some, Option.map_eq_some_iff] at h3
          obtain ⟨rest, _, h3⟩ := h3
          have hd : d = DataW.slice (els.map (·.1)) (rest.map (·.1)) := by injection h3 with h3 _; exact h3.symm
          subst hd
          have hw1 : (els.length + rest.length) * P.bytesOf e ≤ reachBytes := hw _ (by simp [DataW.weights, hu])
          have hlr : len ≤ reachBytes := by
            have := Nat.le_mul_of_pos_right (els.length + rest.length) hby
            omega
          have hwa : ∀ (ys : List (DataW H × List MemPlace)), (∀ x ∈ DataW.weightsAll P e (ys.map (·.1)), x ≤ reachBytes) → ∀ y ∈ ys, ∀ x ∈ y.1.weights P e, x ≤ reachBytes := by
            intro ys
            induction ys with
            | nil => intro _ y hy; simp at hy
            | cons z zs ih =>
              intro hz y hy x hx
              simp only [List.map_cons, DataW.weightsAll, List.mem_append] at hz
              rcases List.mem_cons.1 hy with rfl | hy
              · exact hz x (.inl hx)
              · exact ih (fun x hx => hz x (.inr hx)) y hy x hx
          have hwe := hwa els fun x hx => hw x (by simp [DataW.weights, hu, hx])
          have key : ∀ n, n ≤ len → ∃ xs : List (List Dat), xs.length = n ∧ (∀ x ∈ xs, ShT P fuel e x) ∧ (∀ x ∈ xs, x.length = P.cellsOf e) ∧ xs.flatten.length = n * P.cellsOf e ∧ SRep no w xs a 0 ∧ (n ≠ 0 → a.block < w.heap.size) := by
            intro n
            induction n with
            | zero => exact fun _ => ⟨[], rfl, by simp, by simp, by simp, by unfold SRep; trivial, fun h => absurd rfl h⟩
            | succ n ihn =>
              intro hle
              obtain ⟨xs, k1, k2, k2', k3, k4, k5⟩ := ihn (by omega)
              obtain ⟨y, hyn, hy⟩ := hall n n (List.getElem?_range (by omega))
              cases hc : w.cells? 0 (a.add (n * P.cellsOf e)) (P.cellsOf e) with
              | none => simp [hc] at hy
              | some cs' =>
                simp only [hc, Option.bind_some] at hy
                obtain ⟨ds, d1, d2⟩ := trod_sh hlay fuel e cs' y.1 y.2 (by simpa using hte) hy (hwe y (List.mem_of_getElem? hyn))
                obtain ⟨hcl, hcc⟩ := cells_some hc
                have hdl : ds.length = P.cellsOf e := by rw [← VRep.len2 d1]; exact hcl
                refine ⟨xs ++ [ds], by simp [k1], fun x hx => ?_, fun x hx => ?_, ?_, ?_, fun _ => ?_⟩
                · rcases List.mem_append.1 hx with hx | hx
                  · exact k2 x hx
                  · simp at hx; subst hx; exact d2
                · rcases List.mem_append.1 hx with hx | hx
                  · exact k2' x hx
                  · simp at hx; subst hx; exact hdl
                · simp [k3, hdl, Nat.succ_mul]
                · exact SRep.app1 k4 (VRep.toL2 _ d1 (by rw [k3, Nat.zero_add]; exact hcc))
                · cases hcs : cs' with
                  | nil => rw [hcs] at hcl; simp at hcl; omega
                  | cons v vs =>
                    have := hcc 0 v (by rw [hcs]; rfl)
                    have := World.block_lt_of_cell? w _ this
                    simpa [add_block] using this
          obtain ⟨xs, k1, k2, k2', k3, k4, k5⟩ := key len (Nat.le_refl _)
          refine ⟨[.sl (P.cellsOf e) xs], vrep_one ?_, xs, rfl, by omega, k2⟩
          unfold DRep
          refine ⟨some a, cap, by rw [k1], by omega, k2', fun hn => ⟨a, rfl, id, k5 (fun h => hn (List.eq_nil_of_length_eq_zero (by omega))), k4⟩⟩
    · rename_i fs hu
      simp only [hu] at h ⊢
      split at h <;> try simp_all
      rename_i hlen
      obtain ⟨xs, hxs, hd, _⟩ := h
      have := fields_sh (n := P.cellsOf t) (fun t cs d ps hts => trod_sh hlay fuel t cs d ps hts) fs.toList 0 cs xs hl (by omega) hxs (fun x hx => hw x (by rw [← hd]; simpa [DataW.weights, hu] using hx))
      simpa using this
    · cases hl
end
def ArgT (P : Program) (w : World) (t : TypeId) (v : Value) : Prop := (∃ g ds, ShT P g t ds ∧ VRep no w ds v.cells.toList) ∧ ArgForm P t v
def ArgsT (P : Program) (w : World) : List TypeId → List Value → Prop
  | t :: ts, v :: vs => ArgT P w t v ∧ ArgsT P w ts vs
  | [], [] => True
  | _, _ => False
theorem argsT_cons {P : Program} {w : World} {t : TypeId} {ts : List TypeId} {l : List Value} (h : ArgsT P w (t :: ts) l) : ∃ v r, l = v :: r ∧ ArgT P w t v ∧ ArgsT P w ts r := by
  match l, h with
  | v :: r, h => unfold ArgsT at h; exact ⟨v, r, rfl, h.1, h.2⟩
  | [], h => unfold ArgsT at h; exact h.elim
theorem argsT_nil {P : Program} {w : World} {l : List Value} (h : ArgsT P w [] l) : l = [] := by
  match l, h with
  | [], _ => rfl
  | _ :: _, h => unfold ArgsT at h; exact h.elim
section
open Go.ChangeShapes Go.RowKit
variable {H : Type} {enc : TypeId × Value → H} {P : Program}
theorem args_okT {W : World} {sp : Nat → Bool} {base : Nat} {tl : List TypeId} (hlay : layOk P tl = true) : ∀ {ts : List TypeId} {vs : List Value} {ds : List (DataW H)} {ps : List MemPlace}, DataW.TrodAll enc P W 0 sp true ts vs ds ps → ts.all tl.contains = true → (∀ x ∈ DataW.weightsEach P ts ds, x ≤ reachBytes) →
    (∀ (j : Nat) t v, ts[j]? = some t → vs[j]? = some v → Value.okWide P W .any base t v) → ArgsT P W ts vs ∧ vs.length = ts.length ∧ ds.length = ts.length
  | [], vs, ds, ps, h, ht, _, _ => by
    obtain ⟨rfl, rfl, rfl⟩ := trodAll_nil h
    exact ⟨by unfold ArgsT; trivial, rfl, rfl⟩
  | t :: ts, vs, ds, ps, h, ht, hwt, hw => by
    obtain ⟨v, vs, d, ds, p, q, rfl, rfl, rfl, ⟨fuel, h0⟩, h1⟩ := trodAll_cons h
    simp only [List.all_cons, Bool.and_eq_true] at ht
    obtain ⟨k1, k2, k3⟩ := args_okT hlay h1 ht.2 (fun x hx => hwt x (by simp [DataW.weightsEach, hx])) fun j t v hj hv => hw (j + 1) t v (by simpa using hj) (by simpa using hv)
    obtain ⟨dd, d1, d2⟩ := trod_sh hlay fuel t _ d p ht.1 h0 (fun x hx => hwt x (by simp [DataW.weightsEach, hx]))
    refine ⟨?_, by simp [k2], by simp [k3]⟩
    unfold ArgsT
    refine ⟨⟨⟨fuel, dd, d2, d1⟩, fun hs => ?_, fun hs cs hv => ?_⟩, k1⟩
    · have := hw 0 t v rfl rfl
      unfold Value.okWide at this
      unfold isStruct at hs
      split at this
      · obtain ⟨cs, rfl, _⟩ := this; rfl
      · obtain ⟨cs, rfl, _⟩ := this; rfl
      · rename_i hn1 _
        split at hs
        · exact absurd (by assumption) (hn1 _)
        · cases hs
    · have := hw 0 t v rfl rfl
      subst hv
      unfold isStruct at hs
      unfold Value.okWide at this
      have ha : layT P tl t = true := List.all_eq_true.1 hlay t (by simpa using ht.1)
      unfold layT at ha
      split at ha
      · rename_i hu; simp [hu, Cell.okWide, Cell.ok] at this
      · rename_i hu; simp [hu, Cell.okWide, Cell.ok] at this
      · rename_i hu; simp [hu, Cell.okWide, Cell.ok] at this
      · rename_i hu; simp [hu, Cell.okWide, Cell.ok] at this
      · rename_i hu; simp [hu] at hs
      · cases ha
end
end Go.Proofs.YtjcolfogmmjaoaaGreatDoor.A
end

section
set_option linter.unusedVariables false
set_option linter.unusedSimpArgs false
set_option maxRecDepth 100000
namespace Go.Proofs.YtjcolfogmmjaoaaGreatDoor.A
open V
section
variable {P : Program} {L : List TD} {n : Nat} {Q : Exit → Act → World → Prop} {c : Ctx}
variable {s : AMS} {f f' : AEnv} {σ σ' : Store} {κ : List Kt} {all : Array Oper} {dec : List Nat} {rest : List (Oper × Bool)} {m : Mode} {o : Oper} {al : Bool} {ob : Obs}
theorem a_litF (hT : TOk P L) (kn i0 : Nat) {t e : TypeId} {mm : Nat} {ps : Array (Nat × Operand)} {es : List (List Dat)} {z : Value} (h : machA L n fuel s f σ [] = ⟨.op m κ all dec o true rest, f', σ', ob⟩) (hob : ob.map (·.1) = ob.map (·.2)) (ho : o.op = .buildSlice t mm ps) (ht : tl L t = .sl e 1) (hel : elemOk P e 1 = true) (hz : ((P.info? e).bind (·.zero)) = some z) (h1 : z.oneCell' = true)
    (hl : litK 1 i0 (ps.toList.map fun p => (p.1, evA n f' p.2)) = some es) (hm : Nat.beq (i0 + es.length) mm = true) (hmx : Nat.ble mm 1000000 = true)
    (hk : ∀ x, DenA c P n Q (.ops (m.hap true) κ all dec rest) (putA f' o.dst (.row x kn)) ((kn, .row x e 1 (List.replicate i0 [.v z] ++ es)) :: σ')) : DenA c P n Q s f σ := by
  refine a_eff hT (fun a σ1 => ∃ x, a = .row x kn ∧ σ1 = (kn, .row x e 1 (List.replicate i0 [.v z] ++ es)) :: σ') h hob (fun Y Su w fc hd hY hh he => ?_) (fun a σ1 ⟨g, ha, hs⟩ => by subst ha; subst hs; exact hk g)
  have hm' := Nat.eq_of_beq_eq_true hm
  have hmx' := Nat.le_of_ble_eq_true hmx
  subst hm'
  have hT1 := sl_tl hT ht
  obtain ⟨i, z', hi, hisz, hby, hk0, hz', hzk⟩ := elemOk_spec hel
  have hzz : z' = z := by rw [hi] at hz; simpa [hz'] using hz
  subst hzz
  have hzc : z'.cells = #[z'] := Array.ext' (by rw [cells_one h1])
  have hrep : ∀ l : List (Nat × Operand), Reps (or2 Su Y) w (l.map fun p => evA n f' p.2) (l.map fun p => ev n fc p.2) := fun l => by
    induction l with
    | nil => exact Reps.nil
    | cons p l ih => exact Reps.cons (he.eval p.2) ih
  obtain ⟨k1, k2, k3, k4, k5⟩ := litK_rep (M := or2 Su Y) (w := w) (vs := ps.toList.map fun p => (p.1, ev n fc p.2)) hl (by simp) (by rw [List.map_map, List.map_map]; exact hrep ps.toList)
  have hflen : ((ps.toList.map fun p => (p.1, ev n fc p.2)).map fun p => p.2.cells.toList).flatten.length = es.length * 1 := by
    rw [k5.len]
    have : ∀ l : List (List Dat), (∀ e ∈ l, e.length = 1) → l.flatten.length = l.length * 1 := by
      intro l
      induction l with
      | nil => intro _; simp
      | cons e l ih => intro hl; rw [List.flatten_cons, List.length_append, hl e (by simp), ih fun e' h' => hl e' (by simp [h']), List.length_cons, Nat.succ_mul]; omega
    exact this es k2
  have hzs : ((Array.range ((i0 + es.length) * 1)).map (#[z'][· % (#[z'] : Array Value).size]!)).toList = List.replicate (i0 + es.length) z' := by
    rw [Nat.mul_one]
    exact made_one z' (i0 + es.length)
  have hfill : Instr.fill (fun i => some (i * 1, 1)) ((Array.range ((i0 + es.length) * 1)).map (#[z'][· % (#[z'] : Array Value).size]!)) (ps.map fun p => (p.1, ev n fc p.2)).toList = some (List.replicate i0 z' ++ ((ps.toList.map fun p => (p.1, ev n fc p.2)).map fun p => p.2.cells.toList).flatten).toArray := by
    have := lit_fill (P := P) (k := 1) ((ps.toList.map fun p => (p.1, ev n fc p.2)).map fun p => p.2.cells.toList) i0 (ps.toList.map fun p => (p.1, ev n fc p.2)) (List.replicate (i0 + es.length) z') k4 (by rw [k3, List.length_replicate]; omega) (by rw [k1, k3]) rfl
    rw [← hzs] at this
    simp only [Array.toArray_toList] at this
    rw [Array.toList_map, this]
    congr 2
    rw [hzs, k3, Nat.mul_one, List.take_replicate, Nat.min_eq_left (by omega), List.drop_eq_nil_of_le (by rw [List.length_replicate]; omega), List.append_nil]
  have hrun : (execOp (ev n fc) o).run P w = .ok (.value (.slice (some ⟨w.heap.size, 0, none⟩) (i0 + es.length) (i0 + es.length))) (w.alloc (.cells (List.replicate i0 z' ++ ((ps.toList.map fun p => (p.1, ev n fc p.2)).map fun p => p.2.cells.toList).flatten).toArray e)) := by
    unfold execOp
    simp only [ho, Sem.run_bind, Sem.run_pure]
    unfold Instr.buildSlice
    simp only [Sem.run_bind, run_underlying hT1.1, Result.andThen_ok, run_sizeOf' hT1.2.1, hT1.2.2]
    rw [if_neg (by omega)]
    by_cases h0 : (i0 + es.length) * 1 = 0
    · have e1 : i0 = 0 := by omega
      have e2 : es = [] := List.eq_nil_of_length_eq_zero (by omega)
      simp only [h0, if_true, Sem.run_pure, Sem.run_bind, Result.andThen_ok]
      rw [h0] at hfill
      simp only [Array.range_zero', Array.map_empty] at hfill ⊢
      rw [hfill]
      simp [newRow]
    · simp only [h0, if_false, zeroValue, typeInfo, Sem.run_pure, Sem.run_bind, run_program, hi, hz', Result.andThen_ok, hzc]
      rw [hfill]
      simp [newRow]
  rw [hrun]
  have hlen : (List.replicate i0 z' ++ ((ps.toList.map fun p => (p.1, ev n fc p.2)).map fun p => p.2.cells.toList).flatten).length = (i0 + es.length) * 1 := by rw [List.length_append, List.length_replicate, hflen]; omega
  have hown := World.ownsRow_lit (base := w.heap.size) (e := e) (size := 1) w (List.replicate i0 z' ++ ((ps.toList.map fun p => (p.1, ev n fc p.2)).map fun p => p.2.cells.toList).flatten).toArray (i0 + es.length) (Nat.le_refl _) (by unfold maxLen; omega) (by simpa using hlen)
  have hv : VRep (or2 Su Y) w (List.replicate i0 [Dat.v z'] ++ es).flatten (List.replicate i0 z' ++ ((ps.toList.map fun p => (p.1, ev n fc p.2)).map fun p => p.2.cells.toList).flatten) := by
    rw [List.flatten_append]
    exact VRep.app2 (vrep_rep h1 i0) k5
  have hk1 : ∀ e' ∈ List.replicate i0 [Dat.v z'] ++ es, e'.length = 1 := fun e' he' => by
    rcases List.mem_append.1 he' with h' | h'
    · rw [(List.mem_replicate.1 h').2]; rfl
    · exact k2 e' h'
  obtain ⟨q1, q2, q3, q4⟩ := holds_row (es := List.replicate i0 [Dat.v z'] ++ es) kn hY hh (Ev.alloc w _) hk1 (by rw [List.length_append, List.length_replicate]; exact hown) hv
  exact ⟨_, _, _, ⟨_, rfl, rfl⟩, by unfold Rep; exact ⟨rfl, q4⟩, q1, q2, q3⟩
end
end Go.Proofs.YtjcolfogmmjaoaaGreatDoor.A
end

section
set_option linter.unusedVariables false
set_option linter.unusedSectionVars false
set_option linter.unusedSimpArgs false
namespace Go.Proofs.YtjcolfogmmjaoaaGreatDoor.A
open V
def memN (l : List Nat) (k : Nat) : Bool := match l with | [] => false | x :: r => match Nat.beq x k with | true => true | false => memN r k
def lendK (τ : Store) (ls : List Nat) : List AV → Option (List AV × Obs)
  | [] => some ([], [])
  | a :: axs => match lendK τ ls axs with
    | none => none
    | some (bs, o) => match a with
      | .v (.pointer (some ⟨g, 0, none⟩)) k => match memN ls k with
        | true => match look τ k with
          | some (.blk g' _ cs) => match datsK cs with
            | some ds => some (.d (.p ds) :: bs, (ptrV g none, ptrV g' none) :: o)
            | none => none
          | _ => none
        | false => some (.v (.pointer (some ⟨g, 0, none⟩)) k :: bs, o)
      | .row x k => match memN ls k with
        | true => match look τ k with
          | some (.row x' _ kk es) => some (.d (.sl kk es) :: bs, (x, x') :: o)
          | _ => none
        | false => some (.row x k :: bs, o)
      | a => some (a :: bs, o)
def Lent (τ : Store) (ls : List Nat) (b : Nat) : Prop := ∃ k, memN ls k = true ∧ ((∃ t cs, look τ k = some (.blk b t cs)) ∨ ∃ x e kk es, look τ k = some (.row x e kk es) ∧ V.ob x b)
theorem look_take {M : Nat → Prop} {w : World} {τ : Store} {S : Nat → Prop} {k : Nat} {c : Chunk} (h : Holds M w τ S) (hl : look τ k = some c) : ∃ S1, (∀ b, S1 b → S b) ∧ CRep M w c S1 := by
  obtain ⟨S1, S2, h1, h2, h3, h4⟩ := h.take hl
  exact ⟨S1, fun b hb => (h1 b).2 (.inl hb), h3⟩
theorem row_lent {M M' : Nat → Prop} {S1 : Nat → Prop} {w : World} {x : Value} {e k : Nat} {es : List (List Dat)} (hc : CRep M w (.row x e k es) S1) (hm : ∀ b, M' b → M b ∧ ¬ V.ob x b) : DRep M' w (.sl k es) x := by
  obtain ⟨hS1, hk, xs, ho, hv⟩ := hc
  have hlen := hv.len
  unfold DRep
  rcases ho.2 with ⟨rfl, h0⟩ | ⟨g, cap, cur, rfl, hb, hh, hn, hcl, hs, ht⟩
  · have : es = [] := List.eq_nil_of_length_eq_zero h0
    subst this
    exact ⟨none, 0, rfl, by simp, by simp, by simp⟩
  · refine ⟨_, cap, rfl, hn, hk, fun hne => ⟨_, rfl, fun h => (hm _ h).2 rfl, (Array.getElem?_eq_some_iff.1 hh).1, SRep.flat.2 (LRep.mk fun j d hj => ?_)⟩⟩
    obtain ⟨y, hy, hr⟩ := hv.get j d hj
    rw [Nat.zero_add]
    exact ⟨y, ho.cells (g := g) rfl j y hy, hr.ev (Ev.refl no w) fun b _ h => h.elim (fun h => h.elim) fun h => (hm b h).1⟩
theorem lend_rep {M M' : Nat → Prop} {w : World} {τ : Store} {S : Nat → Prop} {ls : List Nat} (h : Holds M w τ S) (hm : ∀ b, M' b → M b ∧ ¬ Lent τ ls b) :
    ∀ {axs bs : List AV} {o : Obs} {xs : List Value}, lendK τ ls axs = some (bs, o) → o.map (·.1) = o.map (·.2) → Reps M w axs xs → Reps M' w bs xs
  | [], bs, o, xs, hl, ho, hr => by
    simp [lendK] at hl
    obtain ⟨rfl, rfl⟩ := hl
    unfold Reps at hr ⊢
    exact hr
  | a :: axs, bs, o, xs, hl, ho, hr => by
    unfold lendK at hl
    unfold Reps at hr
    obtain ⟨x, r, rfl, hx, hr⟩ := hr
    cases hk : lendK τ ls axs with
    | none => rw [hk] at hl; cases hl
    | some p =>
      obtain ⟨bs', o'⟩ := p
      rw [hk] at hl
      simp only at hl
      have old : ∀ (hl : some (a :: bs', o') = some (bs, o)), Reps M' w bs (x :: r) := fun hl => by
        simp only [Option.some.injEq, Prod.mk.injEq] at hl
        obtain ⟨rfl, rfl⟩ := hl
        exact Reps.cons (hx.of fun b _ hb => (hm b hb).1) (lend_rep h hm hk ho hr)
      split at hl
      · rename_i g k
        split at hl
        · rename_i hmem
          split at hl
          · rename_i g' t cs hlook
            split at hl
            · rename_i ds hds
              simp only [Option.some.injEq, Prod.mk.injEq] at hl
              obtain ⟨rfl, rfl⟩ := hl
              simp only [List.map_cons, List.cons.injEq, ptrV, Value.pointer.injEq, Option.some.injEq, Addr.mk.injEq] at ho
              obtain ⟨⟨rfl, _⟩, ho⟩ := ho
              refine Reps.cons ?_ (lend_rep h hm hk ho hr)
              obtain ⟨S1, hS1, hS, xs', hb, hrs, h1⟩ := look_take h hlook
              have hv := datsK_rep hds hrs
              unfold Rep at hx
              subst hx
              unfold Rep DRep
              have hlt := hb.lt
              refine ⟨⟨g, 0, none⟩, rfl, fun hb' => (hm _ hb').2 ⟨k, hmem, .inl ⟨t, cs, hlook⟩⟩, hlt, LRep.mk fun j d hd => ?_⟩
              obtain ⟨y, hy, hyr⟩ := hv.get j d hd
              refine ⟨y, ?_, hyr.ev (Ev.refl no w) fun b hb h => h.elim (fun h => h.elim) fun h => (hm b h).1⟩
              have := hb.cell j hy
              rw [add_off]
              simpa using this
            · cases hl
          · cases hl
        · exact old hl
      · rename_i x0 k
        split at hl
        · rename_i hmem
          split at hl
          · rename_i x' e kk es hlook
            simp only [Option.some.injEq, Prod.mk.injEq] at hl
            obtain ⟨rfl, rfl⟩ := hl
            simp only [List.map_cons, List.cons.injEq] at ho
            obtain ⟨rfl, ho⟩ := ho
            refine Reps.cons ?_ (lend_rep h hm hk ho hr)
            obtain ⟨S1, hS1, hc⟩ := look_take h hlook
            unfold Rep at hx
            obtain ⟨rfl, _⟩ := hx
            unfold Rep
            exact row_lent hc fun b hb => ⟨(hm b hb).1, fun ho' => (hm b hb).2 ⟨k, hmem, .inr ⟨_, e, kk, es, hlook, ho'⟩⟩⟩
          · cases hl
        · exact old hl
      · exact old hl
class FreeA (a : AV) : Prop where
  out : ∀ (M M' : Nat → Prop) (w : World) (v : Value), Rep M w a v → Rep M' w a v
class FreeAs (axs : List AV) : Prop where
  out : ∀ (M M' : Nat → Prop) (w : World) (vs : List Value), Reps M w axs vs → Reps M' w axs vs
class FreeC (c : Chunk) : Prop where
  out : ∀ (M M' : Nat → Prop) (w : World) (S : Nat → Prop), CRep M w c S → CRep M' w c S
class FreeCs (cs : List Chunk) : Prop where
  out : ∀ c ∈ cs, FreeC c
instance FreeA.v (x : Value) (h : Nat) : FreeA (.v x h) := ⟨fun M M' w v hr => by unfold Rep at hr ⊢; exact hr⟩
instance FreeA.row (x : Value) (h : Nat) : FreeA (.row x h) := ⟨fun M M' w v hr => by unfold Rep at hr ⊢; exact hr⟩
instance FreeA.dv (x : Value) : FreeA (.d (.v x)) := ⟨fun M M' w v hr => by unfold Rep DRep at hr ⊢; exact hr⟩
instance FreeAs.nil : FreeAs [] := ⟨fun M M' w v hr => by unfold Reps at hr ⊢; exact hr⟩
instance FreeAs.cons {a : AV} {axs : List AV} [h : FreeA a] [h2 : FreeAs axs] : FreeAs (a :: axs) := ⟨fun M M' w v hr => by
  unfold Reps at hr
  obtain ⟨x, r, rfl, h3, h4⟩ := hr
  exact Reps.cons (h.out M M' w x h3) (h2.out M M' w r h4)⟩
instance FreeA.agg {axs : List AV} [h : FreeAs axs] : FreeA (.agg axs) := ⟨fun M M' w v hr => by
  unfold Rep at hr ⊢
  obtain ⟨ys, e, h1, h2⟩ := hr
  exact ⟨ys, e, h.out M M' w ys h1, h2⟩⟩
instance FreeA.tup {axs : List AV} [h : FreeAs axs] : FreeA (.tup axs) := ⟨fun M M' w v hr => by
  unfold Rep at hr ⊢
  obtain ⟨ys, e, h1⟩ := hr
  exact ⟨ys, e, h.out M M' w ys h1⟩⟩
instance FreeC.blk {g : Nat} {t : TypeId} {cs : List AV} [h : FreeAs cs] : FreeC (.blk g t cs) := ⟨fun M M' w S ⟨h1, xs, h2, h3, h4⟩ => ⟨h1, xs, h2, h.out M M' w xs h3, h4⟩⟩
theorem bytes_free {M M' : Nat → Prop} {w : World} : ∀ (l : List UInt8) {xs : List Value}, VRep M w (l.map fun b => .v (byV b)) xs → VRep M' w (l.map fun b => .v (byV b)) xs
  | [], xs, h => by unfold VRep at h ⊢; exact h
  | b :: l, xs, h => by
    simp only [List.map_cons] at h ⊢
    unfold VRep at h
    obtain ⟨x, r, rfl, h1, h2⟩ := h
    refine VRep.cons ?_ (bytes_free l h2)
    unfold DRep at h1 ⊢
    exact h1
instance FreeC.rowB (x : Value) (e : TypeId) (l : List UInt8) : FreeC (.row x e 1 (l.map eB)) := ⟨fun M M' w S ⟨h1, h2, xs, h3, h4⟩ => by
  refine ⟨h1, h2, xs, h3, ?_⟩
  rw [flat_eB] at h4 ⊢
  exact bytes_free l h4⟩
theorem ents_free {β : Type} {kv : Int → Value} {va : β → AV} {M M' : Nat → Prop} {w : World} (hv : ∀ b, FreeA (va b)) : ∀ (l : List (Int × β)) {es : List MapEntry}, EntsRep M w (mapG kv va l) es → EntsRep M' w (mapG kv va l) es
  | [], es, h => h
  | p :: l, es, ⟨e, r', h1, h5, h6⟩ => ⟨e, r', h1, ⟨h5.1, (hv p.2).out M M' w _ h5.2⟩, ents_free hv l h6⟩
instance FreeC.map {β : Type} {kv : Int → Value} {va : β → AV} (r : Nat) (l : List (Int × β)) [hv : ∀ b, FreeA (va b)] : FreeC (.map r (mapG kv va l)) := ⟨fun M M' w S ⟨h1, ents, clock, h2, h3, h4⟩ => by
  refine ⟨h1, ents, clock, h2, ?_, h4⟩
  exact ents_free hv l h3⟩
instance FreeCs.nil : FreeCs [] := ⟨fun c h => by simp at h⟩
instance FreeCs.cons {c : Chunk} {cs : List Chunk} [h : FreeC c] [h2 : FreeCs cs] : FreeCs (c :: cs) := ⟨fun d hd => by
  rcases List.mem_cons.1 hd with rfl | hd
  · exact h
  · exact h2.out d hd⟩
theorem FreeCs.holds {M M' : Nat → Prop} {w : World} : ∀ {cs : List Chunk} {S : Nat → Prop}, FreeCs cs → HoldsL M w cs S → HoldsL M' w cs S
  | [], S, h, hr => hr
  | c :: cs, S, h, ⟨S1, S2, h1, h2, h3, h4⟩ => ⟨S1, S2, h1, h2, (h.out c (by simp)).out _ _ _ _ h3, FreeCs.holds ⟨fun d hd => h.out d (by simp [hd])⟩ h4⟩
section
variable {P : Program} {L : List TD} {n : Nat} {Q : Exit → Act → World → Prop} {c : Ctx}
variable {s : AMS} {f f' : AEnv} {σ σ' : Store} {ob : Obs} {κ : List Kt} {all : Array Oper} {dec : List Nat} {o : Oper} {al : Bool} {rest : List (Oper × Bool)} {m : Mode}
theorem a_effP (hT : TOk P L) (R : AV → Store → Prop) (h : machA L n fuel s f σ [] = ⟨.op m κ all dec o true rest, f', σ', ob⟩) (hob : ob.map (·.1) = ob.map (·.2))
    (he : ∀ (Y Su Sp : Nat → Prop) (w : World) (fc : Env), (∀ b, Su b → ¬ Y b) → (∀ b, Y b → b < w.heap.size) → Holds (or2 Su Y) w σ' Su → Holds (or2 Su Y) w (spOf m) Sp → (∀ b, Sp b → Y b) → EnvRep (or2 Su Y) w f' fc → Does P Y Su w R ((execOp (ev n fc) o).run P w))
    (hk : ∀ a σ1, R a σ1 → DenA c P n Q (.ops (m.hap true) κ all dec rest) (putA f' o.dst a) σ1) : DenA c P n Q s f σ := by
  refine a_go hT h hob fun hok w S fc Sg hs hh => ?_
  have haa : (act n fc).eval = ev n fc := funext (act_eval n fc)
  have hcon : conM Sg (m.hap true) = conM Sg m := by cases m <;> rfl
  have hok' : (AMS.ops (m.hap true) κ all dec rest).ok := by
    cases m with
    | last ex => obtain ⟨h1, h2, h3⟩ := hok; exact ⟨h1, .inr h3⟩
    | _ => trivial
  obtain ⟨Sp, Su, hp, hu, hall, hdis, hstep⟩ := hh.step
  have hY : ∀ b, or2 Sp c.X b → b < w.heap.size := fun b hb => hb.elim (fun hb => hp.lt b hb) fun hb => Nat.lt_of_lt_of_le (c.old b hb) hs.ev.size
  have hdisX : ∀ b, S b → ¬ c.X b := fun b hb hx => (hs.sub b hb).elim (fun h => c.dis b h hx) fun h => Nat.lt_irrefl _ (Nat.lt_of_le_of_lt h (c.old b hx))
  have hd : ∀ b, Su b → ¬ or2 Sp c.X b := fun b hb h => h.elim (fun h => hdis b h hb) (hdisX b ((hall b).2 (.inr hb)))
  have hM1 : ∀ b, or2 Su (or2 Sp c.X) b → or2 S c.X b := fun b h => h.elim (fun h => .inl ((hall b).2 (.inr h))) fun h => h.elim (fun h => .inl ((hall b).2 (.inl h))) .inr
  have hdo := he (or2 Sp c.X) Su Sp w fc hd hY (hu.of fun b _ h => hM1 b h) (hp.of fun b _ h => hM1 b h) (fun b hb => .inl hb) (hs.env.of fun b _ h => hM1 b h)
  have next : ∀ v w1, After (or2 Sp c.X) Su w R v w1 → Keep (conM Sg m) rest.isEmpty w1 ∧ OR P (conM Sg m) all (post P Q κ) rest ((act n fc).put o.dst v) w1 := by
    rintro v w1 ⟨a, σ1, Su', hR, hrep, hh1, hev, hsub⟩
    have hM2 : ∀ b, or2 (or2 Sp Su') c.X b → or2 Su' (or2 Sp c.X) b := fun b h => h.elim (fun h => h.elim (fun h => .inr (.inl h)) .inl) fun h => .inr (.inr h)
    have hm : ∀ b, b < w.heap.size → Su b ∨ or2 (or2 Sp Su') c.X b → or2 S c.X b := fun b hb h => by
      rcases h with h | (h | h) | h
      · exact .inl ((hall b).2 (.inr h))
      · exact .inl ((hall b).2 (.inl h))
      · rcases hsub b h with h | h
        · exact .inl ((hall b).2 (.inr h))
        · omega
      · exact .inr h
    obtain ⟨hsg, hh2⟩ := hstep (or2 (or2 Sp Su') c.X) Su' w1 σ1 hev hm (hh1.of fun b _ h => hM2 b h) hsub
    refine ⟨?_, ?_⟩
    · cases m with
      | plain => trivial
      | rest => exact .inr trivial
      | last ex => obtain ⟨h1, _, h3⟩ := hok; exact .inl (by rw [h1, h3]; rfl)
      | reg pre σp ex => exact .inr (hsg _ _ _ rfl)
    · rw [act_put, ← hcon]
      refine (hk a σ1 hR).out hok' w1 (or2 Sp Su') (put fc o.dst v) Sg ⟨?_, ?_, ?_⟩ hh2
      · exact EnvRep.put (hs.env.pass hev hm) o.dst (hrep.of fun b _ h => hM2 b h)
      · exact hs.ev.then hev fun b hb h => (hs.sub b ((hall b).2 (.inr h))).elim id fun h => by omega
      · rintro b (h | h)
        · exact hs.sub b ((hall b).2 (.inl h))
        · rcases hsub b h with h | h
          · exact hs.sub b ((hall b).2 (.inr h))
          · exact .inr (Nat.le_trans hs.ev.size h)
  refine .inr ⟨rfl, .inl ?_⟩
  unfold Oper.wp
  rw [haa]
  revert hdo
  generalize (execOp (ev n fc) o).run P w = res
  intro hdo
  cases res with
  | halt _ _ => exact hdo.elim
  | ok nx w1 =>
    cases nx with
    | value v => exact next v w1 hdo
    | skip => exact next undef w1 hdo
    | enter k args =>
      refine Calls.mono hdo fun e w2 ⟨v, he, hv⟩ => ?_
      subst he
      exact next v w2 hv
    | _ => exact hdo.elim
theorem a_callZ (hT : TOk P L) {g : FuncId} {xs : Array Operand} {ts : Array TypeId} {args0 args : List AV} {cs cs0 : List Chunk} {σr : Store} {R : AV → List Chunk → Prop} {o2 : Obs} (h : machA L n fuel s f σ [] = ⟨.op m κ all dec o true rest, f', σ', ob⟩) (hob : ob.map (·.1) = ob.map (·.2)) (ho : o.op = .call ⟨.value (.func g), xs, ts⟩) (hb : callOk P g = true)
    (spec : FSpec P g args cs R) (ls ks ks' : List Nat) (ht : takes σ' ks = some (cs0, σr)) (hl : lendK (spOf m ++ σr) ls (evAs n f' xs.toList) = some (args0, o2)) (ho2 : o2.map (·.1) = o2.map (·.2)) (ha : Fits args0 args) (hc : CFits cs0 cs) (hfree : ∀ a cs', R a cs' → FreeA a ∧ FreeCs cs')
    (hk : ∀ a cs', R a cs' → rekK ks' cs' σr fun σ1 => DenA c P n Q (.ops (m.hap true) κ all dec rest) (putA f' o.dst a) σ1) : DenA c P n Q s f σ := by
  refine a_effP hT (fun a σ1 => ∃ cs', R a cs' ∧ σ1 = zipk ks' cs' ++ σr) h hob (fun Y Su Sp w fc hd hY hh hp hSp he => ?_) (fun a σ1 ⟨cs', hR, hs⟩ => by subst hs; have := hk a cs' hR; rwa [rekK_eq] at this)
  have hr := he.evals (n := n) xs.toList
  have hrun : (execOp (ev n fc) o).run P w = .ok (.enter g (xs.toList.map (ev n fc)).toArray) w := by
    have : xs.map (ev n fc) = (xs.toList.map (ev n fc)).toArray := by obtain ⟨xs⟩ := xs; simp
    simp [execOp, ho, resolve, invoke, ev, evK, Deferred.ofValue, run_callFunc hb, this]
  rw [hrun]
  show Calls P g _ w _
  obtain ⟨S1, S2, h1, h2, hS, hdis⟩ := hh.takes ht
  have hτ : Holds (or2 Su Y) w (spOf m ++ σr) (or2 Sp S2) := Holds.append hp h2 (fun b hb h => hd b ((hS b).2 (.inr h)) (hSp b hb)) (fun b => Iff.rfl)
  have hlent : ∀ b, Lent (spOf m ++ σr) ls b → or2 Sp S2 b := fun b ⟨k, _, hk⟩ => by
    rcases hk with ⟨t, cs, hk⟩ | ⟨x, e, kk, es, hk, hob'⟩
    · obtain ⟨T1, hT1, hc1⟩ := look_take hτ hk
      exact hT1 b ((hc1.1 b).2 rfl)
    · obtain ⟨T1, hT1, hc1⟩ := look_take hτ hk
      exact hT1 b ((hc1.1 b).2 hob')
  have hl1 : ∀ b, S1 b → ¬ Lent (spOf m ++ σr) ls b := fun b hb hl => (hlent b hl).elim (fun h => hd b ((hS b).2 (.inl hb)) (hSp b h)) (hdis b hb)
  have hX : ∀ b, (or2 S2 Y b ∧ ¬ Lent (spOf m ++ σr) ls b) → or2 Su Y b := fun b h => h.1.elim (fun h => .inl ((hS b).2 (.inr h))) .inr
  have hM : ∀ b, or2 S1 (fun b => or2 S2 Y b ∧ ¬ Lent (spOf m ++ σr) ls b) b → or2 Su Y b ∧ ¬ Lent (spOf m ++ σr) ls b := fun b h => h.elim (fun h => ⟨.inl ((hS b).2 (.inl h)), hl1 b h⟩) fun h => ⟨hX b h, h.2⟩
  have hargs := ha.reps (lend_rep hτ hM hl ho2 hr)
  refine (spec.out (fun b => or2 S2 Y b ∧ ¬ Lent (spOf m ++ σr) ls b) S1 w _ (fun b hb h => h.1.elim (hdis b hb) (hd b ((hS b).2 (.inl hb)))) (fun b h => h.1.elim (h2.lt b) (hY b)) (hc.holds (Holds.of h1 fun b _ h => (hM b h).1)) hargs).mono ?_
  rintro e w1 ⟨v, a, cs', S', rfl, hR, hrep, hh', hev, hsub⟩
  obtain ⟨hf1, hf2⟩ := hfree a cs' hR
  have hm : ∀ b, b < w.heap.size → S1 b ∨ or2 (or2 S' S2) Y b → or2 Su Y b := fun b hb h => by
    rcases h with h | (h | h) | h
    · exact .inl ((hS b).2 (.inl h))
    · rcases hsub b h with h | h
      · exact .inl ((hS b).2 (.inl h))
      · omega
    · exact .inl ((hS b).2 (.inr h))
    · exact .inr h
  refine ⟨v, rfl, a, zipk ks' cs' ++ σr, or2 S' S2, ⟨cs', hR, rfl⟩, hf1.out _ _ _ _ hrep, Holds.append (HoldsL.zip (hf2.holds hh') ks') (h2.ev hev hm fun b hb h => hdis b h hb) (fun b hb h => ?_) (fun b => Iff.rfl), hev.mono fun b _ h => (hS b).2 (.inl h), fun b hb => ?_⟩
  · rcases hsub b hb with h' | h'
    · exact hdis b h' h
    · have := h2.lt b h; omega
  · rcases hb with h | h
    · exact (hsub b h).imp (fun h => (hS b).2 (.inl h)) id
    · exact .inl ((hS b).2 (.inr h))
theorem a_drawX (hT : TOk P L) {fn : Func} {R : Ending → World → Prop} {id : Nat} {ops : Array Oper} {cu : List Chunk} {σp : Store} (us : List Nat) (x : Nat) (ord : List (Nat × Bool)) (h : machA L n fuel s f σ [] = ⟨.draw κ id ops, f', σ', ob⟩) (hob : ob.map (·.1) = ob.map (·.2)) (hm : P.follows .mixedOrders = true)
    (ho : (Nat.ble ord.length ops.size && Region.noSelect ops && (ordTo ops (Array.replicate ops.size false) ord).isSome && (!(Nat.blt x ops.size) || waitsAll .any ops x) && xOk x ord && Nat.beq (lastI ord) x) = true) (ht : takes σ' us = some (cu, σp))
    (hk : DenA c P n (bodyPost P fn R) (.ops (.reg true σp ⟨true, some (x, ops.size - ord.length, (ordTo ops (Array.replicate ops.size false) ord).getD #[])⟩) κ ops [] (selK ops.toList ord)) f' (zipk us cu)) : DenA c P n (bodyPost P fn R) s f σ := by
  simp only [Bool.and_eq_true] at ho
  refine a_go hT h hob fun hok w S fc Sg hs hh => ?_
  obtain ⟨Sg', hg, hs', hh'⟩ := reg_begin (ex := ⟨true, some (x, ops.size - ord.length, (ordTo ops (Array.replicate ops.size false) ord).getD #[])⟩) hs hh ht
  show (Code.region id ops true).wp P (post P (bodyPost P fn R) κ) (act n fc) w
  refine wp_region_tree (S := Sg') (x := x) ord hm (Nat.le_of_ble_eq_true ho.1.1.1.1.1) ho.1.1.1.1.2 ho.1.1.1.2 (fun hlt => ?_) ho.1.2 ?_ hg true (fun _ _ => Nat.eq_of_beq_eq_true ho.2) (hk.out trivial w.drew S fc Sg' hs' hh')
  · have h2 := ho.1.1.2
    rw [Bool.or_eq_true, Bool.not_eq_true'] at h2
    rcases h2 with h2 | h2
    · rw [show Nat.blt x ops.size = true by simpa [Nat.blt_eq] using hlt] at h2; cases h2
    · exact h2
  intro cc a d v w hp
  rw [post_panic] at hp ⊢
  exact ⟨by simpa [Act.put] using (show (a.put d v).defers = [] from hp.1) |> fun h => by cases d <;> simpa [Act.put] using h, hp.2⟩
theorem a_rest (hT : TOk P L) {fn : Func} {R : Ending → World → Prop} {b : Bool} {x q : Nat} {listed : Array Bool} (ord : List (Nat × Bool)) (h : machA L n fuel s f σ [] = ⟨.st (.ops (.last ⟨b, some (x, q, listed)⟩) κ all dec []), f', σ', ob⟩) (hob : ob.map (·.1) = ob.map (·.2))
    (ho : (Nat.beq ord.length q && Region.noSelect all && ordOk all listed ord && listed.getD x false && Nat.beq listed.size all.size && xOk all.size ord) = true)
    (hk : DenA c P n (bodyPost P fn R) (.ops .rest κ all dec (selK all.toList ord)) f' σ') : DenA c P n (bodyPost P fn R) s f σ := by
  simp only [Bool.and_eq_true] at ho
  refine a_go hT h hob fun hok w S fc Sg hs hh => ?_
  show ClosedL .any all listed → _
  intro hcl
  refine OR_rest ho.1.1.1.1.1 ho.1.1.1.1.2 ho.1.1.1.2 ho.1.1.2 ho.1.2 ho.2 (fun c a d v w hp => ?_) hcl (hk.out trivial w S fc Sg hs hh)
  rw [post_panic] at hp ⊢
  exact ⟨by simpa [Act.put] using (show (a.put d v).defers = [] from hp.1) |> fun h => by cases d <;> simpa [Act.put] using h, hp.2⟩
end
end Go.Proofs.YtjcolfogmmjaoaaGreatDoor.A
end

section
set_option linter.unusedVariables false
set_option linter.unusedSimpArgs false
set_option maxRecDepth 100000
namespace Go.Proofs.YtjcolfogmmjaoaaGreatDoor.A
open V
section
variable {P : Program} {L : List TD} {n : Nat} {Q : Exit → Act → World → Prop} {c : Ctx}
variable {s : AMS} {f : AEnv} {σ : Store}
theorem a_freezeK (t h : Nat) {g : Nat} {p : Addr} {ty : TypeId} {cs : List AV} {ds : List Dat} (hst : s.still = true) (ht : getA f t = .v (.pointer (some p)) h) (hp : p = ⟨g, 0, none⟩) (hl : look σ h = some (.blk g ty cs)) (hd : datsK cs = some ds) (hk : DenA c P n Q s ((t, .d (.p ds)) :: f) (del σ h)) : DenA c P n Q s f σ := by
  subst hp
  refine a_ghost hst (fun Y S w fc hdY hh he => ?_) hk
  obtain ⟨S1, S2, hS, hdis, hc, hr⟩ := hh.take hl
  have hM : ∀ b, or2 S2 Y b → or2 S Y b := fun b h => h.elim (fun h => .inl ((hS b).2 (.inr h))) .inr
  obtain ⟨hS1, xs, hb, hrep, h1⟩ := hc
  have hg : S1 g := (hS1 g).2 rfl
  have hv := datsK_rep hd hrep
  refine ⟨S2, hr.of fun b _ h => hM b h, fun t' => ?_, fun b h => (hS b).2 (.inr h)⟩
  rw [getA_cons]
  split
  · rename_i e
    subst e
    have := he t'
    rw [ht] at this
    rw [rep_v this]
    unfold Rep DRep
    refine ⟨⟨g, 0, none⟩, rfl, ?_, ?_, LRep.mk fun j d hj => ?_⟩
    · rintro (h | h)
      · exact hdis g hg h
      · exact hdY g ((hS g).2 (.inl hg)) h
    · unfold Blk at hb
      exact (Array.getElem?_eq_some_iff.1 hb).1
    · obtain ⟨y, hy, hr'⟩ := hv.get j d hj
      refine ⟨y, ?_, hr'.ev (Ev.refl no w) fun b _ h => h.elim (fun h => h.elim) fun h => hM b h⟩
      rw [Nat.zero_add, add_off, Nat.zero_add]
      exact hb.cell j hy
  · exact (he t').of fun b _ h => hM b h
end
end Go.Proofs.YtjcolfogmmjaoaaGreatDoor.A
end

section
set_option linter.unusedVariables false
set_option linter.unusedSimpArgs false
set_option maxRecDepth 100000
namespace Go.Proofs.YtjcolfogmmjaoaaGreatDoor.A
open V
def Le (a b : AV) : Prop := ∀ (M : Nat → Prop) (w : World) (v : Value), Rep M w a v → Rep M w b v
theorem le_ifcV {ty : TypeId} {x : Value} {h : Nat} (h1 : one1 (.v x 0) = true) : Le (.ifc ty (.v x h)) (.d (.ifc ty false [.v x])) := by
  intro M w v hr
  unfold Rep at hr ⊢
  obtain ⟨u, rfl, hu⟩ := hr
  have hu := rep_v hu
  subst hu
  have h2 := one1_one (M := M) (w := w) h1 (x := u) mk_v
  unfold DRep
  refine ⟨u, rfl, (fun h => by cases h), fun _ => h2, ?_⟩
  rw [cells_one h2]
  unfold VRep
  exact ⟨u, [], rfl, by unfold DRep; exact ⟨rfl, h2⟩, by unfold VRep; rfl⟩
theorem le_dv {x : Value} {h : Nat} : Le (.d (.v x)) (.v x h) := by
  intro M w v hr
  unfold Rep at hr ⊢
  unfold DRep at hr
  exact hr.1
theorem le_ifcA {ty : TypeId} {cs : List AV} {ds : List Dat} (h : datsK cs = some ds) : Le (.ifc ty (.agg cs)) (.d (.ifc ty true ds)) := by
  intro M w v hr
  unfold Rep at hr ⊢
  obtain ⟨u, rfl, hu⟩ := hr
  unfold Rep at hu
  obtain ⟨ys, rfl, hr, h1⟩ := hu
  unfold DRep
  refine ⟨_, rfl, fun _ => ?_, (fun h => by cases h), ?_⟩
  · simp [Value.cells]
  · simpa [Value.cells] using datsK_rep h hr
def DLe (d d' : Dat) : Prop := ∀ (M : Nat → Prop) (w : World) (v : Value), DRep M w d v → DRep M w d' v
theorem DLe.refl (d : Dat) : DLe d d := fun _ _ _ h => h
theorem DLe.nil (k : Nat) : DLe (.v (.slice none 0 0)) (.sl k []) := by
  intro M w v h
  unfold DRep at h ⊢
  obtain ⟨rfl, _⟩ := h
  exact ⟨none, 0, rfl, by simp, by simp, by simp⟩
inductive LLe : List Dat → List Dat → Prop
  | nil : LLe [] []
  | cons {d d' : Dat} {l l' : List Dat} : DLe d d' → LLe l l' → LLe (d :: l) (d' :: l')
inductive SLe : List (List Dat) → List (List Dat) → Prop
  | nil : SLe [] []
  | cons {e e' : List Dat} {l l' : List (List Dat)} : LLe e e' → SLe l l' → SLe (e :: l) (e' :: l')
theorem LLe.len {l l' : List Dat} (h : LLe l l') : l.length = l'.length := by induction h with
  | nil => rfl
  | cons _ _ ih => simp [ih]
theorem LLe.rep {M : Nat → Prop} {w : World} {ad : Addr} {l l' : List Dat} (h : LLe l l') : ∀ {i : Nat}, LRep M w l ad i → LRep M w l' ad i := by
  induction h with
  | nil => exact fun h => h
  | cons h1 _ ih =>
    intro i hr
    unfold LRep at hr ⊢
    obtain ⟨⟨x, hx, hd⟩, h3⟩ := hr
    exact ⟨⟨x, hx, h1 _ _ _ hd⟩, ih h3⟩
theorem SLe.len {l l' : List (List Dat)} (h : SLe l l') : l.length = l'.length := by induction h with
  | nil => rfl
  | cons _ _ ih => simp [ih]
theorem SLe.rep {M : Nat → Prop} {w : World} {ad : Addr} {l l' : List (List Dat)} (h : SLe l l') : ∀ {i : Nat}, SRep M w l ad i → SRep M w l' ad i := by
  induction h with
  | nil => exact fun h => h
  | cons h1 _ ih =>
    intro i hr
    unfold SRep at hr ⊢
    exact ⟨h1.rep hr.1, by rw [← h1.len]; exact ih hr.2⟩
theorem SLe.lens {k : Nat} {l l' : List (List Dat)} (h : SLe l l') (hk : ∀ e ∈ l, e.length = k) : ∀ e ∈ l', e.length = k := by
  induction h with
  | nil => simp
  | cons h1 _ ih =>
    intro e he
    rcases List.mem_cons.1 he with rfl | he
    · rw [← h1.len]; exact hk _ (by simp)
    · exact ih (fun e he => hk e (by simp [he])) e he
theorem DLe.sl {k : Nat} {es es' : List (List Dat)} (h : SLe es es') : DLe (.sl k es) (.sl k es') := by
  intro M w v hr
  unfold DRep at hr ⊢
  obtain ⟨A, c, e, hc, hk, hr⟩ := hr
  refine ⟨A, c, by rw [← h.len]; exact e, by rw [← h.len]; exact hc, h.lens hk, fun hn => ?_⟩
  obtain ⟨ad, h1, h2, h3, h4⟩ := hr (fun hn' => hn (List.eq_nil_of_length_eq_zero (by rw [← h.len, hn']; rfl)))
  exact ⟨ad, h1, h2, h3, h.rep h4⟩
theorem LLe.vrep {M : Nat → Prop} {w : World} {l l' : List Dat} (h : LLe l l') : ∀ {xs : List Value}, A.VRep M w l xs → A.VRep M w l' xs := by
  induction h with
  | nil => exact fun h => h
  | cons h1 _ ih =>
    intro xs hr
    unfold A.VRep at hr ⊢
    obtain ⟨x, r, e, h3, h4⟩ := hr
    exact ⟨x, r, e, h1 _ _ _ h3, ih h4⟩
theorem DLe.ifc {t : TypeId} {ag : Bool} {l l' : List Dat} (h : LLe l l') : DLe (.ifc t ag l) (.ifc t ag l') := by
  intro M w v hr
  unfold DRep at hr ⊢
  obtain ⟨u, e, h1, h2, h3⟩ := hr
  exact ⟨u, e, h1, h2, h.vrep h3⟩
theorem Le.trans {a b c : AV} (h : ∀ (M : Nat → Prop) (w : World) (v : Value), Rep M w a v → Rep M w b v) (k : ∀ (M : Nat → Prop) (w : World) (v : Value), Rep M w b v → Rep M w c v) : Le a c := fun M w v hr => k _ _ _ (h _ _ _ hr)
theorem DLe.le {d d' : Dat} (h : DLe d d') : Le (.d d) (.d d') := by
  intro M w v hr
  unfold Rep at hr ⊢
  exact h M w v hr
theorem Le.refl (a : AV) : Le a a := fun _ _ _ h => h
theorem Fit.le {a b : AV} (h : Fit a b) : Le a b := fun _ _ _ hr => h.rep hr
theorem FSpec.le {P : Program} {g : FuncId} {args : List AV} {cs : List Chunk} {R : AV → List Chunk → Prop} (h : FSpec P g args cs fun a cs' => ∃ a', Le a a' ∧ R a' cs') : FSpec P g args cs R :=
  ⟨fun X S w xs h1 h2 h3 h4 => (h.out X S w xs h1 h2 h3 h4).mono fun e w' ⟨v, a, cs', S', k1, ⟨a', k2, k2'⟩, k3, k4, k5, k6⟩ => ⟨v, a', cs', S', k1, k2', k2 _ _ _ k3, k4, k5, k6⟩⟩
inductive Les : List AV → List AV → Prop
  | nil : Les [] []
  | cons {a b : AV} {l l' : List AV} : Le a b → Les l l' → Les (a :: l) (b :: l')
theorem Les.reps {M : Nat → Prop} {w : World} {l l' : List AV} (h : Les l l') : ∀ {xs : List Value}, Reps M w l xs → Reps M w l' xs := by
  induction h with
  | nil => exact fun h => h
  | cons h1 _ ih =>
    intro xs hr
    unfold Reps at hr ⊢
    obtain ⟨x, r, e, h3, h4⟩ := hr
    exact ⟨x, r, e, h1 _ _ _ h3, ih h4⟩
theorem Le.agg {l l' : List AV} (h : Les l l') : Le (.agg l) (.agg l') := by
  intro M w v hr
  unfold Rep at hr ⊢
  obtain ⟨ys, e, hr, h1⟩ := hr
  exact ⟨ys, e, h.reps hr, h1⟩
theorem Le.tup {l l' : List AV} (h : Les l l') : Le (.tup l) (.tup l') := by
  intro M w v hr
  unfold Rep at hr ⊢
  obtain ⟨ys, e, hr⟩ := hr
  exact ⟨ys, e, h.reps hr⟩
theorem FSpec.les {P : Program} {g : FuncId} {args args' : List AV} {cs : List Chunk} {R : AV → List Chunk → Prop} (h : FSpec P g args' cs R) (hl : Les args args') : FSpec P g args cs R :=
  ⟨fun X S w xs h1 h2 h3 h4 => h.out X S w xs h1 h2 h3 (hl.reps h4)⟩
theorem le_nil {k h : Nat} : Le (.v (.slice none 0 0) h) (.d (.sl k [])) := by
  intro M w v hr
  unfold Rep at hr
  subst hr
  unfold Rep DRep
  exact ⟨none, 0, rfl, by simp, by simp, by simp⟩
theorem nd_of {d : Dat} : Le (.d d) (nd d) := by
  cases d with
  | v x => exact le_dv
  | sl k es => exact Le.refl _
  | ifc t ag ds => exact Le.refl _
  | p ds => exact Le.refl _
theorem FSpec.ofNd {P : Program} {g : FuncId} {d : Dat} {ls : List AV} {cs : List Chunk} {R : AV → List Chunk → Prop} (h : FSpec P g (nd d :: ls) cs R) : FSpec P g (.d d :: ls) cs R :=
  ⟨fun X S w xs h1 h2 h3 h4 => h.out X S w xs h1 h2 h3 (by
    unfold Reps at h4 ⊢
    obtain ⟨x, r, rfl, h5, h6⟩ := h4
    exact ⟨x, r, rfl, nd_of _ _ _ h5, h6⟩)⟩
section
variable {P : Program} {L : List TD} {n : Nat} {Q : Exit → Act → World → Prop} {c : Ctx}
variable {s : AMS} {f : AEnv} {σ : Store}
theorem a_asL (t : Nat) {a b : AV} (ha : getA f t = a) (hle : Le a b) (hk : DenA c P n Q s ((t, b) :: f) σ) : DenA c P n Q s f σ := by
  refine ⟨fun hok w S fc Sg hs hh => hk.out hok w S fc Sg ⟨fun t' => ?_, hs.ev, hs.sub⟩ hh⟩
  rw [getA_cons]
  split
  · rename_i e
    subst e
    have := hs.env t'
    rw [ha] at this
    exact hle _ _ _ this
  · exact hs.env t'
theorem a_nilrowB (kb off kn e k : Nat) {g : Nat} {tb : TypeId} {cs : List AV} {hh0 : Nat} (hst : s.still = true) (hb : look σ kb = some (.blk g tb cs)) (ht : cs[off]? = some (.v (.slice none 0 0) hh0))
    (hk : DenA c P n Q s f ((kb, .blk g tb (cs.set off (.row (.slice none 0 0) kn))) :: (kn, .row (.slice none 0 0) e k []) :: del σ kb)) : DenA c P n Q s f σ := by
  refine a_ghost hst (fun Y S w fc hdY hh he => ?_) hk
  obtain ⟨B1, B2, hB, hdB, hcB, hrB⟩ := hh.take hb
  obtain ⟨hB1, xs, hblk, hrx, h1⟩ := hcB
  refine ⟨S, ⟨B1, B2, hB, hdB, ⟨hB1, xs, hblk, ?_, h1⟩, ⟨no, B2, fun b => ⟨.inr, fun h => h.elim (fun h => h.elim) id⟩, fun _ h => h.elim, row_nil e k, hrB⟩⟩, he, fun b h => h⟩
  obtain ⟨y, hy, hry⟩ := hrx.get _ _ ht
  have hry := rep_v hry
  have := hrx.set off (.row (.slice none 0 0) kn) y (by unfold Rep; exact ⟨hry, rfl⟩)
  have e : xs.set off y = xs := by
    apply List.ext_getElem?
    intro j
    rw [List.getElem?_set]
    split
    · rename_i e; subst e; rw [if_pos (List.getElem?_eq_some_iff.1 hy).1]; exact hy.symm
    · rfl
  rwa [e] at this
theorem a_cellL (kb off : Nat) {g : Nat} {tb : TypeId} {cs : List AV} {a b : AV} (hst : s.still = true) (hb : look σ kb = some (.blk g tb cs)) (ht : cs[off]? = some a) (hle : Le a b)
    (hk : DenA c P n Q s f ((kb, .blk g tb (cs.set off b)) :: del σ kb)) : DenA c P n Q s f σ := by
  refine a_ghost hst (fun Y S w fc hdY hh he => ?_) hk
  obtain ⟨B1, B2, hB, hdB, hcB, hrB⟩ := hh.take hb
  obtain ⟨hB1, xs, hblk, hrx, h1⟩ := hcB
  refine ⟨S, ⟨B1, B2, hB, hdB, ⟨hB1, xs, hblk, ?_, h1⟩, hrB⟩, he, fun b h => h⟩
  obtain ⟨y, hy, hry⟩ := hrx.get _ _ ht
  have := hrx.set off b y (hle _ _ _ hry)
  have e : xs.set off y = xs := by
    apply List.ext_getElem?
    intro j
    rw [List.getElem?_set]
    split
    · rename_i e; subst e; rw [if_pos (List.getElem?_eq_some_iff.1 hy).1]; exact hy.symm
    · rfl
  rwa [e] at this
end
end Go.Proofs.YtjcolfogmmjaoaaGreatDoor.A
end

section
set_option linter.unusedVariables false
set_option linter.unusedSimpArgs false
set_option maxRecDepth 100000
namespace Go.Proofs.YtjcolfogmmjaoaaGreatDoor.A
open V
def isIfc (P : Program) (t : TypeId) : Bool := match P.underlying t with
  | some (.interface _) => true
  | _ => false
def cmpOk (P : Program) (t : TypeId) : Bool := match P.info? t with
  | some i => i.comparable
  | none => false
def ifcV : AV → Option (TypeId × Value)
  | .ifc t (.v x _) => if one1 (.v x 0) then some (t, x) else none
  | .d (.ifc t false [.v x]) => some (t, x)
  | _ => none
theorem ifcV_rep {M : Nat → Prop} {w : World} {t : TypeId} {u : Value} {a : AV} {x : Value} (h : ifcV a = some (t, u)) (hr : Rep M w a x) : x = .iface t u := by
  unfold ifcV at h
  split at h
  · split at h
    · cases h
      unfold Rep at hr
      obtain ⟨u', rfl, hu⟩ := hr
      rw [rep_v hu]
    · cases h
  · cases h
    unfold Rep DRep at hr
    obtain ⟨u', rfl, _, h1, hv⟩ := hr
    have h1 := h1 rfl
    rw [cells_one h1] at hv
    unfold VRep at hv
    obtain ⟨y, r, e, hd, hr⟩ := hv
    simp at e
    obtain ⟨rfl, rfl⟩ := e
    unfold DRep at hd
    rw [hd.1]
  · cases h
def ifcT : AV → Option (Option TypeId)
  | .ifc t _ => some (some t)
  | .d (.ifc t _ _) => some (some t)
  | .d (.v .nilIface) => some none
  | .v .nilIface _ => some none
  | _ => none
def isT (q : Option TypeId) (x : Value) : Prop := match q with
  | some t => ∃ u, x = .iface t u
  | none => x = .nilIface
theorem ifcT_rep {M : Nat → Prop} {w : World} {a : AV} {x : Value} {q : Option TypeId} (h : ifcT a = some q) (hr : Rep M w a x) : isT q x := by
  unfold ifcT at h
  split at h
  · cases h
    unfold Rep at hr
    obtain ⟨u, rfl, _⟩ := hr
    exact ⟨u, rfl⟩
  · cases h
    unfold Rep DRep at hr
    obtain ⟨u, rfl, _⟩ := hr
    exact ⟨u, rfl⟩
  · cases h
    unfold Rep DRep at hr
    exact hr.1
  · cases h
    exact rep_v hr
  · cases h
def scal : TD → Value → Value → Option Bool
  | .int _, .int k a, .int k' b => if k = k' then some (a == b) else none
  | .bool, .bool a, .bool b => some (a == b)
  | .str, .string a, .string b => some (a == b)
  | _, _, _ => none
def difT : Option TypeId → Option TypeId → Bool
  | some a, some b => !(Nat.beq a b)
  | none, none => false
  | _, _ => true
section
variable {P : Program} {L : List TD} {n : Nat} {Q : Exit → Act → World → Prop} {c : Ctx}
variable {s : AMS} {f f' : AEnv} {σ σ' : Store} {κ : List Kt} {all : Array Oper} {dec : List Nat} {rest : List (Oper × Bool)} {m : Mode} {o : Oper} {al : Bool} {ob : Obs}
theorem bool_tl (hT : TOk P L) {t : TypeId} (ht : tl L t = .bool) : P.underlying t = some .bool := by
  rcases hT t with h | h
  · rw [h] at ht; cases ht
  · rw [h] at ht; exact tdOf_bool ht
theorem run_ieq (hT : TOk P L) {xt t : TypeId} {u v : Value} {r : Bool} {x y : Operand} (hi : isIfc P xt = true) (hc : cmpOk P t = true) (hs : scal (tl L t) u v = some r) (w : World) :
    (eqGuard .eql xt x y (.iface t u) (.iface t v)).run P w = .ok () w ∧ (binOp .eql xt (.iface t u) (.iface t v)).run P w = .ok (.bool r) w := by
  unfold isIfc at hi
  unfold cmpOk at hc
  split at hi <;> try cases hi
  rename_i ms hu
  split at hc <;> try cases hc
  rename_i i hinf
  have hg : (eqGuard .eql xt x y (.iface t u) (.iface t v)).run P w = .ok () w := by simp [eqGuard]
  have he : ∀ d, (Op.equalIn (d + 1) t u v).run P w = .ok r w := by
    intro d
    unfold scal at hs
    split at hs
    · rename_i k' k a k2 b htl
      split at hs
      · rename_i hk
        cases hs
        subst hk
        have hut := int_tl hT htl
        unfold Op.equalIn
        simp only [Sem.run_bind, underlying, run_program, Result.andThen_ok, hut, Sem.run_pure, if_true]
      · cases hs
    · rename_i a b htl
      cases hs
      have hut := bool_tl hT htl
      unfold Op.equalIn
      simp only [Sem.run_bind, underlying, run_program, Result.andThen_ok, hut, Sem.run_pure]
    · rename_i a b htl
      cases hs
      have hut := str_tl hT htl
      unfold Op.equalIn
      simp only [Sem.run_bind, underlying, run_program, Result.andThen_ok, hut, Sem.run_pure]
    · cases hs
  have h2 : (Op.equal xt (.iface t u) (.iface t v)).run P w = .ok r w := by
    show (Op.equalIn (9998 + 1 + 1) xt (.iface t u) (.iface t v)).run P w = _
    have he := he 9998
    generalize 9998 + 1 = d at he ⊢
    unfold Op.equalIn
    simp only [Sem.run_bind, underlying, run_program, Result.andThen_ok, hu, Sem.run_pure, typeInfo, hinf, hc, he, ne_eq, not_true_eq_false, if_false, Bool.not_true, Bool.false_eq_true]
  exact ⟨hg, by simp only [Sem.run_bind, binOp, h2, Result.andThen_ok, Sem.run_pure]⟩
theorem a_ieq (hT : TOk P L) {x y : Operand} {xt t yt : TypeId} {u v : Value} (r : Bool) (h : machA L n fuel s f σ [] = ⟨.op m κ all dec o al rest, f', σ', ob⟩) (hob : ob.map (·.1) = ob.map (·.2)) (ho : o.op = .binOp .eql xt x y yt)
    (hx : ifcV (evA n f' x) = some (t, u)) (hy : ifcV (evA n f' y) = some (t, v)) (hi : isIfc P xt = true) (hc : cmpOk P t = true) (hs : scal (tl L t) u v = some r) (hk : DenA c P n Q (.ops m κ all dec rest) (putA f' o.dst (.v (.bool r) 0)) σ') : DenA c P n Q s f σ := by
  refine a_pure hT (.v (.bool r) 0) h hob (fun M w fc he => ?_) hk
  have h2 := ifcV_rep hx (he.eval (n := n) x)
  have h3 := ifcV_rep hy (he.eval (n := n) y)
  refine ⟨.bool r, fun w' => ?_, mk_v⟩
  obtain ⟨q1, q2⟩ := run_ieq (x := x) (y := y) hT hi hc hs w'
  simp [execOp, ho, h2, h3, q1, q2]
theorem run_ieqN {xt : TypeId} {u v : Value} {x y : Operand} {p q : Option TypeId} (hi : isIfc P xt = true) (hd : difT p q = true) (hu : isT p u) (hv : isT q v) (w : World) :
    (eqGuard .eql xt x y u v).run P w = .ok () w ∧ (binOp .eql xt u v).run P w = .ok (.bool false) w := by
  unfold isIfc at hi
  split at hi <;> try cases hi
  rename_i ms hms
  have h2 : ∀ d, (Op.equalIn (d + 1) xt u v).run P w = .ok false w := by
    intro d
    unfold Op.equalIn
    cases p with
    | none =>
      cases q with
      | none => cases hd
      | some b =>
        obtain ⟨a, rfl⟩ := hv
        unfold isT at hu
        subst hu
        simp only [Sem.run_bind, underlying, run_program, Result.andThen_ok, hms, Sem.run_pure]
    | some b =>
      obtain ⟨a, rfl⟩ := hu
      cases q with
      | none =>
        unfold isT at hv
        subst hv
        simp only [Sem.run_bind, underlying, run_program, Result.andThen_ok, hms, Sem.run_pure]
      | some b2 =>
        obtain ⟨a2, rfl⟩ := hv
        have hne : b ≠ b2 := fun e => by
          subst e
          have : (!(Nat.beq b b)) = true := hd
          rw [Nat.beq_refl] at this
          cases this
        simp only [Sem.run_bind, underlying, run_program, Result.andThen_ok, hms, Sem.run_pure, ne_eq, hne, not_false_eq_true, if_true]
  have h3 : (Op.equal xt u v).run P w = .ok false w := h2 9999
  have hg : (eqGuard .eql xt x y u v).run P w = .ok () w := by
    cases p with
    | none =>
      cases q with
      | none => cases hd
      | some b =>
        obtain ⟨a, rfl⟩ := hv
        unfold isT at hu
        subst hu
        simp [eqGuard]
    | some b =>
      obtain ⟨a, rfl⟩ := hu
      cases q with
      | none =>
        unfold isT at hv
        subst hv
        simp [eqGuard]
      | some b2 =>
        obtain ⟨a2, rfl⟩ := hv
        simp [eqGuard]
  have hb : binOp .eql xt u v = (do pure (.bool (← Op.equal xt u v)) : Sem Value) := by
    cases p with
    | none =>
      cases q with
      | none => cases hd
      | some b =>
        obtain ⟨a, rfl⟩ := hv
        unfold isT at hu
        subst hu
        rfl
    | some b =>
      obtain ⟨a, rfl⟩ := hu
      cases q with
      | none =>
        unfold isT at hv
        subst hv
        rfl
      | some b2 =>
        obtain ⟨a2, rfl⟩ := hv
        rfl
  exact ⟨hg, by simp only [Sem.run_bind, hb, h3, Result.andThen_ok, Sem.run_pure]⟩
theorem a_ieqN (hT : TOk P L) {x y : Operand} {xt yt : TypeId} {p q : Option TypeId} (h : machA L n fuel s f σ [] = ⟨.op m κ all dec o al rest, f', σ', ob⟩) (hob : ob.map (·.1) = ob.map (·.2)) (ho : o.op = .binOp .eql xt x y yt)
    (hx : ifcT (evA n f' x) = some p) (hy : ifcT (evA n f' y) = some q) (hi : isIfc P xt = true) (hd : difT p q = true) (hk : DenA c P n Q (.ops m κ all dec rest) (putA f' o.dst (.v (.bool false) 0)) σ') : DenA c P n Q s f σ := by
  refine a_pure hT (.v (.bool false) 0) h hob (fun M w fc he => ?_) hk
  have h2 := ifcT_rep hx (he.eval (n := n) x)
  have h3 := ifcT_rep hy (he.eval (n := n) y)
  refine ⟨.bool false, fun w' => ?_, mk_v⟩
  obtain ⟨q1, q2⟩ := run_ieqN (x := x) (y := y) hi hd h2 h3 w'
  simp [execOp, ho, q1, q2]
end
end Go.Proofs.YtjcolfogmmjaoaaGreatDoor.A
end

section
set_option linter.unusedVariables false
set_option linter.unusedSimpArgs false
set_option maxRecDepth 100000
namespace Go.Proofs.YtjcolfogmmjaoaaGreatDoor.A
open V
theorem rowDat {M M' S1 : Nat → Prop} {w : World} {x : Value} {e k : Nat} {es : List (List Dat)} (hc : CRep M w (.row x e k es) S1) (hM : ∀ b, M' b → M b) (hd : ∀ b, S1 b → ¬ M' b) : DRep M' w (.sl k es) x := by
  obtain ⟨hS1, hk, xs, ho, hv⟩ := hc
  unfold DRep
  rcases ho.2 with ⟨rfl, h0⟩ | ⟨g, cap, cur, rfl, hb, hh, hn, hcl, hs, ht⟩
  · have : es = [] := List.eq_nil_of_length_eq_zero h0
    subst this
    exact ⟨none, 0, rfl, by simp, by simp, by simp⟩
  · have hg : S1 g := (hS1 g).2 rfl
    refine ⟨_, cap, rfl, hn, hk, fun hne => ⟨_, rfl, hd g hg, (Array.getElem?_eq_some_iff.1 hh).1, SRep.flat.2 (LRep.mk fun j d hj => ?_)⟩⟩
    obtain ⟨y, hy, hr⟩ := hv.get j d hj
    rw [Nat.zero_add]
    exact ⟨y, ho.cells (g := g) rfl j y hy, hr.ev (Ev.refl no w) fun b _ h => h.elim (fun h => h.elim) (hM b)⟩
theorem rowsDat {M : Nat → Prop} {w : World} {α : Type} {c : α → Chunk} : ∀ {L : List α} {S : Nat → Prop}, HoldsL M w (L.map c) S → ∀ p ∈ L, ∃ S1, CRep M w (c p) S1 ∧ ∀ b, S1 b → S b
  | [], S, h, p, hp => by simp at hp
  | q :: L, S, ⟨S1, S2, h1, h2, h3, h4⟩, p, hp => by
    rcases List.mem_cons.1 hp with rfl | hp
    · exact ⟨S1, h3, fun b hb => (h1 b).2 (.inl hb)⟩
    · obtain ⟨S3, h5, h6⟩ := rowsDat (L := L) h4 p hp
      exact ⟨S3, h5, fun b hb => (h1 b).2 (.inr (h6 b hb))⟩
theorem entsDat {M M' : Nat → Prop} {w : World} {κ β : Type} {kv : κ → Value} {vf : β → Value} {df : β → Dat} : ∀ {L : List (κ × β)} {es : List MapEntry}, EntsRep M w (mapG kv (fun x => .row (vf x) 0) L) es → (∀ p ∈ L, DRep M' w (df p.2) (vf p.2)) → EntsRep M' w (mapG kv (fun x => .d (df x)) L) es
  | [], es, h, _ => h
  | p :: L, es, ⟨e, r, h1, h2, h3⟩, hd => by
    refine ⟨e, r, h1, ⟨h2.1, ?_⟩, entsDat (L := L) h3 fun q hq => hd q (by simp [hq])⟩
    have h4 : Rep M w (.row (vf p.2) 0) e.val := h2.2
    unfold Rep at h4
    show Rep M' w (.d (df p.2)) e.val
    rw [h4.1]
    unfold Rep
    exact hd p (by simp)
section
variable {P : Program} {n : Nat} {Q : Exit → Act → World → Prop} {c : Ctx} {s : AMS} {f : AEnv} {σ : Store}
theorem a_freezeM {κ β : Type} {kv : κ → Value} {vf : β → Value} {df : β → List (List Dat)} (km kx : Nat) {r e k : Nat} (L : List (κ × β)) {σr : Store} (hst : s.still = true) (ht : takes σ [km, kx] = some ([.map r (mapG kv (fun x => .row (vf x) 0) L), .ext (listA (L.map fun p => .row (vf p.2) e k (df p.2)))], σr))
    (hk : DenA c P n Q s f ((km, .map r (mapG kv (fun x => .d (.sl k (df x))) L)) :: σr)) : DenA c P n Q s f σ := by
  refine a_ghost hst (fun Y S w fc hdY hh henv => ?_) hk
  obtain ⟨S1, S2, h1, h2, hS, hdis⟩ := hh.takes ht
  obtain ⟨Sm, Sx, h3, h4, ⟨hm1, ents, clock, hm2, hm3, hm4⟩, Sx1, Sx2, h5, h6, h7, h8⟩ := h1
  have hsub : ∀ b, or2 (or2 Sm S2) Y b → or2 S Y b := fun b h => by
    rcases h with (h | h) | h
    · exact .inl ((hS b).2 (.inl ((h3 b).2 (.inl h))))
    · exact .inl ((hS b).2 (.inr h))
    · exact .inr h
  have hx : ∀ b, Sx b → ¬ or2 (or2 Sm S2) Y b := fun b hb h => by
    rcases h with (h | h) | h
    · exact h4 b h hb
    · exact hdis b ((h3 b).2 (.inr hb)) h
    · exact hdY b ((hS b).2 (.inl ((h3 b).2 (.inr hb)))) h
  refine ⟨or2 Sm S2, ⟨Sm, S2, fun b => Iff.rfl, fun b hb h => hdis b ((h3 b).2 (.inl hb)) h, ⟨hm1, ents, clock, hm2, entsDat hm3 fun p hp => ?_, hm4⟩, ?_⟩, ?_, fun b h => h.elim (fun h => (hS b).2 (.inl ((h3 b).2 (.inl h)))) fun h => (hS b).2 (.inr h)⟩
  · obtain ⟨S3, h9, h10⟩ := rowsDat h7 p hp
    exact rowDat h9 hsub fun b hb => hx b ((h5 b).2 (.inl (h10 b hb)))
  · exact h2.ev (Ev.refl no w) (fun b _ h => h.elim (fun h => h.elim) (hsub b)) fun b _ h => h
  · exact fun t => (henv t).ev (Ev.refl no w) fun b _ h => h.elim (fun h => h.elim) (hsub b)
theorem a_nilchunk (kn e k : Nat) (hst : s.still = true) (hk : DenA c P n Q s f ((kn, .row (.slice none 0 0) e k []) :: σ)) : DenA c P n Q s f σ := by
  refine a_ghost hst (fun Y S w fc hdY hh henv => ?_) hk
  exact ⟨S, ⟨no, S, fun b => ⟨.inr, fun h => h.elim (fun h => h.elim) id⟩, fun _ h => h.elim, row_nil e k, hh⟩, henv, fun b h => h⟩
theorem le_nilrow {k h : Nat} : Le (.v (.slice none 0 0) h) (.row (.slice none 0 0) k) := by
  intro M w v hr
  unfold Rep at hr ⊢
  exact ⟨hr, rfl⟩
end
end Go.Proofs.YtjcolfogmmjaoaaGreatDoor.A
end

section
set_option linter.unusedVariables false
set_option linter.unusedSimpArgs false
set_option maxRecDepth 100000
namespace Go.Proofs.YtjcolfogmmjaoaaGreatDoor.A
open V
mutual
theorem DRep.cells {M : Nat → Prop} {w w' : World} (hc : ∀ b, w'.cell? b = w.cell? b) (hz : w.heap.size ≤ w'.heap.size) : ∀ {d : Dat} {x : Value}, DRep M w d x → DRep M w' d x
  | .v u, x, h => by unfold DRep at h ⊢; exact h
  | .sl k es, x, h => by
    unfold DRep at h ⊢
    obtain ⟨A, c, e, h1, hk, hr⟩ := h
    refine ⟨A, c, e, h1, hk, fun hn => ?_⟩
    obtain ⟨ad, ha, hM, hlt, hL⟩ := hr hn
    exact ⟨ad, ha, hM, Nat.lt_of_lt_of_le hlt hz, SRep.cells hc hz hL⟩
  | .ifc t ag ds, x, h => by
    unfold DRep at h ⊢
    obtain ⟨u, e, h1, h2, h3⟩ := h
    exact ⟨u, e, h1, h2, VRep.cells hc hz h3⟩
  | .p ds, x, h => by
    unfold DRep at h ⊢
    obtain ⟨ad, e, hM, hlt, hL⟩ := h
    exact ⟨ad, e, hM, Nat.lt_of_lt_of_le hlt hz, LRep.cells hc hz hL⟩
theorem LRep.cells {M : Nat → Prop} {w w' : World} (hc : ∀ b, w'.cell? b = w.cell? b) (hz : w.heap.size ≤ w'.heap.size) : ∀ {ds : List Dat} {ad : Addr} {i : Nat}, LRep M w ds ad i → LRep M w' ds ad i
  | [], _, _, _ => by unfold LRep; trivial
  | d :: ds, ad, i, h => by
    unfold LRep at h ⊢
    obtain ⟨⟨x, h1, hx⟩, h2⟩ := h
    exact ⟨⟨x, by rw [hc]; exact h1, DRep.cells hc hz hx⟩, LRep.cells hc hz h2⟩
theorem SRep.cells {M : Nat → Prop} {w w' : World} (hc : ∀ b, w'.cell? b = w.cell? b) (hz : w.heap.size ≤ w'.heap.size) : ∀ {es : List (List Dat)} {ad : Addr} {i : Nat}, SRep M w es ad i → SRep M w' es ad i
  | [], _, _, _ => by unfold SRep; trivial
  | e :: es, ad, i, h => by
    unfold SRep at h ⊢
    exact ⟨LRep.cells hc hz h.1, SRep.cells hc hz h.2⟩
theorem VRep.cells {M : Nat → Prop} {w w' : World} (hc : ∀ b, w'.cell? b = w.cell? b) (hz : w.heap.size ≤ w'.heap.size) : ∀ {ds : List Dat} {xs : List Value}, VRep M w ds xs → VRep M w' ds xs
  | [], xs, h => by unfold VRep at h ⊢; exact h
  | d :: ds, xs, h => by
    unfold VRep at h ⊢
    obtain ⟨x, r, e, hx, h2⟩ := h
    exact ⟨x, r, e, DRep.cells hc hz hx, VRep.cells hc hz h2⟩
end
section
variable {P : Program} {L : List TD} {n : Nat} {Q : Exit → Act → World → Prop} {c : Ctx}
variable {s : AMS} {f f' : AEnv} {σ σ' : Store} {κ : List Kt} {all : Array Oper} {dec : List Nat} {rest : List (Oper × Bool)} {m : Mode} {o : Oper} {al : Bool} {ob : Obs}
theorem a_mark (hT : TOk P L) {src e : TypeId} {x : Operand} {v v' : Value} {k h0 : Nat} {es : List (List Dat)} (h : machA L n fuel s f σ [] = ⟨.op m κ all dec o true rest, f', σ', ob⟩) (hob : ob.map (·.1) = ob.map (·.2)) (ho : o.op = .convert src src x) (hs : tl L src = .sl e k) (he : tl L e = .int .u8)
    (hx : evA n f' x = .row v h0) (hl : look σ' h0 = some (.row v' e k es)) (hvv : v = v') (hne : es ≠ []) (hk : DenA c P n Q (.ops (m.hap true) κ all dec rest) (putA f' o.dst (.d (.sl k es))) (del σ' h0)) : DenA c P n Q s f σ := by
  subst hvv
  refine a_eff hT (fun a σ1 => a = .d (.sl k es) ∧ σ1 = del σ' h0) h hob (fun Y Su w fc hd hY hh henv => ?_) (fun a σ1 ⟨ha, hs⟩ => by subst ha; subst hs; exact hk)
  obtain ⟨S1, S2, hS, hdis, hc, hrest⟩ := hh.take hl
  have hfr := row_frozen hc hS hdis hd
  obtain ⟨hS1, hkl, xs, hown, hv⟩ := hc
  have hxv := henv.eval (n := n) x
  rw [hx] at hxv
  unfold Rep at hxv
  rcases hown.2 with ⟨rfl, h2⟩ | ⟨g, cap, cur, rfl, _⟩
  · exact absurd (List.eq_nil_of_length_eq_zero h2) hne
  have h1 := (sl_tl hT hs).1
  have h2 := int_tl hT he
  have hrun : ∃ w', (convert src src (.slice (some ⟨g, 0, none⟩) es.length cap)).run P w = .ok (.slice (some ⟨g, 0, none⟩) es.length cap) w' ∧ Ev (at1 g) w w' ∧ ∀ b, w'.cell? b = w.cell? b := by
    unfold convert
    simp only [Sem.run_bind, run_underlying h1, Result.andThen_ok, run_underlying h2, beq_self_eq_true, markStringish, run_shape]
    cases hsh : w.shape? g with
    | none => exact ⟨w, by simp, Ev.refl _ _, fun _ => rfl⟩
    | some p =>
      obtain ⟨t, q⟩ := p
      exact ⟨_, by simp only [Sem.run_bind, run_freeze, Result.andThen_ok, Sem.run_pure], Ev.freeze w ⟨g, q, none⟩ 1, cell_freeze w _ _⟩
  obtain ⟨w', hrun, hev, hcl⟩ := hrun
  have hrun' : (execOp (ev n fc) o).run P w = .ok (.value (.slice (some ⟨g, 0, none⟩) es.length cap)) w' := by
    unfold execOp
    simp only [ho, Sem.run_bind, Sem.run_pure, hxv.1, hrun, Result.andThen_ok]
  rw [hrun']
  have hg : S1 g := (hS1 g).2 rfl
  refine ⟨_, _, S2, ⟨rfl, rfl⟩, ?_, hrest.ev hev (fun b _ h => ?_) (fun b hb h => ?_), hev.mono fun b _ h => ?_, fun b hb => .inl ((hS b).2 (.inr hb))⟩
  · unfold Rep
    exact DRep.cells hcl hev.size hfr
  · rcases h with h | h | h
    · unfold at1 at h; subst h; exact .inl ((hS b).2 (.inl hg))
    · exact .inl ((hS b).2 (.inr h))
    · exact .inr h
  · unfold at1 at h; subst h; exact hdis b hg hb
  · unfold at1 at h; subst h; exact (hS b).2 (.inl hg)
end
end Go.Proofs.YtjcolfogmmjaoaaGreatDoor.A
end
