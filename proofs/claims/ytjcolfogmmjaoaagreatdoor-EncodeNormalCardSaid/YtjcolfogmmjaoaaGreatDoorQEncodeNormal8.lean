import Derived.Test.YtjcolfogmmjaoaaGreatDoorQEncodeNormal7
import Derived.Lib.Bytealg
import Derived.Test.YtjcolfogmmjaoaaGreatDoorQEncodeNormal4
import Derived.Test.YtjcolfogmmjaoaaGreatDoorQEncodeNormal5
import Derived.Test.YtjcolfogmmjaoaaGreatDoorQEncodeNormal6
section
/- A function of the model's own that reads values alone, called. It holds of any program. -/
set_option linter.unusedVariables false
set_option linter.unusedSimpArgs false
set_option maxRecDepth 100000
namespace Go.Proofs.YtjcolfogmmjaoaaGreatDoor.A
open V
def valK : AV → Option Value
  | .v x _ => some x
  | _ => none
section
variable {P : Program} {L : List TD} {n : Nat} {Q : Exit → Act → World → Prop} {c : Ctx}
variable {s : AMS} {f f' : AEnv} {σ σ' : Store} {κ : List Kt} {all : Array Oper} {dec : List Nat} {rest : List (Oper × Bool)} {m : Mode} {o : Oper} {al : Bool} {ob : Obs}
theorem a_ext (hT : TOk P L) {k : FuncId} {xs : Array Operand} {ts : Array TypeId} (args : List Value) (v : Value) (h : machA L n fuel s f σ [] = ⟨.op m κ all dec o true rest, f', σ', ob⟩) (hob : ob.map (·.1) = ob.map (·.2)) (ho : o.op = .call ⟨.value (.func k), xs, ts⟩)
    (ha : (xs.toList.map fun x => valK (evN n f' x)) = args.map some) (hr : ∀ w, (callFunc k args.toArray).run P w = .ok (.value v) w)
    (hk : DenA c P n Q (.ops (m.hap true) κ all dec rest) (putA f' o.dst (.v v 0)) σ') : DenA c P n Q s f σ := by
  refine a_eff hT (fun a σ1 => a = .v v 0 ∧ σ1 = σ') h hob (fun Y Su w fc hd hY hh he => ?_) (fun a σ1 ⟨ha, hs⟩ => by subst ha; subst hs; exact hk)
  have hval : ∀ (l : List Operand) (vs : List Value), (l.map fun x => valK (evN n f' x)) = vs.map some → l.map (ev n fc) = vs := by
    intro l
    induction l with
    | nil => intro vs h; cases vs with | nil => rfl | cons _ _ => simp at h
    | cons x l ih =>
      intro vs h
      cases vs with
      | nil => simp at h
      | cons u vs =>
        simp only [List.map_cons, List.cons.injEq] at h
        rw [List.map_cons, ih vs h.2]
        congr 1
        have h3 := he.evalN (n := n) x
        have h4 := h.1
        cases hx : evN n f' x <;> rw [hx] at h4 <;> simp [valK] at h4
        rw [hx] at h3
        rw [rep_v h3, h4]
  have hrun : (execOp (ev n fc) o).run P w = .ok (.value v) w := by
    have h1 : xs.map (ev n fc) = args.toArray := by
      have := hval xs.toList args ha
      rw [← this]
      obtain ⟨xs⟩ := xs
      simp
    simp [execOp, ho, resolve, invoke, ev, evK, Deferred.ofValue, hr, h1]
  rw [hrun]
  exact ⟨_, _, Su, ⟨rfl, rfl⟩, mk_v, hh, Ev.refl _ _, fun b hb => .inl hb⟩
end
end Go.Proofs.YtjcolfogmmjaoaaGreatDoor.A
end

section
/- From the row's own reading of the arguments to data, types that hold themselves among them. It holds of any program. -/
set_option linter.unusedVariables false
set_option linter.unusedSimpArgs false
namespace Go.Proofs.YtjcolfogmmjaoaaGreatDoor.A
open V
def ShF (P : Program) (R : TypeId → List Dat → Prop) : List Field → List Dat → Prop
  | [], ds => ds = []
  | f :: fs, ds => ∃ a r, ds = a ++ r ∧ R f.type a ∧ ShF P R fs r
/-- Data of a type, so deep at most. -/
def ShT (P : Program) : Nat → TypeId → List Dat → Prop
  | 0, _, _ => False
  | g + 1, t, ds => match P.underlying t with
    | some .bool => ∃ b, ds = [.v (.bool b)]
    | some (.int k) => ∃ m, ds = [.v (.int k m)] ∧ (Lit.int k m).wf = true
    | some .string => ∃ b : ByteArray, ds = [.v (.string b)] ∧ b.size ≤ reachBytes
    | some (.slice e) => ∃ xs : List (List Dat), ds = [.sl (P.cellsOf e) xs] ∧ xs.length ≤ reachBytes ∧ ∀ x ∈ xs, ShT P g e x
    | some (.struct fs) => ShF P (ShT P g) fs.toList ds
    | _ => False
def layF (P : Program) (ts : List TypeId) : Nat → List Field → Nat → Bool
  | off, [], n => off == n
  | off, f :: fs, n => f.offset == off && ts.contains f.type && layF P ts (off + P.cellsOf f.type) fs n
def layT (P : Program) (ts : List TypeId) (t : TypeId) : Bool := match P.underlying t with
  | some .bool => true
  | some (.int _) => true
  | some .string => true
  | some (.slice e) => decide (0 < P.cellsOf e) && decide (0 < P.bytesOf e) && ts.contains e
  | some (.struct fs) => layF P ts 0 fs.toList (P.cellsOf t)
  | _ => false
/-- Types that lead to each other alone, laid out as they should be. -/
def layOk (P : Program) (ts : List TypeId) : Bool := ts.all (layT P ts)
theorem VRep.app2 {M : Nat → Prop} {w : World} : ∀ {ds ds' : List Dat} {xs xs' : List Value}, VRep M w ds xs → VRep M w ds' xs' → VRep M w (ds ++ ds') (xs ++ xs')
  | [], ds', xs, xs', h, h' => by unfold VRep at h; subst h; simpa using h'
  | d :: ds, ds', xs, xs', h, h' => by
    unfold VRep at h
    obtain ⟨x, r, rfl, h1, h2⟩ := h
    simp only [List.cons_append]
    unfold VRep
    exact ⟨x, _, rfl, h1, VRep.app2 h2 h'⟩
theorem VRep.len2 {M : Nat → Prop} {w : World} : ∀ {ds : List Dat} {xs : List Value}, VRep M w ds xs → xs.length = ds.length
  | [], xs, h => by unfold VRep at h; simp [h]
  | d :: ds, xs, h => by unfold VRep at h; obtain ⟨x, r, rfl, _, h2⟩ := h; simp [VRep.len2 h2]
theorem vrep_one {M : Nat → Prop} {w : World} {d : Dat} {x : Value} (h : DRep M w d x) : VRep M w [d] [x] := by
  unfold VRep
  exact ⟨x, [], rfl, h, by unfold VRep; rfl⟩
theorem VRep.toL2 {M : Nat → Prop} {w : World} {ad : Addr} : ∀ {ds : List Dat} {cs : List Value} (i : Nat), VRep M w ds cs → Cells w (ad.add i) cs → LRep M w ds ad i
  | [], cs, i, h, hc => by unfold LRep; trivial
  | d :: ds, cs, i, h, hc => by
    unfold VRep at h
    obtain ⟨x, r, rfl, h1, h2⟩ := h
    unfold LRep
    refine ⟨⟨x, by have := hc 0 x rfl; rwa [Addr.add_add, Nat.add_zero] at this, h1⟩, VRep.toL2 (i + 1) h2 fun j v hj => ?_⟩
    have := hc (j + 1) v (by simpa using hj)
    simpa [Addr.add_add, Nat.add_assoc, Nat.add_comm 1] using this
theorem SRep.app1 {M : Nat → Prop} {w : World} {ad : Addr} {e : List Dat} : ∀ {es : List (List Dat)} {i : Nat}, SRep M w es ad i → LRep M w e ad (i + es.flatten.length) → SRep M w (es ++ [e]) ad i
  | [], i, _, h => by unfold SRep; exact ⟨by simpa using h, by unfold SRep; trivial⟩
  | x :: es, i, h, h' => by
    unfold SRep at h
    simp only [List.cons_append]
    unfold SRep
    exact ⟨h.1, SRep.app1 h.2 (by simpa [Nat.add_assoc] using h')⟩
section
variable {H : Type} {enc : TypeId × Value → H} {P : Program} {w : World} {sp : Nat → Bool}
theorem fields_sh {fuel : Nat} {ts : List TypeId} {n : Nat} (ih : ∀ t cs d ps, ts.contains t = true → DataW.trod enc P w 0 sp true fuel t cs = some (d, ps) → (∀ x ∈ d.weights P t, x ≤ reachBytes) → ∃ ds, VRep no w ds cs ∧ ShT P fuel t ds) :
    ∀ (fs : List Field) (off : Nat) (cs : List Value) (xs : List (DataW H × List MemPlace)), layF P ts off fs n = true → cs.length = n →
      (fs.mapM fun f => DataW.trod enc P w 0 sp true fuel f.type ((cs.drop f.offset).take (P.cellsOf f.type))) = some xs → (∀ x ∈ DataW.weightsEach P (fs.map (·.type)) (xs.map (·.1)), x ≤ reachBytes) → ∃ ds, VRep no w ds (cs.drop off) ∧ ShF P (ShT P fuel) fs ds
  | [], off, cs, xs, hl, hc, _, _ => by
    simp [layF] at hl
    exact ⟨[], by unfold VRep; exact List.drop_eq_nil_of_le (by omega), rfl⟩
  | f :: fs, off, cs, xs, hl, hc, hm, hwt => by
    unfold layF at hl
    rw [Bool.and_eq_true, Bool.and_eq_true] at hl
    obtain ⟨⟨h1, h2⟩, h3⟩ := hl
    have hoff : f.offset = off := by simpa using h1
    rw [List.mapM_cons] at hm
    cases hf : DataW.trod enc P w 0 sp true fuel f.type ((cs.drop f.offset).take (P.cellsOf f.type)) with
    | none => simp [hf] at hm
    | some y =>
      cases hms : (fs.mapM fun f => DataW.trod enc P w 0 sp true fuel f.type ((cs.drop f.offset).take (P.cellsOf f.type))) with
      | none => simp [hf, hms] at hm
      | some ys =>
        have hxs : xs = y :: ys := by simpa [hf, hms] using hm.symm
        subst hxs
        simp only [List.map_cons, DataW.weightsEach, List.mem_append] at hwt
        obtain ⟨d1, k1, k2⟩ := ih _ _ y.1 y.2 h2 hf (fun x hx => hwt x (.inl hx))
        obtain ⟨d2, k3, k4⟩ := fields_sh ih fs (off + P.cellsOf f.type) cs ys h3 hc hms (fun x hx => hwt x (.inr hx))
        refine ⟨d1 ++ d2, ?_, d1, d2, rfl, k2, k4⟩
        have : cs.drop off = (cs.drop f.offset).take (P.cellsOf f.type) ++ cs.drop (off + P.cellsOf f.type) := by
          rw [hoff, ← List.drop_drop, List.take_append_drop]
        rw [this]
        exact VRep.app2 k1 k3
theorem trod_sh {ts : List TypeId} (hlay : layOk P ts = true) : ∀ (fuel : Nat) (t : TypeId) (cs : List Value) (d : DataW H) (ps : List MemPlace), ts.contains t = true → DataW.trod enc P w 0 sp true fuel t cs = some (d, ps) → (∀ x ∈ d.weights P t, x ≤ reachBytes) → ∃ ds, VRep no w ds cs ∧ ShT P fuel t ds
  | 0, t, cs, d, ps, hts, h, hw => by simp [DataW.trod] at h
  | fuel + 1, t, cs, d, ps, hts, h, hw => by
    have hl : layT P ts t = true := List.all_eq_true.1 hlay t (by simpa using hts)
    unfold layT at hl
    unfold DataW.trod at h
    unfold ShT
    split at hl
    · rename_i hu
      simp only [hu] at h ⊢
      split at h <;> simp_all
      rename_i b
      exact ⟨[.v (.bool b)], vrep_one (by unfold DRep; exact ⟨rfl, rfl⟩), by cases b <;> simp⟩
    · rename_i hu
      simp only [hu] at h ⊢
      split at h <;> simp_all
      exact ⟨_, vrep_one (by unfold DRep; exact ⟨rfl, rfl⟩), _, rfl, h.1.2⟩
    · rename_i hu
      simp only [hu] at h ⊢
      split at h <;> simp_all
      refine ⟨_, vrep_one (by unfold DRep; exact ⟨rfl, rfl⟩), _, rfl, ?_⟩
      have := hw
      rw [← h.2.1] at this
      simpa [DataW.weights] using this
    · rename_i e hu
      simp only [hu] at h ⊢
      rw [Bool.and_eq_true, Bool.and_eq_true, decide_eq_true_eq, decide_eq_true_eq] at hl
      obtain ⟨⟨hk, hby⟩, hte⟩ := hl
      split at h <;> simp_all
      · rename_i heq
        subst heq
        exact ⟨[.sl (P.cellsOf _) []], vrep_one (by unfold DRep; exact ⟨_, 0, rfl, Nat.le_refl _, by simp, fun h => absurd rfl h⟩), [], rfl, by simp, by simp⟩
      · rename_i e2 a len cap heq
        subst heq
        obtain ⟨⟨h1, h2⟩, h3⟩ := h
        cases hm : ((List.range len).mapM fun i => (w.cells? 0 (a.add (i * P.cellsOf e)) (P.cellsOf e)).bind (DataW.trod enc P w 0 sp true fuel e)) with
        | none => simp [hm] at h3
        | some els =>
          obtain ⟨hn, hall⟩ := mapM_some hm
          simp at hn
          rw [hm] at h3
          simp only [Option.bind_some, Option.map_eq_some_iff] at h3
          obtain ⟨rest, _, h3⟩ := h3
          have hd : d = DataW.slice (els.map (·.1)) (rest.map (·.1)) := by injection h3 with h3 _; exact h3.symm
          subst hd
          have hw1 : (els.length + rest.length) * P.bytesOf e ≤ reachBytes := hw _ (by simp [DataW.weights, hu])
          have hlr : len ≤ reachBytes := by
            have := Nat.le_mul_of_pos_right (els.length + rest.length) hby
            omega
          have hwa : ∀ (ys : List (DataW H × List MemPlace)), (∀ x ∈ DataW.weightsAll P e (ys.map (·.1)), x ≤ reachBytes) → ∀ y ∈ ys, ∀ x ∈ y.1.weights P e, x ≤ reachBytes := by
            intro ys
            induction ys with
            | nil => intro _ y hy; simp at hy
            | cons z zs ih =>
              intro hz y hy x hx
              simp only [List.map_cons, DataW.weightsAll, List.mem_append] at hz
              rcases List.mem_cons.1 hy with rfl | hy
              · exact hz x (.inl hx)
              · exact ih (fun x hx => hz x (.inr hx)) y hy x hx
          have hwe := hwa els fun x hx => hw x (by simp [DataW.weights, hu, hx])
          have key : ∀ n, n ≤ len → ∃ xs : List (List Dat), xs.length = n ∧ (∀ x ∈ xs, ShT P fuel e x) ∧ (∀ x ∈ xs, x.length = P.cellsOf e) ∧ xs.flatten.length = n * P.cellsOf e ∧ SRep no w xs a 0 ∧ (n ≠ 0 → a.block < w.heap.size) := by
            intro n
            induction n with
            | zero => exact fun _ => ⟨[], rfl, by simp, by simp, by simp, by unfold SRep; trivial, fun h => absurd rfl h⟩
            | succ n ihn =>
              intro hle
              obtain ⟨xs, k1, k2, k2', k3, k4, k5⟩ := ihn (by omega)
              obtain ⟨y, hyn, hy⟩ := hall n n (List.getElem?_range (by omega))
              cases hc : w.cells? 0 (a.add (n * P.cellsOf e)) (P.cellsOf e) with
              | none => simp [hc] at hy
              | some cs' =>
                simp only [hc, Option.bind_some] at hy
                obtain ⟨ds, d1, d2⟩ := trod_sh hlay fuel e cs' y.1 y.2 (by simpa using hte) hy (hwe y (List.mem_of_getElem? hyn))
                obtain ⟨hcl, hcc⟩ := cells_some hc
                have hdl : ds.length = P.cellsOf e := by rw [← VRep.len2 d1]; exact hcl
                refine ⟨xs ++ [ds], by simp [k1], fun x hx => ?_, fun x hx => ?_, ?_, ?_, fun _ => ?_⟩
                · rcases List.mem_append.1 hx with hx | hx
                  · exact k2 x hx
                  · simp at hx; subst hx; exact d2
                · rcases List.mem_append.1 hx with hx | hx
                  · exact k2' x hx
                  · simp at hx; subst hx; exact hdl
                · simp [k3, hdl, Nat.succ_mul]
                · exact SRep.app1 k4 (VRep.toL2 _ d1 (by rw [k3, Nat.zero_add]; exact hcc))
                · cases hcs : cs' with
                  | nil => rw [hcs] at hcl; simp at hcl; omega
                  | cons v vs =>
                    have := hcc 0 v (by rw [hcs]; rfl)
                    have := World.block_lt_of_cell? w _ this
                    simpa [add_block] using this
          obtain ⟨xs, k1, k2, k2', k3, k4, k5⟩ := key len (Nat.le_refl _)
          refine ⟨[.sl (P.cellsOf e) xs], vrep_one ?_, xs, rfl, by omega, k2⟩
          unfold DRep
          refine ⟨some a, cap, by rw [k1], by omega, k2', fun hn => ⟨a, rfl, id, k5 (fun h => hn (List.eq_nil_of_length_eq_zero (by omega))), k4⟩⟩
    · rename_i fs hu
      simp only [hu] at h ⊢
      split at h <;> try simp_all
      rename_i hlen
      obtain ⟨xs, hxs, hd, _⟩ := h
      have := fields_sh (n := P.cellsOf t) (fun t cs d ps hts => trod_sh hlay fuel t cs d ps hts) fs.toList 0 cs xs hl (by omega) hxs (fun x hx => hw x (by rw [← hd]; simpa [DataW.weights, hu] using hx))
      simpa using this
    · cases hl
end
/-- An argument is data of its type. -/
def ArgT (P : Program) (w : World) (t : TypeId) (v : Value) : Prop := (∃ g ds, ShT P g t ds ∧ VRep no w ds v.cells.toList) ∧ ArgForm P t v
def ArgsT (P : Program) (w : World) : List TypeId → List Value → Prop
  | t :: ts, v :: vs => ArgT P w t v ∧ ArgsT P w ts vs
  | [], [] => True
  | _, _ => False
theorem argsT_cons {P : Program} {w : World} {t : TypeId} {ts : List TypeId} {l : List Value} (h : ArgsT P w (t :: ts) l) : ∃ v r, l = v :: r ∧ ArgT P w t v ∧ ArgsT P w ts r := by
  match l, h with
  | v :: r, h => unfold ArgsT at h; exact ⟨v, r, rfl, h.1, h.2⟩
  | [], h => unfold ArgsT at h; exact h.elim
theorem argsT_nil {P : Program} {w : World} {l : List Value} (h : ArgsT P w [] l) : l = [] := by
  match l, h with
  | [], _ => rfl
  | _ :: _, h => unfold ArgsT at h; exact h.elim
section
open Go.ChangeShapes Go.RowKit
variable {H : Type} {enc : TypeId × Value → H} {P : Program}
theorem args_okT {W : World} {sp : Nat → Bool} {base : Nat} {tl : List TypeId} (hlay : layOk P tl = true) : ∀ {ts : List TypeId} {vs : List Value} {ds : List (DataW H)} {ps : List MemPlace}, DataW.TrodAll enc P W 0 sp true ts vs ds ps → ts.all tl.contains = true → (∀ x ∈ DataW.weightsEach P ts ds, x ≤ reachBytes) →
    (∀ (j : Nat) t v, ts[j]? = some t → vs[j]? = some v → Value.okWide P W .any base t v) → ArgsT P W ts vs ∧ vs.length = ts.length ∧ ds.length = ts.length
  | [], vs, ds, ps, h, ht, _, _ => by
    obtain ⟨rfl, rfl, rfl⟩ := trodAll_nil h
    exact ⟨by unfold ArgsT; trivial, rfl, rfl⟩
  | t :: ts, vs, ds, ps, h, ht, hwt, hw => by
    obtain ⟨v, vs, d, ds, p, q, rfl, rfl, rfl, ⟨fuel, h0⟩, h1⟩ := trodAll_cons h
    simp only [List.all_cons, Bool.and_eq_true] at ht
    obtain ⟨k1, k2, k3⟩ := args_okT hlay h1 ht.2 (fun x hx => hwt x (by simp [DataW.weightsEach, hx])) fun j t v hj hv => hw (j + 1) t v (by simpa using hj) (by simpa using hv)
    obtain ⟨dd, d1, d2⟩ := trod_sh hlay fuel t _ d p ht.1 h0 (fun x hx => hwt x (by simp [DataW.weightsEach, hx]))
    refine ⟨?_, by simp [k2], by simp [k3]⟩
    unfold ArgsT
    refine ⟨⟨⟨fuel, dd, d2, d1⟩, fun hs => ?_, fun hs cs hv => ?_⟩, k1⟩
    · have := hw 0 t v rfl rfl
      unfold Value.okWide at this
      unfold isStruct at hs
      split at this
      · obtain ⟨cs, rfl, _⟩ := this; rfl
      · obtain ⟨cs, rfl, _⟩ := this; rfl
      · rename_i hn1 _
        split at hs
        · exact absurd (by assumption) (hn1 _)
        · cases hs
    · have := hw 0 t v rfl rfl
      subst hv
      unfold isStruct at hs
      unfold Value.okWide at this
      have ha : layT P tl t = true := List.all_eq_true.1 hlay t (by simpa using ht.1)
      unfold layT at ha
      split at ha
      · rename_i hu; simp [hu, Cell.okWide, Cell.ok] at this
      · rename_i hu; simp [hu, Cell.okWide, Cell.ok] at this
      · rename_i hu; simp [hu, Cell.okWide, Cell.ok] at this
      · rename_i hu; simp [hu, Cell.okWide, Cell.ok] at this
      · rename_i hu; simp [hu] at hs
      · cases ha
theorem law_postR {s : ChangeSpec} {fn : Func} {f : FuncId} {b : TypeId} (tl : List TypeId) (hl : laidOutB P = true) (hp : fn.params.toList.all (fun t => P.readableRec t && decide (t < P.types.size)) = true)
    (hlay : layOk P tl = true) (hin : fn.params.toList.all tl.contains = true) (hb : fn.resultTypes = #[b]) (hub : P.underlying b = some .bool) (hvars : s.vars = [])
    (hfn : ∀ ds : List (DataW H), ds.length = fn.params.toList.length → (s.fn H ds).results = [.lit (.bool true)] ∧ (s.fn H ds).args = ds ∧ (s.fn H ds).vars = [])
    (walk : ∀ W args, ArgsT P W fn.params.toList args.toList → Calls P f args W (LawR W))
    (W : World) (base : Nat) (args : Array Value) (ds gs : List (DataW H)) (before : List MemPlace) (hval : ∀ (j : Nat) t v, fn.params[j]? = some t → args[j]? = some v → Value.okWide P W .any base t v)
    (hW : DataW.Whole enc P fn.params.toList s.vars false W args.toList ds gs before)
    (hsz : (DataW.weightsEach P (fn.params.toList ++ s.plain.varTypes P) (ds ++ gs)).all (· ≤ reachBytes) = true) (hvt : s.plain.varTypes P = []) :
    Calls P f args W fun e W' => ∃ v, e = .returned v ∧ s.post enc P fn false true false false W args v W' := by
  have hW' := hW
  obtain ⟨p, q, hA, hV, rfl, hfz, hnd⟩ := hW
  rw [hvars] at hV
  obtain ⟨rfl, rfl⟩ := trodVars_none hV
  obtain ⟨hargs, hn, hd⟩ := args_okT hlay hA hin (by simpa [hvt] using hsz) fun j t v hj hv => hval j t v (by simpa using hj) (by simpa using hv)
  refine (walk W args hargs).mono fun e W' ⟨he, hev⟩ => ?_
  subst he
  obtain ⟨r1, r2, r3⟩ := hfn (ds ++ []) (by simpa using hd)
  refine ⟨_, rfl, ds, [], p ++ [], [], p, [], hW', ?_, ?_, ?_, hev.below.frame _, fun h => by cases h⟩
  · rw [r1, hb]
    exact trodAll_mk1 (shut_bool hub _)
  · rw [r2]
    simpa using args_same hl hev.below hp hA (DataW.TrodAll.lt hA)
  · rw [hvars, r3]
    unfold DataW.TrodVars; rfl
end
end Go.Proofs.YtjcolfogmmjaoaaGreatDoor.A
end

section
/- A slice's literal whose first elements aren't named; elements of one cell. It holds of any program. -/
set_option linter.unusedVariables false
set_option linter.unusedSimpArgs false
set_option maxRecDepth 100000
namespace Go.Proofs.YtjcolfogmmjaoaaGreatDoor.A
open V
section
variable {P : Program} {L : List TD} {n : Nat} {Q : Exit → Act → World → Prop} {c : Ctx}
variable {s : AMS} {f f' : AEnv} {σ σ' : Store} {κ : List Kt} {all : Array Oper} {dec : List Nat} {rest : List (Oper × Bool)} {m : Mode} {o : Oper} {al : Bool} {ob : Obs}
theorem a_litF (hT : TOk P L) (kn i0 : Nat) {t e : TypeId} {mm : Nat} {ps : Array (Nat × Operand)} {es : List (List Dat)} {z : Value} (h : machA L n fuel s f σ [] = ⟨.op m κ all dec o true rest, f', σ', ob⟩) (hob : ob.map (·.1) = ob.map (·.2)) (ho : o.op = .buildSlice t mm ps) (ht : tl L t = .sl e 1) (hel : elemOk P e 1 = true) (hz : ((P.info? e).bind (·.zero)) = some z) (h1 : z.oneCell' = true)
    (hl : litK 1 i0 (ps.toList.map fun p => (p.1, evA n f' p.2)) = some es) (hm : Nat.beq (i0 + es.length) mm = true) (hmx : Nat.ble mm 1000000 = true)
    (hk : ∀ x, DenA c P n Q (.ops (m.hap true) κ all dec rest) (putA f' o.dst (.row x kn)) ((kn, .row x e 1 (List.replicate i0 [.v z] ++ es)) :: σ')) : DenA c P n Q s f σ := by
  refine a_eff hT (fun a σ1 => ∃ x, a = .row x kn ∧ σ1 = (kn, .row x e 1 (List.replicate i0 [.v z] ++ es)) :: σ') h hob (fun Y Su w fc hd hY hh he => ?_) (fun a σ1 ⟨g, ha, hs⟩ => by subst ha; subst hs; exact hk g)
  have hm' := Nat.eq_of_beq_eq_true hm
  have hmx' := Nat.le_of_ble_eq_true hmx
  subst hm'
  have hT1 := sl_tl hT ht
  obtain ⟨i, z', hi, hisz, hby, hk0, hz', hzk⟩ := elemOk_spec hel
  have hzz : z' = z := by rw [hi] at hz; simpa [hz'] using hz
  subst hzz
  have hzc : z'.cells = #[z'] := Array.ext' (by rw [cells_one h1])
  have hrep : ∀ l : List (Nat × Operand), Reps (or2 Su Y) w (l.map fun p => evA n f' p.2) (l.map fun p => ev n fc p.2) := fun l => by
    induction l with
    | nil => exact Reps.nil
    | cons p l ih => exact Reps.cons (he.eval p.2) ih
  obtain ⟨k1, k2, k3, k4, k5⟩ := litK_rep (M := or2 Su Y) (w := w) (vs := ps.toList.map fun p => (p.1, ev n fc p.2)) hl (by simp) (by rw [List.map_map, List.map_map]; exact hrep ps.toList)
  have hflen : ((ps.toList.map fun p => (p.1, ev n fc p.2)).map fun p => p.2.cells.toList).flatten.length = es.length * 1 := by
    rw [k5.len]
    have : ∀ l : List (List Dat), (∀ e ∈ l, e.length = 1) → l.flatten.length = l.length * 1 := by
      intro l
      induction l with
      | nil => intro _; simp
      | cons e l ih => intro hl; rw [List.flatten_cons, List.length_append, hl e (by simp), ih fun e' h' => hl e' (by simp [h']), List.length_cons, Nat.succ_mul]; omega
    exact this es k2
  have hzs : ((Array.range ((i0 + es.length) * 1)).map (#[z'][· % (#[z'] : Array Value).size]!)).toList = List.replicate (i0 + es.length) z' := by
    rw [Nat.mul_one]
    exact made_one z' (i0 + es.length)
  have hfill : Instr.fill (fun i => some (i * 1, 1)) ((Array.range ((i0 + es.length) * 1)).map (#[z'][· % (#[z'] : Array Value).size]!)) (ps.map fun p => (p.1, ev n fc p.2)).toList = some (List.replicate i0 z' ++ ((ps.toList.map fun p => (p.1, ev n fc p.2)).map fun p => p.2.cells.toList).flatten).toArray := by
    have := lit_fill (P := P) (k := 1) ((ps.toList.map fun p => (p.1, ev n fc p.2)).map fun p => p.2.cells.toList) i0 (ps.toList.map fun p => (p.1, ev n fc p.2)) (List.replicate (i0 + es.length) z') k4 (by rw [k3, List.length_replicate]; omega) (by rw [k1, k3]) rfl
    rw [← hzs] at this
    simp only [Array.toArray_toList] at this
    rw [Array.toList_map, this]
    congr 2
    rw [hzs, k3, Nat.mul_one, List.take_replicate, Nat.min_eq_left (by omega), List.drop_eq_nil_of_le (by rw [List.length_replicate]; omega), List.append_nil]
  have hrun : (execOp (ev n fc) o).run P w = .ok (.value (.slice (some ⟨w.heap.size, 0, none⟩) (i0 + es.length) (i0 + es.length))) (w.alloc (.cells (List.replicate i0 z' ++ ((ps.toList.map fun p => (p.1, ev n fc p.2)).map fun p => p.2.cells.toList).flatten).toArray e)) := by
    unfold execOp
    simp only [ho, Sem.run_bind, Sem.run_pure]
    unfold Instr.buildSlice
    simp only [Sem.run_bind, run_underlying hT1.1, Result.andThen_ok, run_sizeOf' hT1.2.1, hT1.2.2]
    rw [if_neg (by omega)]
    by_cases h0 : (i0 + es.length) * 1 = 0
    · have e1 : i0 = 0 := by omega
      have e2 : es = [] := List.eq_nil_of_length_eq_zero (by omega)
      simp only [h0, if_true, Sem.run_pure, Sem.run_bind, Result.andThen_ok]
      rw [h0] at hfill
      simp only [Array.range_zero', Array.map_empty] at hfill ⊢
      rw [hfill]
      simp [newRow]
    · simp only [h0, if_false, zeroValue, typeInfo, Sem.run_pure, Sem.run_bind, run_program, hi, hz', Result.andThen_ok, hzc]
      rw [hfill]
      simp [newRow]
  rw [hrun]
  have hlen : (List.replicate i0 z' ++ ((ps.toList.map fun p => (p.1, ev n fc p.2)).map fun p => p.2.cells.toList).flatten).length = (i0 + es.length) * 1 := by rw [List.length_append, List.length_replicate, hflen]; omega
  have hown := World.ownsRow_lit (base := w.heap.size) (e := e) (size := 1) w (List.replicate i0 z' ++ ((ps.toList.map fun p => (p.1, ev n fc p.2)).map fun p => p.2.cells.toList).flatten).toArray (i0 + es.length) (Nat.le_refl _) (by unfold maxLen; omega) (by simpa using hlen)
  have hv : VRep (or2 Su Y) w (List.replicate i0 [Dat.v z'] ++ es).flatten (List.replicate i0 z' ++ ((ps.toList.map fun p => (p.1, ev n fc p.2)).map fun p => p.2.cells.toList).flatten) := by
    rw [List.flatten_append]
    exact VRep.app2 (vrep_rep h1 i0) k5
  have hk1 : ∀ e' ∈ List.replicate i0 [Dat.v z'] ++ es, e'.length = 1 := fun e' he' => by
    rcases List.mem_append.1 he' with h' | h'
    · rw [(List.mem_replicate.1 h').2]; rfl
    · exact k2 e' h'
  obtain ⟨q1, q2, q3, q4⟩ := holds_row (es := List.replicate i0 [Dat.v z'] ++ es) kn hY hh (Ev.alloc w _) hk1 (by rw [List.length_append, List.length_replicate]; exact hown) hv
  exact ⟨_, _, _, ⟨_, rfl, rfl⟩, by unfold Rep; exact ⟨rfl, q4⟩, q1, q2, q3⟩
end
end Go.Proofs.YtjcolfogmmjaoaaGreatDoor.A
end

section
/- Blocks of one's own, lent: a function that only reads them is called; it takes them as frozen. It holds of any program. -/
set_option linter.unusedVariables false
set_option linter.unusedSectionVars false
set_option linter.unusedSimpArgs false
namespace Go.Proofs.YtjcolfogmmjaoaaGreatDoor.A
open V

def memN (l : List Nat) (k : Nat) : Bool := match l with | [] => false | x :: r => match Nat.beq x k with | true => true | false => memN r k
/-- Pointers to lent blocks, and lent rows, as what lies frozen. -/
def lendK (τ : Store) (ls : List Nat) : List AV → Option (List AV × Obs)
  | [] => some ([], [])
  | a :: axs => match lendK τ ls axs with
    | none => none
    | some (bs, o) => match a with
      | .v (.pointer (some ⟨g, 0, none⟩)) k => match memN ls k with
        | true => match look τ k with
          | some (.blk g' _ cs) => match datsK cs with
            | some ds => some (.d (.p ds) :: bs, (ptrV g none, ptrV g' none) :: o)
            | none => none
          | _ => none
        | false => some (.v (.pointer (some ⟨g, 0, none⟩)) k :: bs, o)
      | .row x k => match memN ls k with
        | true => match look τ k with
          | some (.row x' _ kk es) => some (.d (.sl kk es) :: bs, (x, x') :: o)
          | _ => none
        | false => some (.row x k :: bs, o)
      | a => some (a :: bs, o)
def Lent (τ : Store) (ls : List Nat) (b : Nat) : Prop := ∃ k, memN ls k = true ∧ ((∃ t cs, look τ k = some (.blk b t cs)) ∨ ∃ x e kk es, look τ k = some (.row x e kk es) ∧ V.ob x b)
theorem look_take {M : Nat → Prop} {w : World} {τ : Store} {S : Nat → Prop} {k : Nat} {c : Chunk} (h : Holds M w τ S) (hl : look τ k = some c) : ∃ S1, (∀ b, S1 b → S b) ∧ CRep M w c S1 := by
  obtain ⟨S1, S2, h1, h2, h3, h4⟩ := h.take hl
  exact ⟨S1, fun b hb => (h1 b).2 (.inl hb), h3⟩
theorem row_lent {M M' : Nat → Prop} {S1 : Nat → Prop} {w : World} {x : Value} {e k : Nat} {es : List (List Dat)} (hc : CRep M w (.row x e k es) S1) (hm : ∀ b, M' b → M b ∧ ¬ V.ob x b) : DRep M' w (.sl k es) x := by
  obtain ⟨hS1, hk, xs, ho, hv⟩ := hc
  have hlen := hv.len
  unfold DRep
  rcases ho.2 with ⟨rfl, h0⟩ | ⟨g, cap, cur, rfl, hb, hh, hn, hcl, hs, ht⟩
  · have : es = [] := List.eq_nil_of_length_eq_zero h0
    subst this
    exact ⟨none, 0, rfl, by simp, by simp, by simp⟩
  · refine ⟨_, cap, rfl, hn, hk, fun hne => ⟨_, rfl, fun h => (hm _ h).2 rfl, (Array.getElem?_eq_some_iff.1 hh).1, SRep.flat.2 (LRep.mk fun j d hj => ?_)⟩⟩
    obtain ⟨y, hy, hr⟩ := hv.get j d hj
    rw [Nat.zero_add]
    exact ⟨y, ho.cells (g := g) rfl j y hy, hr.ev (Ev.refl no w) fun b _ h => h.elim (fun h => h.elim) fun h => (hm b h).1⟩
theorem lend_rep {M M' : Nat → Prop} {w : World} {τ : Store} {S : Nat → Prop} {ls : List Nat} (h : Holds M w τ S) (hm : ∀ b, M' b → M b ∧ ¬ Lent τ ls b) :
    ∀ {axs bs : List AV} {o : Obs} {xs : List Value}, lendK τ ls axs = some (bs, o) → o.map (·.1) = o.map (·.2) → Reps M w axs xs → Reps M' w bs xs
  | [], bs, o, xs, hl, ho, hr => by
    simp [lendK] at hl
    obtain ⟨rfl, rfl⟩ := hl
    unfold Reps at hr ⊢
    exact hr
  | a :: axs, bs, o, xs, hl, ho, hr => by
    unfold lendK at hl
    unfold Reps at hr
    obtain ⟨x, r, rfl, hx, hr⟩ := hr
    cases hk : lendK τ ls axs with
    | none => rw [hk] at hl; cases hl
    | some p =>
      obtain ⟨bs', o'⟩ := p
      rw [hk] at hl
      simp only at hl
      have old : ∀ (hl : some (a :: bs', o') = some (bs, o)), Reps M' w bs (x :: r) := fun hl => by
        simp only [Option.some.injEq, Prod.mk.injEq] at hl
        obtain ⟨rfl, rfl⟩ := hl
        exact Reps.cons (hx.of fun b _ hb => (hm b hb).1) (lend_rep h hm hk ho hr)
      split at hl
      · rename_i g k
        split at hl
        · rename_i hmem
          split at hl
          · rename_i g' t cs hlook
            split at hl
            · rename_i ds hds
              simp only [Option.some.injEq, Prod.mk.injEq] at hl
              obtain ⟨rfl, rfl⟩ := hl
              simp only [List.map_cons, List.cons.injEq, ptrV, Value.pointer.injEq, Option.some.injEq, Addr.mk.injEq] at ho
              obtain ⟨⟨rfl, _⟩, ho⟩ := ho
              refine Reps.cons ?_ (lend_rep h hm hk ho hr)
              obtain ⟨S1, hS1, hS, xs', hb, hrs, h1⟩ := look_take h hlook
              have hv := datsK_rep hds hrs
              unfold Rep at hx
              subst hx
              unfold Rep DRep
              have hlt := hb.lt
              refine ⟨⟨g, 0, none⟩, rfl, fun hb' => (hm _ hb').2 ⟨k, hmem, .inl ⟨t, cs, hlook⟩⟩, hlt, LRep.mk fun j d hd => ?_⟩
              obtain ⟨y, hy, hyr⟩ := hv.get j d hd
              refine ⟨y, ?_, hyr.ev (Ev.refl no w) fun b hb h => h.elim (fun h => h.elim) fun h => (hm b h).1⟩
              have := hb.cell j hy
              rw [add_off]
              simpa using this
            · cases hl
          · cases hl
        · exact old hl
      · rename_i x0 k
        split at hl
        · rename_i hmem
          split at hl
          · rename_i x' e kk es hlook
            simp only [Option.some.injEq, Prod.mk.injEq] at hl
            obtain ⟨rfl, rfl⟩ := hl
            simp only [List.map_cons, List.cons.injEq] at ho
            obtain ⟨rfl, ho⟩ := ho
            refine Reps.cons ?_ (lend_rep h hm hk ho hr)
            obtain ⟨S1, hS1, hc⟩ := look_take h hlook
            unfold Rep at hx
            obtain ⟨rfl, _⟩ := hx
            unfold Rep
            exact row_lent hc fun b hb => ⟨(hm b hb).1, fun ho' => (hm b hb).2 ⟨k, hmem, .inr ⟨_, e, kk, es, hlook, ho'⟩⟩⟩
          · cases hl
        · exact old hl
      · exact old hl
/-- What doesn't hang on who owns what. -/
class FreeA (a : AV) : Prop where
  out : ∀ (M M' : Nat → Prop) (w : World) (v : Value), Rep M w a v → Rep M' w a v
class FreeAs (axs : List AV) : Prop where
  out : ∀ (M M' : Nat → Prop) (w : World) (vs : List Value), Reps M w axs vs → Reps M' w axs vs
class FreeC (c : Chunk) : Prop where
  out : ∀ (M M' : Nat → Prop) (w : World) (S : Nat → Prop), CRep M w c S → CRep M' w c S
class FreeCs (cs : List Chunk) : Prop where
  out : ∀ c ∈ cs, FreeC c
instance FreeA.v (x : Value) (h : Nat) : FreeA (.v x h) := ⟨fun M M' w v hr => by unfold Rep at hr ⊢; exact hr⟩
instance FreeA.row (x : Value) (h : Nat) : FreeA (.row x h) := ⟨fun M M' w v hr => by unfold Rep at hr ⊢; exact hr⟩
instance FreeA.dv (x : Value) : FreeA (.d (.v x)) := ⟨fun M M' w v hr => by unfold Rep DRep at hr ⊢; exact hr⟩
instance FreeAs.nil : FreeAs [] := ⟨fun M M' w v hr => by unfold Reps at hr ⊢; exact hr⟩
instance FreeAs.cons {a : AV} {axs : List AV} [h : FreeA a] [h2 : FreeAs axs] : FreeAs (a :: axs) := ⟨fun M M' w v hr => by
  unfold Reps at hr
  obtain ⟨x, r, rfl, h3, h4⟩ := hr
  exact Reps.cons (h.out M M' w x h3) (h2.out M M' w r h4)⟩
instance FreeA.agg {axs : List AV} [h : FreeAs axs] : FreeA (.agg axs) := ⟨fun M M' w v hr => by
  unfold Rep at hr ⊢
  obtain ⟨ys, e, h1, h2⟩ := hr
  exact ⟨ys, e, h.out M M' w ys h1, h2⟩⟩
instance FreeA.tup {axs : List AV} [h : FreeAs axs] : FreeA (.tup axs) := ⟨fun M M' w v hr => by
  unfold Rep at hr ⊢
  obtain ⟨ys, e, h1⟩ := hr
  exact ⟨ys, e, h.out M M' w ys h1⟩⟩
instance FreeC.blk {g : Nat} {t : TypeId} {cs : List AV} [h : FreeAs cs] : FreeC (.blk g t cs) := ⟨fun M M' w S ⟨h1, xs, h2, h3, h4⟩ => ⟨h1, xs, h2, h.out M M' w xs h3, h4⟩⟩
theorem bytes_free {M M' : Nat → Prop} {w : World} : ∀ (l : List UInt8) {xs : List Value}, VRep M w (l.map fun b => .v (byV b)) xs → VRep M' w (l.map fun b => .v (byV b)) xs
  | [], xs, h => by unfold VRep at h ⊢; exact h
  | b :: l, xs, h => by
    simp only [List.map_cons] at h ⊢
    unfold VRep at h
    obtain ⟨x, r, rfl, h1, h2⟩ := h
    refine VRep.cons ?_ (bytes_free l h2)
    unfold DRep at h1 ⊢
    exact h1
instance FreeC.rowB (x : Value) (e : TypeId) (l : List UInt8) : FreeC (.row x e 1 (l.map eB)) := ⟨fun M M' w S ⟨h1, h2, xs, h3, h4⟩ => by
  refine ⟨h1, h2, xs, h3, ?_⟩
  rw [flat_eB] at h4 ⊢
  exact bytes_free l h4⟩
theorem ents_free {β : Type} {kv : Int → Value} {va : β → AV} {M M' : Nat → Prop} {w : World} (hv : ∀ b, FreeA (va b)) : ∀ (l : List (Int × β)) {es : List MapEntry}, EntsRep M w (mapG kv va l) es → EntsRep M' w (mapG kv va l) es
  | [], es, h => h
  | p :: l, es, ⟨e, r', h1, h5, h6⟩ => ⟨e, r', h1, ⟨h5.1, (hv p.2).out M M' w _ h5.2⟩, ents_free hv l h6⟩
instance FreeC.map {β : Type} {kv : Int → Value} {va : β → AV} (r : Nat) (l : List (Int × β)) [hv : ∀ b, FreeA (va b)] : FreeC (.map r (mapG kv va l)) := ⟨fun M M' w S ⟨h1, ents, clock, h2, h3, h4⟩ => by
  refine ⟨h1, ents, clock, h2, ?_, h4⟩
  exact ents_free hv l h3⟩
instance FreeCs.nil : FreeCs [] := ⟨fun c h => by simp at h⟩
instance FreeCs.cons {c : Chunk} {cs : List Chunk} [h : FreeC c] [h2 : FreeCs cs] : FreeCs (c :: cs) := ⟨fun d hd => by
  rcases List.mem_cons.1 hd with rfl | hd
  · exact h
  · exact h2.out d hd⟩
theorem FreeCs.holds {M M' : Nat → Prop} {w : World} : ∀ {cs : List Chunk} {S : Nat → Prop}, FreeCs cs → HoldsL M w cs S → HoldsL M' w cs S
  | [], S, h, hr => hr
  | c :: cs, S, h, ⟨S1, S2, h1, h2, h3, h4⟩ => ⟨S1, S2, h1, h2, (h.out c (by simp)).out _ _ _ _ h3, FreeCs.holds ⟨fun d hd => h.out d (by simp [hd])⟩ h4⟩
section
variable {P : Program} {L : List TD} {n : Nat} {Q : Exit → Act → World → Prop} {c : Ctx}
variable {s : AMS} {f f' : AEnv} {σ σ' : Store} {ob : Obs} {κ : List Kt} {all : Array Oper} {dec : List Nat} {o : Oper} {al : Bool} {rest : List (Oper × Bool)} {m : Mode}
/-- An operation that does something to one's own memory; what is left alone is known. -/
theorem a_effP (hT : TOk P L) (R : AV → Store → Prop) (h : machA L n fuel s f σ [] = ⟨.op m κ all dec o true rest, f', σ', ob⟩) (hob : ob.map (·.1) = ob.map (·.2))
    (he : ∀ (Y Su Sp : Nat → Prop) (w : World) (fc : Env), (∀ b, Su b → ¬ Y b) → (∀ b, Y b → b < w.heap.size) → Holds (or2 Su Y) w σ' Su → Holds (or2 Su Y) w (spOf m) Sp → (∀ b, Sp b → Y b) → EnvRep (or2 Su Y) w f' fc → Does P Y Su w R ((execOp (ev n fc) o).run P w))
    (hk : ∀ a σ1, R a σ1 → DenA c P n Q (.ops (m.hap true) κ all dec rest) (putA f' o.dst a) σ1) : DenA c P n Q s f σ := by
  refine a_go hT h hob fun hok w S fc Sg hs hh => ?_
  have haa : (act n fc).eval = ev n fc := funext (act_eval n fc)
  have hcon : conM Sg (m.hap true) = conM Sg m := by cases m <;> rfl
  have hok' : (AMS.ops (m.hap true) κ all dec rest).ok := by
    cases m with
    | last ex => obtain ⟨h1, h2, h3⟩ := hok; exact ⟨h1, .inr h3⟩
    | _ => trivial
  obtain ⟨Sp, Su, hp, hu, hall, hdis, hstep⟩ := hh.step
  have hY : ∀ b, or2 Sp c.X b → b < w.heap.size := fun b hb => hb.elim (fun hb => hp.lt b hb) fun hb => Nat.lt_of_lt_of_le (c.old b hb) hs.ev.size
  have hdisX : ∀ b, S b → ¬ c.X b := fun b hb hx => (hs.sub b hb).elim (fun h => c.dis b h hx) fun h => Nat.lt_irrefl _ (Nat.lt_of_le_of_lt h (c.old b hx))
  have hd : ∀ b, Su b → ¬ or2 Sp c.X b := fun b hb h => h.elim (fun h => hdis b h hb) (hdisX b ((hall b).2 (.inr hb)))
  have hM1 : ∀ b, or2 Su (or2 Sp c.X) b → or2 S c.X b := fun b h => h.elim (fun h => .inl ((hall b).2 (.inr h))) fun h => h.elim (fun h => .inl ((hall b).2 (.inl h))) .inr
  have hdo := he (or2 Sp c.X) Su Sp w fc hd hY (hu.of fun b _ h => hM1 b h) (hp.of fun b _ h => hM1 b h) (fun b hb => .inl hb) (hs.env.of fun b _ h => hM1 b h)
  have next : ∀ v w1, After (or2 Sp c.X) Su w R v w1 → Keep (conM Sg m) rest.isEmpty w1 ∧ OR P (conM Sg m) all (post P Q κ) rest ((act n fc).put o.dst v) w1 := by
    rintro v w1 ⟨a, σ1, Su', hR, hrep, hh1, hev, hsub⟩
    have hM2 : ∀ b, or2 (or2 Sp Su') c.X b → or2 Su' (or2 Sp c.X) b := fun b h => h.elim (fun h => h.elim (fun h => .inr (.inl h)) .inl) fun h => .inr (.inr h)
    have hm : ∀ b, b < w.heap.size → Su b ∨ or2 (or2 Sp Su') c.X b → or2 S c.X b := fun b hb h => by
      rcases h with h | (h | h) | h
      · exact .inl ((hall b).2 (.inr h))
      · exact .inl ((hall b).2 (.inl h))
      · rcases hsub b h with h | h
        · exact .inl ((hall b).2 (.inr h))
        · omega
      · exact .inr h
    obtain ⟨hsg, hh2⟩ := hstep (or2 (or2 Sp Su') c.X) Su' w1 σ1 hev hm (hh1.of fun b _ h => hM2 b h) hsub
    refine ⟨?_, ?_⟩
    · cases m with
      | plain => trivial
      | rest => exact .inr trivial
      | last ex => obtain ⟨h1, _, h3⟩ := hok; exact .inl (by rw [h1, h3]; rfl)
      | reg pre σp ex => exact .inr (hsg _ _ _ rfl)
    · rw [act_put, ← hcon]
      refine (hk a σ1 hR).out hok' w1 (or2 Sp Su') (put fc o.dst v) Sg ⟨?_, ?_, ?_⟩ hh2
      · exact EnvRep.put (hs.env.pass hev hm) o.dst (hrep.of fun b _ h => hM2 b h)
      · exact hs.ev.then hev fun b hb h => (hs.sub b ((hall b).2 (.inr h))).elim id fun h => by omega
      · rintro b (h | h)
        · exact hs.sub b ((hall b).2 (.inl h))
        · rcases hsub b h with h | h
          · exact hs.sub b ((hall b).2 (.inr h))
          · exact .inr (Nat.le_trans hs.ev.size h)
  refine .inr ⟨rfl, .inl ?_⟩
  unfold Oper.wp
  rw [haa]
  revert hdo
  generalize (execOp (ev n fc) o).run P w = res
  intro hdo
  cases res with
  | halt _ _ => exact hdo.elim
  | ok nx w1 =>
    cases nx with
    | value v => exact next v w1 hdo
    | skip => exact next undef w1 hdo
    | enter k args =>
      refine Calls.mono hdo fun e w2 ⟨v, he, hv⟩ => ?_
      subst he
      exact next v w2 hv
    | _ => exact hdo.elim
/-- A function is called that reads blocks of one's own: ls: their keys. ks: the keys of the memory that it gets; ks': the keys of what it leaves. -/
theorem a_callZ (hT : TOk P L) {g : FuncId} {xs : Array Operand} {ts : Array TypeId} {args0 args : List AV} {cs cs0 : List Chunk} {σr : Store} {R : AV → List Chunk → Prop} {o2 : Obs} (h : machA L n fuel s f σ [] = ⟨.op m κ all dec o true rest, f', σ', ob⟩) (hob : ob.map (·.1) = ob.map (·.2)) (ho : o.op = .call ⟨.value (.func g), xs, ts⟩) (hb : callOk P g = true)
    (spec : FSpec P g args cs R) (ls ks ks' : List Nat) (ht : takes σ' ks = some (cs0, σr)) (hl : lendK (spOf m ++ σr) ls (evAs n f' xs.toList) = some (args0, o2)) (ho2 : o2.map (·.1) = o2.map (·.2)) (ha : Fits args0 args) (hc : CFits cs0 cs) (hfree : ∀ a cs', R a cs' → FreeA a ∧ FreeCs cs')
    (hk : ∀ a cs', R a cs' → rekK ks' cs' σr fun σ1 => DenA c P n Q (.ops (m.hap true) κ all dec rest) (putA f' o.dst a) σ1) : DenA c P n Q s f σ := by
  refine a_effP hT (fun a σ1 => ∃ cs', R a cs' ∧ σ1 = zipk ks' cs' ++ σr) h hob (fun Y Su Sp w fc hd hY hh hp hSp he => ?_) (fun a σ1 ⟨cs', hR, hs⟩ => by subst hs; have := hk a cs' hR; rwa [rekK_eq] at this)
  have hr := he.evals (n := n) xs.toList
  have hrun : (execOp (ev n fc) o).run P w = .ok (.enter g (xs.toList.map (ev n fc)).toArray) w := by
    have : xs.map (ev n fc) = (xs.toList.map (ev n fc)).toArray := by obtain ⟨xs⟩ := xs; simp
    simp [execOp, ho, resolve, invoke, ev, evK, Deferred.ofValue, run_callFunc hb, this]
  rw [hrun]
  show Calls P g _ w _
  obtain ⟨S1, S2, h1, h2, hS, hdis⟩ := hh.takes ht
  -- what is lent
  have hτ : Holds (or2 Su Y) w (spOf m ++ σr) (or2 Sp S2) := Holds.append hp h2 (fun b hb h => hd b ((hS b).2 (.inr h)) (hSp b hb)) (fun b => Iff.rfl)
  have hlent : ∀ b, Lent (spOf m ++ σr) ls b → or2 Sp S2 b := fun b ⟨k, _, hk⟩ => by
    rcases hk with ⟨t, cs, hk⟩ | ⟨x, e, kk, es, hk, hob'⟩
    · obtain ⟨T1, hT1, hc1⟩ := look_take hτ hk
      exact hT1 b ((hc1.1 b).2 rfl)
    · obtain ⟨T1, hT1, hc1⟩ := look_take hτ hk
      exact hT1 b ((hc1.1 b).2 hob')
  have hl1 : ∀ b, S1 b → ¬ Lent (spOf m ++ σr) ls b := fun b hb hl => (hlent b hl).elim (fun h => hd b ((hS b).2 (.inl hb)) (hSp b h)) (hdis b hb)
  have hX : ∀ b, (or2 S2 Y b ∧ ¬ Lent (spOf m ++ σr) ls b) → or2 Su Y b := fun b h => h.1.elim (fun h => .inl ((hS b).2 (.inr h))) .inr
  have hM : ∀ b, or2 S1 (fun b => or2 S2 Y b ∧ ¬ Lent (spOf m ++ σr) ls b) b → or2 Su Y b ∧ ¬ Lent (spOf m ++ σr) ls b := fun b h => h.elim (fun h => ⟨.inl ((hS b).2 (.inl h)), hl1 b h⟩) fun h => ⟨hX b h, h.2⟩
  have hargs := ha.reps (lend_rep hτ hM hl ho2 hr)
  refine (spec.out (fun b => or2 S2 Y b ∧ ¬ Lent (spOf m ++ σr) ls b) S1 w _ (fun b hb h => h.1.elim (hdis b hb) (hd b ((hS b).2 (.inl hb)))) (fun b h => h.1.elim (h2.lt b) (hY b)) (hc.holds (Holds.of h1 fun b _ h => (hM b h).1)) hargs).mono ?_
  rintro e w1 ⟨v, a, cs', S', rfl, hR, hrep, hh', hev, hsub⟩
  obtain ⟨hf1, hf2⟩ := hfree a cs' hR
  have hm : ∀ b, b < w.heap.size → S1 b ∨ or2 (or2 S' S2) Y b → or2 Su Y b := fun b hb h => by
    rcases h with h | (h | h) | h
    · exact .inl ((hS b).2 (.inl h))
    · rcases hsub b h with h | h
      · exact .inl ((hS b).2 (.inl h))
      · omega
    · exact .inl ((hS b).2 (.inr h))
    · exact .inr h
  refine ⟨v, rfl, a, zipk ks' cs' ++ σr, or2 S' S2, ⟨cs', hR, rfl⟩, hf1.out _ _ _ _ hrep, Holds.append (HoldsL.zip (hf2.holds hh') ks') (h2.ev hev hm fun b hb h => hdis b h hb) (fun b hb h => ?_) (fun b => Iff.rfl), hev.mono fun b _ h => (hS b).2 (.inl h), fun b hb => ?_⟩
  · rcases hsub b hb with h' | h'
    · exact hdis b h' h
    · have := h2.lt b h; omega
  · rcases hb with h | h
    · exact (hsub b h).imp (fun h => (hS b).2 (.inl h)) id
    · exact .inl ((hS b).2 (.inr h))
/-- A drawn region, up to operation x (the last of ord), which all wait for or which waits for all: behind it nothing need be left alone; then a_rest. -/
theorem a_drawX (hT : TOk P L) {fn : Func} {R : Ending → World → Prop} {id : Nat} {ops : Array Oper} {cu : List Chunk} {σp : Store} (us : List Nat) (x : Nat) (ord : List (Nat × Bool)) (h : machA L n fuel s f σ [] = ⟨.draw κ id ops, f', σ', ob⟩) (hob : ob.map (·.1) = ob.map (·.2)) (hm : P.follows .mixedOrders = true)
    (ho : (Nat.ble ord.length ops.size && Region.noSelect ops && (ordTo ops (Array.replicate ops.size false) ord).isSome && (!(Nat.blt x ops.size) || waitsAll .any ops x) && xOk x ord && Nat.beq (lastI ord) x) = true) (ht : takes σ' us = some (cu, σp))
    (hk : DenA c P n (bodyPost P fn R) (.ops (.reg true σp ⟨true, some (x, ops.size - ord.length, (ordTo ops (Array.replicate ops.size false) ord).getD #[])⟩) κ ops [] (selK ops.toList ord)) f' (zipk us cu)) : DenA c P n (bodyPost P fn R) s f σ := by
  simp only [Bool.and_eq_true] at ho
  refine a_go hT h hob fun hok w S fc Sg hs hh => ?_
  obtain ⟨Sg', hg, hs', hh'⟩ := reg_begin (ex := ⟨true, some (x, ops.size - ord.length, (ordTo ops (Array.replicate ops.size false) ord).getD #[])⟩) hs hh ht
  show (Code.region id ops true).wp P (post P (bodyPost P fn R) κ) (act n fc) w
  refine wp_region_tree (S := Sg') (x := x) ord hm (Nat.le_of_ble_eq_true ho.1.1.1.1.1) ho.1.1.1.1.2 ho.1.1.1.2 (fun hlt => ?_) ho.1.2 ?_ hg true (fun _ _ => Nat.eq_of_beq_eq_true ho.2) (hk.out trivial w.drew S fc Sg' hs' hh')
  · have h2 := ho.1.1.2
    rw [Bool.or_eq_true, Bool.not_eq_true'] at h2
    rcases h2 with h2 | h2
    · rw [show Nat.blt x ops.size = true by simpa [Nat.blt_eq] using hlt] at h2; cases h2
    · exact h2
  intro cc a d v w hp
  rw [post_panic] at hp ⊢
  exact ⟨by simpa [Act.put] using (show (a.put d v).defers = [] from hp.1) |> fun h => by cases d <;> simpa [Act.put] using h, hp.2⟩
theorem a_rest (hT : TOk P L) {fn : Func} {R : Ending → World → Prop} {b : Bool} {x q : Nat} {listed : Array Bool} (ord : List (Nat × Bool)) (h : machA L n fuel s f σ [] = ⟨.st (.ops (.last ⟨b, some (x, q, listed)⟩) κ all dec []), f', σ', ob⟩) (hob : ob.map (·.1) = ob.map (·.2))
    (ho : (Nat.beq ord.length q && Region.noSelect all && ordOk all listed ord && listed.getD x false && Nat.beq listed.size all.size && xOk all.size ord) = true)
    (hk : DenA c P n (bodyPost P fn R) (.ops .rest κ all dec (selK all.toList ord)) f' σ') : DenA c P n (bodyPost P fn R) s f σ := by
  simp only [Bool.and_eq_true] at ho
  refine a_go hT h hob fun hok w S fc Sg hs hh => ?_
  show ClosedL .any all listed → _
  intro hcl
  refine OR_rest ho.1.1.1.1.1 ho.1.1.1.1.2 ho.1.1.1.2 ho.1.1.2 ho.1.2 ho.2 (fun c a d v w hp => ?_) hcl (hk.out trivial w S fc Sg hs hh)
  rw [post_panic] at hp ⊢
  exact ⟨by simpa [Act.put] using (show (a.put d v).defers = [] from hp.1) |> fun h => by cases d <;> simpa [Act.put] using h, hp.2⟩
/-- A cut, where what follows stands behind already. -/
theorem a_cutK (hT : TOk P L) {X : Type} (l : List Nat) (vs : X → List AV) (sg : X → Store) (φ : X → Prop) {cd d : Code} (q : Nat) (h : machA L n q s f σ [] = ⟨.st (.code (.seq d :: κ) cd), f', σ', ob⟩) (hob : ob.map (·.1) = ob.map (·.2))
    (h1 : DenA c P n Q (.code (.inv (InvA c n l vs sg φ) :: κ) cd) f' σ') (h2 : ∀ x, φ x → DenA c P n Q (.code κ d) (overA l (vs x)) (sg x)) : DenA c P n Q s f σ := by
  have key : DenA c P n Q (.code (.seq d :: κ) cd) f' σ' := by
    refine ⟨fun hok w S fc Sg hs hh => ?_⟩
    show cd.wp P (post P Q (.seq d :: κ)) (act n fc) w
    refine wp_mono (h1.out trivial w S fc Sg hs hh) ?_
    intro e a' w' hq
    cases e with
    | normal =>
      obtain ⟨x', fc', S', rfl, hx', hs', hh'⟩ := hq
      exact (h2 x' hx').out trivial w' S' fc' (fun _ => True) hs' hh'
    | exit id => exact hq
    | goto l => exact hq
    | ret => exact hq
    | panic ch => exact hq
    | outgrown => exact hq
  exact ⟨machA_sound hT q s f σ [] (by rw [h]; exact OT.of hob) (by rw [h]; exact key.out)⟩
end
end Go.Proofs.YtjcolfogmmjaoaaGreatDoor.A
end

section
/- In a drawn region, behind something that happened, what is told otherwise: rows are frozen. It holds of any program. -/
set_option linter.unusedVariables false
set_option linter.unusedSimpArgs false
set_option maxRecDepth 100000
namespace Go.Proofs.YtjcolfogmmjaoaaGreatDoor.A
open V
section
variable {P : Program} {L : List TD} {n : Nat} {Q : Exit → Act → World → Prop} {c : Ctx}
variable {s : AMS} {f f1 : AEnv} {σ σ1 σp : Store} {κ : List Kt} {all : Array Oper} {dec : List Nat} {rest : List (Oper × Bool)} {m : Mode} {ex : Ex}
theorem a_ghostR (hm : m = .reg false σp ex) (hg : ∀ (Y S : Nat → Prop) (w : World) (fc : Env), (∀ b, S b → ¬ Y b) → Holds (or2 S Y) w σ S → EnvRep (or2 S Y) w f fc → ∃ S', Holds (or2 S' Y) w σ1 S' ∧ EnvRep (or2 S' Y) w f1 fc ∧ ∀ b, S' b → S b)
    (hk : DenA c P n Q (.ops m κ all dec rest) f1 σ1) : DenA c P n Q (.ops m κ all dec rest) f σ := by
  subst hm
  refine ⟨fun hok w S fc Sg hs hh => ?_⟩
  obtain ⟨ws, U, Sp, Su, h⟩ := hh
  have hdisX : ∀ b, S b → ¬ c.X b := fun b hb hx => (hs.sub b hb).elim (fun h => c.dis b h hx) fun h => Nat.lt_irrefl _ (Nat.lt_of_le_of_lt h (c.old b hx))
  have hM1 : ∀ b, or2 Su (or2 Sp c.X) b → or2 S c.X b := fun b hb => hb.elim (fun hb => .inl ((h.all b).2 (.inr hb))) fun hb => hb.elim (fun hb => .inl ((h.all b).2 (.inl hb))) .inr
  obtain ⟨S', h1, h2, h3⟩ := hg (or2 Sp c.X) Su w fc (fun b hb hy => hy.elim (fun hp => h.dis b hp hb) (hdisX b ((h.all b).2 (.inr hb)))) (h.hu.of fun b _ hb => hM1 b hb) (hs.env.of fun b _ hb => hM1 b hb)
  have hM2 : ∀ b, or2 (or2 Sp S') c.X b → or2 S' (or2 Sp c.X) b := fun b hb => hb.elim (fun hb => hb.elim (fun hb => .inr (.inl hb)) .inl) fun hb => .inr (.inr hb)
  have hM3 : ∀ b, or2 (or2 Sp S') c.X b → or2 S c.X b := fun b hb => hb.elim (fun hb => hb.elim (fun hb => .inl ((h.all b).2 (.inl hb))) fun hb => .inl ((h.all b).2 (.inr (h3 b hb)))) .inr
  refine hk.out hok w (or2 Sp S') fc Sg ⟨h2.of fun b _ hb => hM2 b hb, hs.ev, fun b hb => hb.elim (fun hb => hs.sub b ((h.all b).2 (.inl hb))) fun hb => hs.sub b ((h.all b).2 (.inr (h3 b hb)))⟩ ?_
  exact ⟨ws, U, Sp, S', h.sg, h.now, h.size, h.hp.of fun b _ hb => hM3 b hb, h1.of fun b _ hb => hM2 b hb, fun b => Iff.rfl, fun b hb hs' => h.dis b hb (h3 b hs'), fun b hb => h.un b (h3 b hb), h.kept, fun e => by cases e⟩
theorem fz_slot (t : Nat) {h : Nat} {a : AV} {x : Value} {e k : Nat} {es : List (List Dat)} (hl : look σ h = some (.row x e k es)) (ha : ∀ (Y S S2 : Nat → Prop) (w : World) (v : Value), (∀ b, or2 S2 Y b → or2 S Y b) → DRep (or2 S2 Y) w (.sl k es) x → Rep (or2 S Y) w (getA f t) v → Rep (or2 S2 Y) w a v) :
    ∀ (Y S : Nat → Prop) (w : World) (fc : Env), (∀ b, S b → ¬ Y b) → Holds (or2 S Y) w σ S → EnvRep (or2 S Y) w f fc → ∃ S', Holds (or2 S' Y) w (del σ h) S' ∧ EnvRep (or2 S' Y) w ((t, a) :: f) fc ∧ ∀ b, S' b → S b := by
  intro Y S w fc hdY hh he
  obtain ⟨S1, S2, hS, hd, hc, hr⟩ := hh.take hl
  have hM : ∀ b, or2 S2 Y b → or2 S Y b := fun b h => h.elim (fun h => .inl ((hS b).2 (.inr h))) .inr
  have hfz := row_frozen hc hS hd hdY
  refine ⟨S2, hr.of fun b _ h => hM b h, fun t' => ?_, fun b h => (hS b).2 (.inr h)⟩
  rw [getA_cons]
  split
  · rename_i e
    subst e
    exact ha Y S S2 w _ hM hfz (he t')
  · exact (he t').of fun b _ h => hM b h
/-- A row is frozen; the slot t holds it. -/
theorem a_freezeR (t h : Nat) {x x' : Value} {e k : Nat} {es : List (List Dat)} (hm : m = .reg false σp ex) (ht : getA f t = .row x h) (hl : look σ h = some (.row x' e k es)) (hx : x = x') (hk : DenA c P n Q (.ops m κ all dec rest) ((t, .d (.sl k es)) :: f) (del σ h)) : DenA c P n Q (.ops m κ all dec rest) f σ := by
  subst hx
  refine a_ghostR hm (fz_slot t hl fun Y S S2 w v hM hfz hr => ?_) hk
  rw [ht] at hr
  unfold Rep at hr ⊢
  rw [hr.1]
  exact hfz
/-- A row that a struct's field holds is frozen. -/
theorem a_freezeAR (t off h : Nat) {cs : List AV} {x x' : Value} {hx0 e k : Nat} {es : List (List Dat)} (hm : m = .reg false σp ex) (ht : getA f t = .agg cs) (ht2 : cs[off]? = some (.row x hx0)) (hl : look σ h = some (.row x' e k es)) (hx : x = x') (hk : DenA c P n Q (.ops m κ all dec rest) ((t, .agg (cs.set off (.d (.sl k es)))) :: f) (del σ h)) : DenA c P n Q (.ops m κ all dec rest) f σ := by
  subst hx
  refine a_ghostR hm (fz_slot t hl fun Y S S2 w v hM hfz hr => ?_) hk
  rw [ht] at hr
  unfold Rep at hr ⊢
  obtain ⟨xs, e, hrx, h2⟩ := hr
  refine ⟨xs, e, ?_, h2⟩
  have hrx' := hrx.of (M' := or2 S2 Y) fun b _ h => hM b h
  obtain ⟨y, hy, hry⟩ := hrx'.get _ _ ht2
  have hlt := (List.getElem?_eq_some_iff.1 hy).1
  have := hrx'.set off (.d (.sl k es)) y (by unfold Rep at hry ⊢; rw [hry.1]; exact hfz)
  have e : xs.set off y = xs := by
    apply List.ext_getElem?
    intro j
    rw [List.getElem?_set]
    split
    · rename_i e; subst e; exact hy.symm
    · rfl
  rwa [e] at this
end
end Go.Proofs.YtjcolfogmmjaoaaGreatDoor.A
end

section
/- A block that nobody writes any more is frozen. It holds of any program. -/
set_option linter.unusedVariables false
set_option linter.unusedSimpArgs false
set_option maxRecDepth 100000
namespace Go.Proofs.YtjcolfogmmjaoaaGreatDoor.A
open V
section
variable {P : Program} {L : List TD} {n : Nat} {Q : Exit → Act → World → Prop} {c : Ctx}
variable {s : AMS} {f : AEnv} {σ : Store}
theorem a_freezeK (t h : Nat) {g : Nat} {p : Addr} {ty : TypeId} {cs : List AV} {ds : List Dat} (hst : s.still = true) (ht : getA f t = .v (.pointer (some p)) h) (hp : p = ⟨g, 0, none⟩) (hl : look σ h = some (.blk g ty cs)) (hd : datsK cs = some ds) (hk : DenA c P n Q s ((t, .d (.p ds)) :: f) (del σ h)) : DenA c P n Q s f σ := by
  subst hp
  refine a_ghost hst (fun Y S w fc hdY hh he => ?_) hk
  obtain ⟨S1, S2, hS, hdis, hc, hr⟩ := hh.take hl
  have hM : ∀ b, or2 S2 Y b → or2 S Y b := fun b h => h.elim (fun h => .inl ((hS b).2 (.inr h))) .inr
  obtain ⟨hS1, xs, hb, hrep, h1⟩ := hc
  have hg : S1 g := (hS1 g).2 rfl
  have hv := datsK_rep hd hrep
  refine ⟨S2, hr.of fun b _ h => hM b h, fun t' => ?_, fun b h => (hS b).2 (.inr h)⟩
  rw [getA_cons]
  split
  · rename_i e
    subst e
    have := he t'
    rw [ht] at this
    rw [rep_v this]
    unfold Rep DRep
    refine ⟨⟨g, 0, none⟩, rfl, ?_, ?_, LRep.mk fun j d hj => ?_⟩
    · rintro (h | h)
      · exact hdis g hg h
      · exact hdY g ((hS g).2 (.inl hg)) h
    · unfold Blk at hb
      exact (Array.getElem?_eq_some_iff.1 hb).1
    · obtain ⟨y, hy, hr'⟩ := hv.get j d hj
      refine ⟨y, ?_, hr'.ev (Ev.refl no w) fun b _ h => h.elim (fun h => h.elim) fun h => hM b h⟩
      rw [Nat.zero_add, add_off, Nat.zero_add]
      exact hb.cell j hy
  · exact (he t').of fun b _ h => hM b h
end
end Go.Proofs.YtjcolfogmmjaoaaGreatDoor.A
end

section
/- strings.Split at one byte. -/
set_option linter.unusedVariables false
set_option linter.unusedSimpArgs false
set_option maxRecDepth 100000
namespace Go.Proofs.YtjcolfogmmjaoaaGreatDoor
open V A
/-- A text's parts between the bytes c. -/
def splitP (c : UInt8) : List UInt8 → List (List UInt8)
  | [] => [[]]
  | b :: l => if b = c then [] :: splitP c l else match splitP c l with
    | [] => [[b]]
    | h :: t => (b :: h) :: t
theorem splitP_ne (c : UInt8) : ∀ l, splitP c l ≠ []
  | [] => by simp [splitP]
  | b :: l => by
    unfold splitP
    split
    · simp
    · split <;> simp
theorem split_none {c : UInt8} : ∀ {l : List UInt8}, Lib.indexByte l c = -1 → splitP c l = [l] ∧ l.count c = 0
  | [], _ => ⟨rfl, rfl⟩
  | b :: l, h => by
    unfold Lib.indexByte at h
    by_cases hb : b = c
    · simp [hb] at h
    · have hb' : (b == c) = false := by simpa using hb
      rw [hb'] at h
      simp only [Bool.false_eq_true, if_false] at h
      split at h
      · rename_i h1
        have h1 : Lib.indexByte l c = -1 := by simpa using h1
        obtain ⟨k1, k2⟩ := split_none h1
        refine ⟨?_, ?_⟩
        · unfold splitP
          rw [if_neg hb, k1]
        · rw [List.count_cons, k2, hb']
          rfl
      · have := Lib.indexByte_ge l c
        rename_i h1
        have h1 : ¬ Lib.indexByte l c = -1 := by simpa using h1
        omega
theorem split_some {c : UInt8} : ∀ {l : List UInt8} {m : Nat}, Lib.indexByte l c = (m : Int) → m < l.length ∧ splitP c l = l.take m :: splitP c (l.drop (m + 1)) ∧ l.count c = (l.drop (m + 1)).count c + 1
  | [], m, h => by unfold Lib.indexByte at h; omega
  | b :: l, m, h => by
    unfold Lib.indexByte at h
    by_cases hb : b = c
    · simp [hb] at h
      have : m = 0 := by omega
      subst this
      refine ⟨by simp, ?_, ?_⟩
      · conv => lhs; unfold splitP
        rw [if_pos hb]
        rfl
      · rw [List.count_cons]
        simp [hb]
    · have hb' : (b == c) = false := by simpa using hb
      rw [hb'] at h
      simp only [Bool.false_eq_true, if_false] at h
      split at h
      · omega
      · rename_i h1
        have h1 : ¬ Lib.indexByte l c = -1 := by simpa using h1
        have h2 := Lib.indexByte_ge l c
        obtain ⟨m', rfl⟩ : ∃ m', m = m' + 1 := ⟨m - 1, by omega⟩
        obtain ⟨k1, k2, k3⟩ := split_some (c := c) (l := l) (m := m') (by omega)
        refine ⟨by simp; omega, ?_, ?_⟩
        · conv => lhs; unfold splitP
          rw [if_neg hb, k2]
          rfl
        · rw [List.count_cons, hb', k3]
          simp
theorem ext_data (s : ByteArray) (l r : Nat) : (s.extract l r).data.toList = (s.data.toList.drop l).take (r - l) := by
  rw [ByteArray.data_extract, Array.toList_extract]
theorem size_data (s : ByteArray) : s.data.toList.length = s.size := rfl
theorem mk_data (s : ByteArray) : (⟨s.data.toList.toArray⟩ : ByteArray) = s := by cases s; rfl
def eS (b : ByteArray) : List A.Dat := [.v (.string b)]
def eL (l : List UInt8) : List A.Dat := eS ⟨l.toArray⟩
theorem IndexByte_spec {s : ByteArray} {c : Int} {h h1 : Nat} : FSpec Tryz.prog 166 [.v (.string s) h, .v (.int .u8 c) h1] [] fun a cs => a = .v (kI (Lib.indexByte s.data.toList c.toNat.toUInt8)) 0 ∧ cs = [] := by
  refine a_enter hT [.v (.string s) 0, .v (.int .u8 c) 0] [] Tryz.func166 rfl rfl rfl ⟨rfl, rfl, trivial⟩ fun c' => ?_
  refine a_ext hT [.string s, .int .u8 c] (.int .i64 (Lib.indexByte s.data.toList c.toNat.toUInt8)) rfl rfl rfl rfl (fun w => ?_) ?_
  · rw [run_callFunc_extern (fn := Tryz.f170) (by kernel_rfl) (by kernel_rfl) (by kernel_rfl) (by kernel_rfl) (e := Extern.BytealgIndexByte.indexByte) (by kernel_rfl), Lib.run_indexByteString]
    rfl
  exact a_ret hT [] rfl rfl rfl rfl rfl rfl ⟨rfl, rfl⟩
theorem LiteIndex_spec {s : ByteArray} {c : UInt8} {h h1 : Nat} : FSpec Tryz.prog 164 [.v (.string s) h, .v (.string ⟨#[c]⟩) h1] [] fun a cs => a = .v (kI (Lib.indexByte s.data.toList c)) 0 ∧ cs = [] := by
  refine a_enter hT [.v (.string s) 0, .v (.string ⟨#[c]⟩) 0] [] Tryz.func164 rfl rfl rfl ⟨rfl, rfl, trivial⟩ fun c' => ?_
  have hu : (Int.toNat (c.toNat : Int)).toUInt8 = c := by simp
  refine a_gf hT rfl rfl rfl rfl ?_
  refine a_if hT rfl rfl (fun h2 => ?_) (fun h2 => ?_)
  · have h2 := eq_of_beq h2
    rw [Lib.toList_data, Lib.toList_data] at h2
    refine a_ret hT [] rfl rfl rfl rfl rfl rfl ⟨?_, rfl⟩
    rw [← h2]
    show AV.v (kI 0) 0 = AV.v (kI (Lib.indexByte [c] c)) 0
    simp [Lib.indexByte]
  · refine a_t hT rfl rfl rfl ?_
    refine a_sx hT rfl rfl rfl rfl rfl rfl (by decide) (show 0 < 1 by decide) ?_
    have hI := IndexByte_spec (s := s) (c := (c.toNat : Int)) (h := 0) (h1 := 0)
    rw [hu] at hI
    refine a_call hT rfl rfl rfl (by kernel_rfl) hI [] [] rfl rfl ?_
    rintro _ _ ⟨rfl, rfl⟩
    exact a_ret hT [] rfl rfl rfl rfl rfl rfl ⟨rfl, rfl⟩
theorem Index_spec {s : ByteArray} {c : UInt8} {h h1 : Nat} : FSpec Tryz.prog 158 [.v (.string s) h, .v (.string ⟨#[c]⟩) h1] [] fun a cs => a = .v (kI (Lib.indexByte s.data.toList c)) 0 ∧ cs = [] := by
  refine a_enter hT [.v (.string s) 0, .v (.string ⟨#[c]⟩) 0] [] Tryz.func158 rfl rfl rfl ⟨rfl, rfl, trivial⟩ fun c' => ?_
  refine a_call hT rfl rfl rfl (by kernel_rfl) LiteIndex_spec [] [] rfl rfl ?_
  rintro _ _ ⟨rfl, rfl⟩
  exact a_ret hT [] rfl rfl rfl rfl rfl rfl ⟨rfl, rfl⟩
theorem Count_spec {s : ByteArray} {c : UInt8} {h h1 : Nat} : FSpec Tryz.prog 157 [.v (.string s) h, .v (.string ⟨#[c]⟩) h1] [] fun a cs => a = .v (kI (s.data.toList.count c)) 0 ∧ cs = [] := by
  refine a_enter hT [.v (.string s) 0, .v (.string ⟨#[c]⟩) 0] [] Tryz.func157 rfl rfl rfl ⟨rfl, rfl, trivial⟩ fun c' => ?_
  have hu : (Int.toNat (c.toNat : Int)).toUInt8 = c := by simp
  refine a_f hT rfl rfl rfl ?_
  refine a_t hT rfl rfl rfl ?_
  refine a_sx hT rfl rfl rfl rfl rfl rfl (by decide) (show 0 < 1 by decide) ?_
  refine a_ext hT [.string s, .int .u8 (c.toNat : Int)] (.int .i64 (Lib.countByte s.data.toList c)) rfl rfl rfl rfl (fun w => ?_) ?_
  · rw [run_callFunc_extern (fn := Tryz.f163) (by kernel_rfl) (by kernel_rfl) (by kernel_rfl) (by kernel_rfl) (e := Extern.BytealgCount.count) (by kernel_rfl), Lib.run_countString, hu]
    rfl
  exact a_ret hT [] rfl rfl rfl rfl rfl rfl ⟨rfl, rfl⟩
theorem genSplit_spec {s : ByteArray} {c : UInt8} {h h1 h2 h3 : Nat} (hs : s.size ≤ 900000) : FSpec Tryz.prog 141 [.v (.string s) h, .v (.string ⟨#[c]⟩) h1, .v (kI 0) h2, .v (kI (-1)) h3] [] fun a cs => ∃ x, a = .row x 1 ∧ cs = [.row x 9 1 ((splitP c s.data.toList).map eL)] := by
  refine a_enter hT [.v (.string s) 0, .v (.string ⟨#[c]⟩) 0, .v (kI 0) 0, .v (kI (-1)) 0] [] Tryz.func141 rfl rfl rfl ⟨rfl, rfl, rfl, rfl, trivial⟩ fun c' => ?_
  have hcl : s.data.toList.count c ≤ s.size := List.count_le_length
  generalize hcnt : s.data.toList.count c = cnt at hcl
  have hCt := Count_spec (s := s) (c := c) (h := 0) (h1 := 0)
  rw [hcnt] at hCt
  have hw1 : IntKind.i64.wrap ((cnt : Int) + 1) = ((cnt + 1 : Nat) : Int) := by rw [w64 (by omega) (by omega)]; omega
  have hw2 : IntKind.i64.wrap ((s.size : Int) + 1) = ((s.size + 1 : Nat) : Int) := by rw [w64 (by omega) (by omega)]; omega
  refine a_f hT rfl rfl rfl ?_
  refine a_f hT rfl rfl (by rw [Lib.toList_data, Lib.toList_data]; rfl) ?_
  refine a_t hT rfl rfl rfl ?_
  refine a_call hT rfl rfl rfl (by kernel_rfl) hCt [] [] rfl rfl ?_
  rintro _ _ ⟨rfl, rfl⟩
  have hN : (if IntKind.i64.wrap ((s.size : Int) + 1) < IntKind.i64.wrap ((cnt : Int) + 1) then IntKind.i64.wrap ((s.size : Int) + 1) else IntKind.i64.wrap ((cnt : Int) + 1)) = ((cnt + 1 : Nat) : Int) := by
    rw [hw1, hw2, if_neg (by omega)]
  refine a_mkslice hT 1 (z := .string ByteArray.empty) (cnt + 1) (cnt + 1) rfl rfl rfl rfl (by kernel_rfl) (by kernel_rfl) rfl rfl rfl hN hN (Nat.le_refl _) (by omega) fun x => ?_
  refine a_rowfact 1 rfl rfl ?_
  rintro (⟨_, hn⟩ | ⟨g, cap, hx⟩)
  · exact absurd hn (by simp [List.replicate_succ])
  rw [List.length_replicate] at hx
  subst hx
  have hw3 : IntKind.i64.wrap (((cnt + 1 : Nat) : Int) - 1) = (cnt : Int) := by rw [w64 (by omega) (by omega)]; omega
  refine a_loop hT [0, 1, 2, 3, 9, 10] (fun p : List (List UInt8) × ByteArray => [.v (.string p.2) 0, .v (.string ⟨#[c]⟩) 0, .v (kI 0) 0, .v (kI cnt) 0, .row (.slice (some ⟨g, 0, none⟩) (cnt + 1) cap) 1, .v (kI p.1.length) 0]) (fun p => [(1, .row (.slice (some ⟨g, 0, none⟩) (cnt + 1) cap) 9 1 (p.1.map eL ++ List.replicate (p.2.data.toList.count c + 1) (eS ByteArray.empty)))]) (fun p => splitP c s.data.toList = p.1 ++ splitP c p.2.data.toList ∧ p.1.length + p.2.data.toList.count c = cnt ∧ p.2.size ≤ 900000) (fun p => p.2.data.toList.count c) ([], s) [1] rfl rfl ⟨rfl, by simpa using hcnt, hs⟩ ⟨rfl, rfl, rfl, by show Value.int .i64 (IntKind.i64.wrap (_ - 1)) = Value.int .i64 _; rw [hN, hw3], rfl, rfl, trivial⟩ rfl ⟨⟨rfl, rfl, rfl, by rw [hcnt]; rfl⟩, trivial⟩ ?_
  rintro ⟨done, r⟩ ⟨i1, i2, i3⟩
  dsimp only at i1 i2 i3
  have hset : ∀ (es : List (List A.Dat)) x, (done.map eL ++ eS ByteArray.empty :: es).set done.length ((eS ByteArray.empty).set 0 (.v (.string x))) = (done ++ [x.data.toList]).map eL ++ es := fun es x => by
    have := List.set_append_right (s := done.map eL) (t := eS ByteArray.empty :: es) done.length ((eS ByteArray.empty).set 0 (.v (.string x))) (by simp)
    rw [this]
    simp [eL, eS]
  have hat : ∀ (es : List (List A.Dat)), (done.map eL ++ eS ByteArray.empty :: es)[done.length]? = some (eS ByteArray.empty) := fun es => by
    rw [List.getElem?_append_right (by simp)]
    simp
  refine a_if hT rfl rfl (fun h4 => ?_) (fun h4 => ?_)
  · have h4 : (done.length : Int) < (cnt : Int) := of_decide_eq_true h4
    have hI := Index_spec (s := r) (c := c) (h := 0) (h1 := 0)
    obtain ⟨m, hm⟩ : ∃ m : Nat, Lib.indexByte r.data.toList c = m := by
      have h1 := Lib.indexByte_ge r.data.toList c
      rcases Int.lt_or_le (Lib.indexByte r.data.toList c) 0 with h2 | h2
      · have := (split_none (show Lib.indexByte r.data.toList c = -1 by omega)).2
        omega
      · exact ⟨(Lib.indexByte r.data.toList c).toNat, by omega⟩
    rw [hm] at hI
    obtain ⟨k1, k2, k3⟩ := split_some hm
    rw [size_data] at k1
    obtain ⟨k, hk⟩ : ∃ k, (r.data.toList.drop (m + 1)).count c = k := ⟨_, rfl⟩
    have hes : List.replicate (r.data.toList.count c + 1) (eS ByteArray.empty) = eS ByteArray.empty :: List.replicate (k + 1) (eS ByteArray.empty) := by rw [k3, hk]; rfl
    refine a_call hT rfl rfl rfl (by kernel_rfl) hI [] [] rfl rfl ?_
    rintro _ _ ⟨rfl, rfl⟩
    refine a_f hT rfl rfl (decide_eq_false (by show ¬ (m : Int) < 0; omega)) ?_
    have hw4 : IntKind.i64.wrap ((m : Int) + 0) = (m : Int) := by rw [w64 (by omega) (by omega)]; omega
    have hw5 : IntKind.i64.wrap ((m : Int) + ((ByteArray.size ⟨#[c]⟩ : Nat) : Int)) = ((m + 1 : Nat) : Int) := by
      show IntKind.i64.wrap ((m : Int) + 1) = _
      rw [w64 (by omega) (by omega)]
      rfl
    have hw6 : IntKind.i64.wrap ((done.length : Int) + 1) = ((done.length + 1 : Nat) : Int) := by rw [w64 (by omega) (by omega)]; omega
    refine a_ssl hT 0 m (r.extract 0 m) rfl rfl rfl rfl rfl rfl ⟨.i64, 0, by show AV.v (Value.int .i64 (IntKind.i64.wrap ((m : Int) + 0))) 0 = _; rw [hw4]⟩ (Nat.zero_le _) (show m ≤ r.size by omega) rfl ?_
    refine a_rix hT done.length rfl rfl rfl rfl rfl rfl rfl (by omega) ?_
    refine a_rst hT done.length 0 (eS ByteArray.empty) (.v (.string (r.extract 0 m))) rfl rfl rfl rfl rfl rfl rfl (by omega) (by rw [hes]; exact hat _) (by omega) rfl ?_
    refine a_ssl hT (m + 1) r.size (r.extract (m + 1) r.size) rfl rfl rfl rfl rfl ⟨.i64, 0, by show AV.v (Value.int .i64 (IntKind.i64.wrap ((m : Int) + _))) 0 = _; rw [hw5]⟩ rfl (show m + 1 ≤ r.size by omega) (Nat.le_refl _) rfl ?_
    have hd1 : (r.extract 0 m).data.toList = r.data.toList.take m := by rw [ext_data]; simp
    have hd2 : (r.extract (m + 1) r.size).data.toList = r.data.toList.drop (m + 1) := by
      rw [ext_data, List.take_of_length_le]
      rw [List.length_drop, size_data]
      exact Nat.le_refl _
    refine a_next hT (done ++ [(r.extract 0 m).data.toList], r.extract (m + 1) r.size) [1] rfl rfl ⟨⟨?_, ?_, ?_⟩, ?_⟩ ⟨rfl, rfl, rfl, rfl, rfl, ?_, trivial⟩ rfl ⟨⟨rfl, rfl, rfl, ?_⟩, trivial⟩
    · dsimp only
      rw [hd1, hd2, i1, k2]
      simp
    · dsimp only
      rw [hd2, hk, List.length_append, List.length_singleton]
      omega
    · dsimp only
      have : (r.extract (m + 1) r.size).size ≤ r.size := by
        rw [← size_data, hd2, List.length_drop, size_data]
        omega
      omega
    · dsimp only
      rw [hd2, hk]
      omega
    · show Value.int .i64 (IntKind.i64.wrap ((done.length : Int) + 1)) = Value.int .i64 (((done ++ [(r.extract 0 m).data.toList]).length : Nat) : Int)
      rw [hw6, List.length_append]
      rfl
    · show _ = (done ++ [(r.extract 0 m).data.toList]).map eL ++ List.replicate ((r.extract (m + 1) r.size).data.toList.count c + 1) (eS ByteArray.empty)
      rw [hd2, hk, ← hset, ← hes]
  · have h4 : ¬ (done.length : Int) < (cnt : Int) := of_decide_eq_false h4
    have hc0 : r.data.toList.count c = 0 := by omega
    have hm1 : Lib.indexByte r.data.toList c = -1 := by
      have h1 := Lib.indexByte_ge r.data.toList c
      rcases Int.lt_or_le (Lib.indexByte r.data.toList c) 0 with h2 | h2
      · omega
      · have := (split_some (show Lib.indexByte r.data.toList c = ((Lib.indexByte r.data.toList c).toNat : Int) by omega)).2.2
        omega
    have k1 := (split_none hm1).1
    have hes : List.replicate (r.data.toList.count c + 1) (eS ByteArray.empty) = [eS ByteArray.empty] := by rw [hc0]; rfl
    have hw6 : IntKind.i64.wrap ((done.length : Int) + 1) = ((done.length + 1 : Nat) : Int) := by rw [w64 (by omega) (by omega)]; omega
    refine a_rix hT done.length rfl rfl rfl rfl rfl rfl rfl (by omega) ?_
    refine a_rst hT done.length 0 (eS ByteArray.empty) (.v (.string r)) rfl rfl rfl rfl rfl rfl rfl (by omega) (by show (done.map eL ++ List.replicate (r.data.toList.count c + 1) (eS ByteArray.empty))[done.length]? = _; rw [hes]; exact hat _) (by omega) rfl ?_
    refine a_rsl hT (done.length + 1) rfl rfl rfl rfl rfl rfl rfl rfl hw6 ?_ ?_
    · show done.length + 1 ≤ ((done.map eL ++ List.replicate (r.data.toList.count c + 1) (eS ByteArray.empty)).set done.length _).length
      rw [List.length_set, hes]
      simp
    refine a_ret hT [1] rfl rfl rfl rfl rfl rfl ⟨_, rfl, ?_⟩
    show [Chunk.row _ _ 1 (((done.map eL ++ List.replicate (r.data.toList.count c + 1) (eS ByteArray.empty)).set done.length ((eS ByteArray.empty).set 0 (.v (.string r)))).take (done.length + 1))] = _
    rw [hes, hset, i1, k1, List.append_nil, List.take_of_length_le (by simp)]
theorem Split_spec {s : ByteArray} {c : UInt8} {h h1 : Nat} (hs : s.size ≤ 900000) : FSpec Tryz.prog 103 [.v (.string s) h, .v (.string ⟨#[c]⟩) h1] [] fun a cs => ∃ x, a = .row x 1 ∧ cs = [.row x 9 1 ((splitP c s.data.toList).map eL)] := by
  refine a_enter hT [.v (.string s) 0, .v (.string ⟨#[c]⟩) 0] [] Tryz.func103 rfl rfl rfl ⟨rfl, rfl, trivial⟩ fun c' => ?_
  refine a_call hT rfl rfl rfl (by kernel_rfl) (genSplit_spec hs) [] [1] rfl rfl ?_
  rintro _ _ ⟨x, rfl, rfl⟩
  exact a_ret hT [1] rfl rfl rfl rfl rfl rfl ⟨x, rfl, rfl⟩
end Go.Proofs.YtjcolfogmmjaoaaGreatDoor
end

section
/- Layer 3: names. -/
set_option linter.unusedVariables false
set_option linter.unusedSimpArgs false
set_option maxRecDepth 100000
namespace Go.Proofs.YtjcolfogmmjaoaaGreatDoor
open V A
def letterP (r : Int) : Bool := decide (97 ≤ r ∧ r ≤ 122 ∨ 65 ≤ r ∧ r ≤ 90 ∨ 913 ≤ r ∧ r ≤ 969)
def digitP (r : Int) : Bool := decide (48 ≤ r ∧ r ≤ 57)
def insideP (r : Int) : Bool := letterP r || digitP r || r == 95
theorem b_eq {b b' : Bool} {cs : List Chunk} (h : b = true ↔ b' = true) : AV.v (.bool b) 0 = bA b' ∧ cs = cs := ⟨by rw [Bool.eq_iff_iff.2 h]; rfl, rfl⟩
theorem Letter_spec {r : Int} {h : Nat} : FSpec Tryz.prog 143 [.v (.int .i32 r) h] [] fun a cs => a = bA (letterP r) ∧ cs = [] := by
  refine a_enter hT [.v (.int .i32 r) 0] [] Tryz.func143 rfl rfl rfl ⟨rfl, trivial⟩ fun c' => ?_
  refine a_g hT rfl rfl rfl (fun h1 => ?_) (fun h1 => ?_)
  · have h1 := of_decide_eq_true h1
    refine a_g hT rfl rfl rfl (fun h2 => ?_) (fun h2 => ?_)
    · have h2 := of_decide_eq_true h2
      refine a_gt hT rfl rfl rfl rfl ?_
      refine a_ret hT [] rfl rfl rfl rfl rfl rfl ?_
      exact b_eq (by simp [letterP]; omega)
    · have h2 := of_decide_eq_false h2
      refine a_g hT rfl rfl rfl (fun h3 => ?_) (fun h3 => ?_)
      · have h3 := of_decide_eq_true h3
        refine a_g hT rfl rfl rfl (fun h4 => ?_) (fun h4 => ?_)
        · have h4 := of_decide_eq_true h4
          (exfalso; first | omega | contradiction)
        · have h4 := of_decide_eq_false h4
          refine a_g hT rfl rfl rfl (fun h5 => ?_) (fun h5 => ?_)
          · have h5 := of_decide_eq_true h5
            refine a_ret hT [] rfl rfl rfl rfl rfl rfl ?_
            exact b_eq (by simp [letterP]; omega)
          · have h5 := of_decide_eq_false h5
            refine a_ret hT [] rfl rfl rfl rfl rfl rfl ?_
            exact b_eq (by simp [letterP]; omega)
      · have h3 := of_decide_eq_false h3
        (exfalso; first | omega | contradiction)
  · have h1 := of_decide_eq_false h1
    refine a_gf hT rfl rfl rfl rfl ?_
    refine a_g hT rfl rfl rfl (fun h2 => ?_) (fun h2 => ?_)
    · have h2 := of_decide_eq_true h2
      refine a_g hT rfl rfl rfl (fun h3 => ?_) (fun h3 => ?_)
      · have h3 := of_decide_eq_true h3
        refine a_ret hT [] rfl rfl rfl rfl rfl rfl ?_
        exact b_eq (by simp [letterP]; omega)
      · have h3 := of_decide_eq_false h3
        refine a_g hT rfl rfl rfl (fun h4 => ?_) (fun h4 => ?_)
        · have h4 := of_decide_eq_true h4
          (exfalso; first | omega | contradiction)
        · have h4 := of_decide_eq_false h4
          refine a_ret hT [] rfl rfl rfl rfl rfl rfl ?_
          exact b_eq (by simp [letterP]; omega)
    · have h2 := of_decide_eq_false h2
      refine a_gf hT rfl rfl rfl rfl ?_
      refine a_g hT rfl rfl rfl (fun h3 => ?_) (fun h3 => ?_)
      · have h3 := of_decide_eq_true h3
        (exfalso; first | omega | contradiction)
      · have h3 := of_decide_eq_false h3
        refine a_ret hT [] rfl rfl rfl rfl rfl rfl ?_
        exact b_eq (by simp [letterP]; omega)
theorem Digit_spec {r : Int} {h : Nat} : FSpec Tryz.prog 159 [.v (.int .i32 r) h] [] fun a cs => a = bA (digitP r) ∧ cs = [] := by
  refine a_enter hT [.v (.int .i32 r) 0] [] Tryz.func159 rfl rfl rfl ⟨rfl, trivial⟩ fun c' => ?_
  refine a_g hT rfl rfl rfl (fun h1 => ?_) (fun h1 => ?_)
  · have h1 := of_decide_eq_true h1
    refine a_ret hT [] rfl rfl rfl rfl rfl rfl ?_
    exact b_eq (by simp [digitP]; omega)
  · have h1 := of_decide_eq_false h1
    refine a_ret hT [] rfl rfl rfl rfl rfl rfl ?_
    exact b_eq (by simp [digitP]; omega)
theorem Inside_spec {r : Int} {h : Nat} : FSpec Tryz.prog 142 [.v (.int .i32 r) h] [] fun a cs => a = bA (insideP r) ∧ cs = [] := by
  refine a_enter hT [.v (.int .i32 r) 0] [] Tryz.func142 rfl rfl rfl ⟨rfl, trivial⟩ fun c' => ?_
  refine a_call hT rfl rfl rfl (by kernel_rfl) Letter_spec [] [] rfl rfl ?_
  rintro _ _ ⟨rfl, rfl⟩
  refine a_g hT rfl rfl rfl (fun h1 => ?_) (fun h1 => ?_)
  · refine a_gt hT rfl rfl rfl rfl ?_
    refine a_ret hT [] rfl rfl rfl rfl rfl rfl ?_
    exact b_eq (by simp_all [insideP])
  · refine a_call hT rfl rfl rfl (by kernel_rfl) Digit_spec [] [] rfl rfl ?_
    rintro _ _ ⟨rfl, rfl⟩
    refine a_g hT rfl rfl rfl (fun h2 => ?_) (fun h2 => ?_)
    · refine a_ret hT [] rfl rfl rfl rfl rfl rfl ?_
      exact b_eq (by simp_all [insideP])
    · refine a_ret hT [] rfl rfl rfl rfl rfl rfl ?_
      exact b_eq (by simp_all [insideP])
/-- What remains of a name, from a place on; so many runes were there. -/
def nameK (b : ByteArray) : Nat → Nat → Nat → Bool
  | 0, _, n => decide (0 < n ∧ n ≤ 40)
  | f + 1, pos, n => if pos < b.size then
      (if !insideP (Utf8.decode b pos).1 || (pos == 0 && !letterP (Utf8.decode b pos).1) then false else nameK b f (pos + (Utf8.decode b pos).2) (n + 1))
    else decide (0 < n ∧ n ≤ 40)
def nameP (b : ByteArray) : Bool := nameK b b.size 0 0
theorem decode_w (b : ByteArray) (pos : Nat) : 1 ≤ (Utf8.decode b pos).2 := by
  unfold Utf8.decode
  dsimp only
  (repeat' split) <;> simp
theorem Name_spec {b : ByteArray} {h : Nat} (hb : b.size ≤ 4611686018427387904) : FSpec Tryz.prog 114 [.v (.string b) h] [] fun a cs => a = bA (nameP b) ∧ cs = [] := by
  refine a_enter hT [.v (.string b) 0] [] Tryz.func114 rfl rfl rfl ⟨rfl, trivial⟩ fun c' => ?_
  refine a_rangeS hT 30 rfl rfl rfl rfl rfl fun it => ?_
  refine a_loop hT [3, 7] (fun x : Nat × Nat × Nat => [.v (kI x.2.2) 0, .v (.pointer (some ⟨it, 0, none⟩)) 30]) (fun x => [(30, .ext (iterS it b x.2.1))]) (fun x => nameK b x.1 x.2.1 x.2.2 = nameP b ∧ x.2.2 ≤ x.2.1 ∧ b.size ≤ x.2.1 + x.1) (fun x => x.1) (b.size, 0, 0) [30] rfl rfl ⟨rfl, Nat.le_refl _, by simp⟩ ⟨rfl, rfl, trivial⟩ rfl ⟨rfl, trivial⟩ ?_
  rintro ⟨f, pos, n⟩ ⟨i1, i2, i3⟩
  dsimp only at i1 i2 i3
  refine a_nextS hT rfl rfl rfl rfl rfl rfl (fun h1 => ?_) (fun h1 => ?_)
  · dsimp only at h1
    have hk : nameK b f pos n = decide (0 < n ∧ n ≤ 40) := by
      cases f with
      | zero => rfl
      | succ f => unfold nameK; rw [if_neg (by omega)]
    rw [hk] at i1
    refine a_f hT rfl rfl rfl ?_
    refine a_g hT rfl rfl rfl (fun h2 => ?_) (fun h2 => ?_)
    · have h2 := of_decide_eq_true h2
      refine a_ret hT [] rfl rfl rfl rfl rfl rfl ?_
      exact b_eq (by rw [← i1]; dsimp only at *; simp; omega)
    · have h2 := of_decide_eq_false h2
      refine a_ret hT [] rfl rfl rfl rfl rfl rfl ?_
      exact b_eq (by rw [← i1]; dsimp only at *; simp; omega)
  · dsimp only at h1
    obtain ⟨f, rfl⟩ : ∃ f', f = f' + 1 := ⟨f - 1, by omega⟩
    unfold nameK at i1
    rw [if_pos h1] at i1
    have hw := decode_w b pos
    have hwn : IntKind.i64.wrap ((n : Int) + 1) = ((n + 1 : Nat) : Int) := by rw [w64 (by omega) (by omega)]; omega
    generalize hc : ((Utf8.decode b pos).1 : Int) = c at i1
    generalize (Utf8.decode b pos).2 = wd at i1 hw
    refine a_t hT rfl rfl rfl ?_
    refine a_call hT rfl rfl rfl (by kernel_rfl) Inside_spec [] [] rfl rfl ?_
    rintro _ _ ⟨rfl, rfl⟩
    refine a_g hT rfl rfl rfl (fun h2 => ?_) (fun h2 => ?_)
    · simp at h2
      refine a_t hT rfl rfl rfl ?_
      refine a_ret hT [] rfl rfl rfl rfl rfl rfl ?_
      exact b_eq (by rw [← i1]; simp_all)
    · simp at h2
      refine a_g hT rfl rfl rfl (fun h3 => ?_) (fun h3 => ?_)
      · have h3 := eq_of_beq h3
        refine a_call hT rfl rfl rfl (by kernel_rfl) Letter_spec [] [] rfl rfl ?_
        rintro _ _ ⟨rfl, rfl⟩
        refine a_if hT rfl rfl (fun h4 => ?_) (fun h4 => ?_)
        · simp at h4
          refine a_ret hT [] rfl rfl rfl rfl rfl rfl ?_
          exact b_eq (by rw [← i1]; simp_all)
        · simp at h4
          exact a_next hT (f, pos + wd, n + 1) [30] rfl rfl ⟨⟨by rw [← i1]; simp_all, by dsimp only; omega, by dsimp only; omega⟩, by dsimp only; omega⟩ ⟨by show Value.int .i64 _ = Value.int .i64 _; rw [hwn], rfl, trivial⟩ rfl ⟨rfl, trivial⟩
      · have h3 := ne_of_beq_false h3
        refine a_f hT rfl rfl rfl ?_
        exact a_next hT (f, pos + wd, n + 1) [30] rfl rfl ⟨⟨by rw [← i1]; simp_all, by dsimp only; omega, by dsimp only; omega⟩, by dsimp only; omega⟩ ⟨by show Value.int .i64 _ = Value.int .i64 _; rw [hwn], rfl, trivial⟩ rfl ⟨rfl, trivial⟩
end Go.Proofs.YtjcolfogmmjaoaaGreatDoor
end

section
/- Layer 3: words, paths. -/
set_option linter.unusedVariables false
set_option linter.unusedSimpArgs false
set_option maxRecDepth 100000
namespace Go.Proofs.YtjcolfogmmjaoaaGreatDoor
open V A
/-- The first place where it holds; -1: none. -/
def idxF {α : Type} (p : α → Bool) : List α → Nat → Int
  | [], _ => -1
  | x :: l, i => if p x then (i : Int) else idxF p l (i + 1)
theorem idxF_any {α : Type} (p : α → Bool) : ∀ (l : List α) (i : Nat), (0 ≤ idxF p l i ↔ l.any p = true)
  | [], i => by simp [idxF]
  | x :: l, i => by
    unfold idxF
    cases h : p x
    · simp [h, idxF_any p l (i + 1)]
    · simp [h]
theorem drop_at {α : Type} {l : List α} {i : Nat} (h : i < l.length) : l.drop i = l[i] :: l.drop (i + 1) := List.drop_eq_getElem_cons h
theorem idxF_yes {α : Type} {p : α → Bool} {l : List α} {i : Nat} (h : i < l.length) (hp : p l[i] = true) : idxF p (l.drop i) i = (i : Int) := by rw [drop_at h]; unfold idxF; rw [if_pos hp]
theorem idxF_no {α : Type} {p : α → Bool} {l : List α} {i : Nat} (h : i < l.length) (hp : p l[i] = false) : idxF p (l.drop i) i = idxF p (l.drop (i + 1)) (i + 1) := by
  conv => lhs; rw [drop_at h]
  conv => lhs; unfold idxF
  rw [if_neg (by rw [hp]; exact Bool.false_ne_true)]
theorem wN (i : Nat) (h : i < 4611686018427387904) : IntKind.i64.wrap ((i : Int) + 1) = ((i + 1 : Nat) : Int) := by rw [w64 (by omega) (by omega)]; omega
def reachN : Nat := 140737488351232
theorem SIndex_spec {l : List ByteArray} {x : ByteArray} {h : Nat} (hl : l.length < 4611686018427387904) : FSpec Tryz.prog 160 [.d (.sl 1 (l.map eS)), .v (.string x) h] [] fun a cs => a = .v (kI (idxF (fun y => x.toList == y.toList) l 0)) 0 ∧ cs = [] := by
  refine a_enter hT [.d (.sl 1 (l.map eS)), .v (.string x) 0] [] Tryz.func160 rfl rfl rfl ⟨rfl, rfl, trivial⟩ fun c' => ?_
  have hlen : (l.map eS).length = l.length := List.length_map _
  refine a_loop hT [0, 1, 7, 8] (fun i : Nat => [.d (.sl 1 (l.map eS)), .v (.string x) 0, .v (kI l.length) 0, .v (kI i) 0]) (fun _ => []) (fun i => idxF (fun y => x.toList == y.toList) (l.drop i) i = idxF (fun y => x.toList == y.toList) l 0 ∧ i ≤ l.length) (fun i => l.length - i) 0 [] rfl rfl ⟨rfl, Nat.zero_le _⟩ ⟨rfl, rfl, by rw [← hlen]; rfl, rfl, trivial⟩ rfl trivial ?_
  rintro i ⟨i1, i2⟩
  have hw := wN i (by omega)
  rcases Nat.lt_or_ge i l.length with hil | hil
  · have hat : (l.map eS)[(i : Int).toNat]? = some (eS l[i]) := by simp [hil]
    refine a_if hT rfl rfl (fun h1 => ?_) (fun h1 => ?_)
    · have h1 := of_decide_eq_true h1
      refine a_ix hT _ rfl rfl rfl rfl rfl rfl (by first | omega | assumption) (by first | assumption | rfl) ?_
      refine a_if hT rfl rfl (fun h2 => ?_) (fun h2 => ?_)
      · have h2 := eq_of_beq h2
        refine a_ret hT [] rfl rfl rfl rfl rfl rfl ?_
        exact ⟨by rw [← i1, idxF_yes hil (by assumption)]; rfl, rfl⟩
      · have h2 := ne_of_beq_false h2
        exact a_next hT (i + 1) [] rfl rfl ⟨⟨by rw [← i1, idxF_no hil (by assumption)], by omega⟩, by omega⟩ ⟨rfl, rfl, rfl, by show Value.int .i64 _ = Value.int .i64 _; rw [hw], trivial⟩ rfl trivial
    · have h1 := of_decide_eq_false h1
      (exfalso; first | omega | contradiction)
  · have hnil : l.drop i = [] := List.drop_eq_nil_of_le hil
    refine a_if hT rfl rfl (fun h1 => ?_) (fun h1 => ?_)
    · have h1 := of_decide_eq_true h1
      (exfalso; first | omega | contradiction)
    · have h1 := of_decide_eq_false h1
      refine a_ret hT [] rfl rfl rfl rfl rfl rfl ?_
      exact ⟨by rw [← i1, hnil]; rfl, rfl⟩
theorem ba_list (x y : ByteArray) : (x.toList == y.toList) = decide (x = y) := by
  rw [Lib.toList_data, Lib.toList_data, Bool.eq_iff_iff]
  simp only [beq_iff_eq, decide_eq_true_eq]
  constructor
  · intro h
    cases x; cases y
    simp at h
    rw [h]
  · rintro rfl; rfl
theorem SContains_spec {l : List ByteArray} {x : ByteArray} {h : Nat} (hl : l.length < 4611686018427387904) : FSpec Tryz.prog 144 [.d (.sl 1 (l.map eS)), .v (.string x) h] [] fun a cs => a = bA (l.any fun y => decide (x = y)) ∧ cs = [] := by
  refine a_enter hT [.d (.sl 1 (l.map eS)), .v (.string x) 0] [] Tryz.func144 rfl rfl rfl ⟨rfl, rfl, trivial⟩ fun c' => ?_
  have hp : (fun y : ByteArray => x.toList == y.toList) = fun y => decide (x = y) := funext fun y => ba_list x y
  have HS := SIndex_spec (l := l) (x := x) (h := 0) hl
  rw [hp] at HS
  have := idxF_any (fun y : ByteArray => decide (x = y)) l 0
  refine a_call hT rfl rfl rfl (by kernel_rfl) HS [] [] rfl rfl ?_
  rintro _ _ ⟨rfl, rfl⟩
  refine a_ret hT [] rfl rfl rfl rfl rfl rfl ?_
  exact b_eq (by rw [← this]; simp)
def mkS (l : List UInt8) : ByteArray := ⟨l.toArray⟩
def words6 : List ByteArray := [mkS [109, 101, 115, 115, 97, 103, 101], mkS [101, 110, 117, 109], mkS [115, 101, 114, 118, 105, 99, 101], mkS [114, 112, 99], mkS [114, 101, 116, 117, 114, 110, 115], mkS [114, 101, 112, 101, 97, 116, 101, 100]]
def scalars : List ByteArray := [mkS [105, 110, 116, 54, 52], mkS [117, 105, 110, 116, 54, 52], mkS [115, 105, 110, 116, 54, 52], mkS [98, 111, 111, 108], mkS [115, 116, 114, 105, 110, 103], mkS [98, 121, 116, 101, 115], mkS [102, 105, 120, 101, 100, 51, 50], mkS [102, 105, 120, 101, 100, 54, 52]]
theorem Scalars_spec : FSpec Tryz.prog 145 [] [] fun a cs => a = .d (.sl 1 ((ByteArray.empty :: scalars).map eS)) ∧ cs = [] := by
  refine a_enter hT [] [] Tryz.func145 rfl rfl rfl trivial fun c' => ?_
  refine a_litF hT 30 1 (z := .string ByteArray.empty) rfl rfl rfl rfl (by kernel_rfl) (by kernel_rfl) rfl rfl rfl rfl fun x => ?_
  refine a_freeze 1 30 rfl rfl rfl rfl ?_
  refine a_ret hT [] rfl rfl rfl rfl rfl rfl ?_
  exact ⟨rfl, rfl⟩
def reservedP (b : ByteArray) : Bool := decide (b ≠ ByteArray.empty) && (words6.any (fun y => decide (b = y)) || scalars.any fun y => decide (b = y))
instance freeBA (b : Bool) : FreeA (bA b) := inferInstanceAs (FreeA (.v (.bool b) 0))
theorem ba_nil (b : ByteArray) : b.toList = [] ↔ b = ByteArray.empty := by
  rw [Lib.toList_data]
  constructor
  · intro h
    cases b
    simp at h
    subst h
    rfl
  · rintro rfl; rfl
theorem Reserved_spec {b : ByteArray} {h : Nat} : FSpec Tryz.prog 115 [.v (.string b) h] [] fun a cs => a = bA (reservedP b) ∧ cs = [] := by
  refine a_enter hT [.v (.string b) 0] [] Tryz.func115 rfl rfl rfl ⟨rfl, trivial⟩ fun c' => ?_
  have H6 := SContains_spec (l := words6) (x := b) (h := 0) (by decide)
  have H8 := SContains_spec (l := ByteArray.empty :: scalars) (x := b) (h := 0) (by decide)
  have hnil := ba_nil b
  refine a_g hT rfl rfl rfl (fun h1 => ?_) (fun h1 => ?_)
  · simp at h1
    refine a_lit hT 20 rfl rfl rfl rfl (by kernel_rfl) rfl rfl rfl rfl fun x20 => ?_
    refine a_callZ hT rfl rfl rfl (by kernel_rfl) H6 [20] [] [] rfl rfl rfl ⟨rfl, rfl, trivial⟩ trivial (by rintro _ _ ⟨rfl, rfl⟩; exact ⟨inferInstance, inferInstance⟩) ?_
    rintro _ _ ⟨rfl, rfl⟩
    refine a_g hT rfl rfl rfl (fun h2 => ?_) (fun h2 => ?_)
    · simp at h2
      refine a_ret hT [] rfl rfl rfl rfl rfl rfl ?_
      exact b_eq (by simp_all [reservedP])
    · simp at h2
      refine a_call hT rfl rfl rfl (by kernel_rfl) Scalars_spec [] [] rfl rfl ?_
      rintro _ _ ⟨rfl, rfl⟩
      refine a_call hT rfl rfl rfl (by kernel_rfl) H8 [] [] rfl rfl ?_
      rintro _ _ ⟨rfl, rfl⟩
      refine a_ret hT [] rfl rfl rfl rfl rfl rfl ?_
      exact b_eq (by simp_all [reservedP]; intro h; exact absurd rfl (h2 b h))
  · simp at h1
    refine a_ret hT [] rfl rfl rfl rfl rfl rfl ?_
    exact b_eq (by simp_all [reservedP])
def plainP (b : ByteArray) : Bool := nameP b && !reservedP b
theorem Plain_spec {b : ByteArray} {h : Nat} (hb : b.size ≤ 4611686018427387904) : FSpec Tryz.prog 70 [.v (.string b) h] [] fun a cs => a = bA (plainP b) ∧ cs = [] := by
  refine a_enter hT [.v (.string b) 0] [] Tryz.func70 rfl rfl rfl ⟨rfl, trivial⟩ fun c' => ?_
  refine a_call hT rfl rfl rfl (by kernel_rfl) (Name_spec (by first | assumption | rfl | decide | omega | (dsimp only; omega))) [] [] rfl rfl ?_
  rintro _ _ ⟨rfl, rfl⟩
  refine a_g hT rfl rfl rfl (fun h1 => ?_) (fun h1 => ?_)
  · refine a_call hT rfl rfl rfl (by kernel_rfl) Reserved_spec [] [] rfl rfl ?_
    rintro _ _ ⟨rfl, rfl⟩
    refine a_ret hT [] rfl rfl rfl rfl rfl rfl ?_
    exact b_eq (by simp_all [plainP])
  · refine a_ret hT [] rfl rfl rfl rfl rfl rfl ?_
    exact b_eq (by simp_all [plainP])
end Go.Proofs.YtjcolfogmmjaoaaGreatDoor
end

section
/- slices.IndexFunc, slices.ContainsFunc; paths. -/
set_option linter.unusedVariables false
set_option linter.unusedSimpArgs false
set_option maxRecDepth 100000
namespace Go.Proofs.YtjcolfogmmjaoaaGreatDoor
open V A
theorem SIndexFunc_spec {l : List ByteArray} {p : ByteArray → Bool} {f : FuncId} {cap : List AV} (hl : l.length < 4611686018427387904) (hb : callOk Tryz.prog f = true) (hf : ∀ x ∈ l, FSpec Tryz.prog f (.v (.string x) 0 :: cap) [] fun a cs => a = bA (p x) ∧ cs = []) :
    FSpec Tryz.prog 102 [.d (.sl 1 (l.map eS)), .fn f cap] [] fun a cs => a = .v (kI (idxF p l 0)) 0 ∧ cs = [] := by
  refine a_enter hT [.d (.sl 1 (l.map eS)), .fn f cap] [] Tryz.func102 rfl rfl rfl ⟨rfl, Fit.refl _, trivial⟩ fun c' => ?_
  have hlen : (l.map eS).length = l.length := List.length_map _
  refine a_loop hT [0, 1, 7, 8] (fun i : Nat => [.d (.sl 1 (l.map eS)), .fn f cap, .v (kI l.length) 0, .v (kI i) 0]) (fun _ => []) (fun i => idxF p (l.drop i) i = idxF p l 0 ∧ i ≤ l.length) (fun i => l.length - i) 0 [] rfl rfl ⟨rfl, Nat.zero_le _⟩ ⟨rfl, Fit.refl _, by rw [← hlen]; rfl, rfl, trivial⟩ rfl trivial ?_
  rintro i ⟨i1, i2⟩
  have hw := wN i (by omega)
  rcases Nat.lt_or_ge i l.length with hil | hil
  · have hat : (l.map eS)[(i : Int).toNat]? = some (eS l[i]) := by simp [hil]
    refine a_if hT rfl rfl (fun h1 => ?_) (fun h1 => ?_)
    · have h1 := of_decide_eq_true h1
      refine a_ix hT _ rfl rfl rfl rfl rfl rfl (by first | omega | assumption) (by first | assumption | rfl) ?_
      refine a_callv hT rfl rfl rfl rfl hb (hf l[i] (List.getElem_mem hil)) [] [] rfl rfl ?_
      rintro _ _ ⟨rfl, rfl⟩
      refine a_if hT rfl rfl (fun h => ?_) (fun h => ?_)
      · refine a_ret hT [] rfl rfl rfl rfl rfl rfl ?_
        exact ⟨by rw [← i1, idxF_yes hil (by assumption)]; rfl, rfl⟩
      · exact a_next hT (i + 1) [] rfl rfl ⟨⟨by rw [← i1, idxF_no hil (by assumption)], by omega⟩, by omega⟩ ⟨rfl, Fit.refl _, rfl, by show Value.int .i64 _ = Value.int .i64 _; rw [hw], trivial⟩ rfl trivial
    · have h1 := of_decide_eq_false h1
      (exfalso; first | omega | contradiction)
  · have hnil : l.drop i = [] := List.drop_eq_nil_of_le hil
    refine a_if hT rfl rfl (fun h1 => ?_) (fun h1 => ?_)
    · have h1 := of_decide_eq_true h1
      (exfalso; first | omega | contradiction)
    · have h1 := of_decide_eq_false h1
      refine a_ret hT [] rfl rfl rfl rfl rfl rfl ?_
      exact ⟨by rw [← i1, hnil]; rfl, rfl⟩
theorem SContainsFunc_spec {l : List ByteArray} {p : ByteArray → Bool} {f : FuncId} {cap : List AV} (hl : l.length < 4611686018427387904) (hb : callOk Tryz.prog f = true) (hf : ∀ x ∈ l, FSpec Tryz.prog f (.v (.string x) 0 :: cap) [] fun a cs => a = bA (p x) ∧ cs = []) :
    FSpec Tryz.prog 59 [.d (.sl 1 (l.map eS)), .fn f cap] [] fun a cs => a = bA (l.any p) ∧ cs = [] := by
  refine a_enter hT [.d (.sl 1 (l.map eS)), .fn f cap] [] Tryz.func59 rfl rfl rfl ⟨rfl, Fit.refl _, trivial⟩ fun c' => ?_
  have HS := SIndexFunc_spec hl hb hf
  have := idxF_any p l 0
  refine a_call hT rfl rfl rfl (by kernel_rfl) HS [] [] rfl rfl ?_
  rintro _ _ ⟨rfl, rfl⟩
  refine a_ret hT [] rfl rfl rfl rfl rfl rfl ?_
  exact b_eq (by rw [← this]; simp)
/-- A text's parts. -/
def partsP (s : ByteArray) : List ByteArray := (splitP 46 s.data.toList).map mkS
theorem splitP_len (c : UInt8) : ∀ (l : List UInt8) x, x ∈ splitP c l → x.length ≤ l.length
  | [], x, h => by simp [splitP] at h; simp [h]
  | b :: l, x, h => by
    unfold splitP at h
    split at h
    · rcases List.mem_cons.1 h with rfl | h
      · simp
      · have := splitP_len c l x h
        simp; omega
    · split at h
      · simp at h; simp [h]
      · rename_i y t he
        rcases List.mem_cons.1 h with rfl | h
        · have := splitP_len c l y (by rw [he]; simp)
          simp; omega
        · have := splitP_len c l x (by rw [he]; simp [h])
          simp; omega
theorem splitP_many (c : UInt8) : ∀ (l : List UInt8), (splitP c l).length ≤ l.length + 1
  | [] => by simp [splitP]
  | b :: l => by
    have := splitP_many c l
    unfold splitP
    split
    · simp; omega
    · split
      · simp
      · rename_i y t he
        rw [he] at this
        simp at this ⊢
        omega
theorem Split_dot {s : ByteArray} {h h1 : Nat} (hs : s.size ≤ 900000) : FSpec Tryz.prog 103 [.v (.string s) h, .v (.string ⟨#[46]⟩) h1] [] fun a cs => ∃ x, a = .row x 1 ∧ cs = [.row x 9 1 ((partsP s).map eS)] := by
  have e : (partsP s).map eS = (splitP 46 s.data.toList).map eL := by unfold partsP; rw [List.map_map]; rfl
  rw [e]
  exact Split_spec hs
theorem PathF_spec {b : ByteArray} {h : Nat} (hb : b.size ≤ 4611686018427387904) : FSpec Tryz.prog 104 [.v (.string b) h] [] fun a cs => a = bA (!plainP b) ∧ cs = [] := by
  refine a_enter hT [.v (.string b) 0] [] Tryz.func104 rfl rfl rfl ⟨rfl, trivial⟩ fun c' => ?_
  refine a_call hT rfl rfl rfl (by kernel_rfl) (Plain_spec (by first | assumption | rfl | decide | omega | (dsimp only; omega))) [] [] rfl rfl ?_
  rintro _ _ ⟨rfl, rfl⟩
  refine a_ret hT [] rfl rfl rfl rfl rfl rfl ?_
  exact ⟨rfl, rfl⟩
def pathOk (s : ByteArray) : Bool := decide ((partsP s).length ≤ 8) && (partsP s).all plainP
theorem Path_spec {s : ByteArray} {h : Nat} (hs : s.size ≤ 900000) : FSpec Tryz.prog 61 [.v (.string s) h] [] fun a cs => a = (if pathOk s then .tup [.d (.sl 1 ((partsP s).map eS)), bA true] else .tup [.v (.slice none 0 0) 0, bA false]) ∧ cs = [] := by
  refine a_enter hT [.v (.string s) 0] [] Tryz.func61 rfl rfl rfl ⟨rfl, trivial⟩ fun c' => ?_
  have hlen : ((partsP s).map eS).length = (partsP s).length := List.length_map _
  have hle : (partsP s).length ≤ s.size + 1 := by unfold partsP; rw [List.length_map]; exact splitP_many 46 s.data.toList
  have HC := SContainsFunc_spec (l := partsP s) (p := fun y => !plainP y) (f := 104) (cap := []) (by omega) (by kernel_rfl) (fun x hx => PathF_spec (by
    unfold partsP at hx
    obtain ⟨y, hy, rfl⟩ := List.mem_map.1 hx
    have : y.length ≤ s.size := splitP_len 46 _ _ hy
    show y.length ≤ _
    omega))
  have hany : (partsP s).any (fun y => !plainP y) = !(partsP s).all plainP := by rw [List.all_eq_not_any_not, Bool.not_not]
  rw [hany] at HC
  refine a_call hT rfl rfl rfl (by kernel_rfl) (Split_dot hs) [] [1] rfl rfl ?_
  rintro _ _ ⟨x, rfl, rfl⟩
  refine a_freeze 6 1 rfl rfl rfl rfl ?_
  refine a_g hT rfl rfl rfl (fun h1 => ?_) (fun h1 => ?_)
  · have h1 := of_decide_eq_true h1
    refine a_t hT rfl rfl rfl ?_
    refine a_ret hT [] rfl rfl rfl rfl rfl rfl ?_
    exact ⟨by rw [if_neg (by unfold pathOk; rw [Bool.and_eq_true, decide_eq_true_eq]; omega)]; rfl, rfl⟩
  · have h1 := of_decide_eq_false h1
    refine a_call hT rfl rfl rfl (by kernel_rfl) HC [] [] rfl rfl ?_
    rintro _ _ ⟨rfl, rfl⟩
    refine a_if hT rfl rfl (fun h2 => ?_) (fun h2 => ?_)
    · simp at h2
      refine a_ret hT [] rfl rfl rfl rfl rfl rfl ?_
      exact ⟨by rw [if_neg (by simp_all [pathOk])]; rfl, rfl⟩
    · simp at h2
      refine a_ret hT [] rfl rfl rfl rfl rfl rfl ?_
      exact ⟨by rw [if_pos (by unfold pathOk; rw [Bool.and_eq_true, decide_eq_true_eq]; exact ⟨by omega, by simp_all⟩)]; rfl, rfl⟩
end Go.Proofs.YtjcolfogmmjaoaaGreatDoor
end

section
/- Tables' rows, as data; slices.IndexFunc, ContainsFunc; no two alike. -/
set_option linter.unusedVariables false
set_option linter.unusedSimpArgs false
set_option maxRecDepth 100000
namespace Go.Proofs.YtjcolfogmmjaoaaGreatDoor
open V A
structure FDP where
  num : Int
  name : ByteArray
  kind : Int
  rep : Bool
  ty : Int
structure MDP where
  name : ByteArray
  fs : List FDP
structure VDP where
  name : ByteArray
  num : Int
structure EDP where
  name : ByteArray
  vs : List VDP
structure MtP where
  id : Int
  svc : ByteArray
  name : ByteArray
  inn : Int
  out : Int
structure SchP where
  ms : List MDP
  es : List EDP
  mts : List MtP
def eF (f : FDP) : List A.Dat := [.v (kI f.num), .v (.string f.name), .v (kI f.kind), .v (.bool f.rep), .v (kI f.ty)]
def eM (m : MDP) : List A.Dat := [.v (.string m.name), .sl 5 (m.fs.map eF)]
def eVd (v : VDP) : List A.Dat := [.v (.string v.name), .v (kI v.num)]
def eE (e : EDP) : List A.Dat := [.v (.string e.name), .sl 2 (e.vs.map eVd)]
def eT (t : MtP) : List A.Dat := [.v (kI t.id), .v (.string t.svc), .v (.string t.name), .v (kI t.inn), .v (kI t.out)]
def schD (s : SchP) : List A.Dat := [.sl 2 (s.ms.map eM), .sl 2 (s.es.map eE), .sl 5 (s.mts.map eT)]
def schA (s : SchP) : AV := .agg ((schD s).map nd)
def uniqM {κ : Type} [DecidableEq κ] : List κ → List (κ × Bool) → Bool
  | [], _ => true
  | k :: l, M => if (aget M k).getD false then false else uniqM l (aput M k true)
theorem uniqM_cons {κ : Type} [DecidableEq κ] (k : κ) (l : List κ) (M : List (κ × Bool)) : uniqM (k :: l) M = if (aget M k).getD false then false else uniqM l (aput M k true) := rfl
def kS (b : ByteArray) : Value := .string b
theorem kS_ok : KeyOk Tryz.prog 9 kS := key_str (by kernel_rfl)
theorem mtSB : mapT Tryz.prog 164 9 4 = true := by kernel_rfl
theorem mtIB : mapT Tryz.prog 207 3 4 = true := by kernel_rfl
theorem zeroB : (Tryz.prog.info? 4).map (·.zero) = some (some (.bool false)) := by kernel_rfl
theorem MIndexFunc_spec {l : List MDP} {p : MDP → Bool} {f : FuncId} {cap : List AV} (hl : l.length < 4611686018427387904) (hb : callOk Tryz.prog f = true) (hf : ∀ x ∈ l, FSpec Tryz.prog f (.agg ((eM x).map nd) :: cap) [] fun a cs => a = bA (p x) ∧ cs = []) :
    FSpec Tryz.prog 105 [.d (.sl 2 (l.map eM)), .fn f cap] [] fun a cs => a = .v (kI (idxF p l 0)) 0 ∧ cs = [] := by
  refine a_enter hT [.d (.sl 2 (l.map eM)), .fn f cap] [] Tryz.func105 rfl rfl rfl ⟨rfl, Fit.refl _, trivial⟩ fun c' => ?_
  have hlen : (l.map eM).length = l.length := List.length_map _
  refine a_loop hT [0, 1, 7, 8] (fun i : Nat => [.d (.sl 2 (l.map eM)), .fn f cap, .v (kI l.length) 0, .v (kI i) 0]) (fun _ => []) (fun i => idxF p (l.drop i) i = idxF p l 0 ∧ i ≤ l.length) (fun i => l.length - i) 0 [] rfl rfl ⟨rfl, Nat.zero_le _⟩ ⟨rfl, Fit.refl _, by rw [← hlen]; rfl, rfl, trivial⟩ rfl trivial ?_
  rintro i ⟨i1, i2⟩
  have hw := wN i (by omega)
  rcases Nat.lt_or_ge i l.length with hil | hil
  · have hat : (l.map eM)[(i : Int).toNat]? = some (eM l[i]) := by simp [hil]
    refine a_if hT rfl rfl (fun h1 => ?_) (fun h1 => ?_)
    · have h1 := of_decide_eq_true h1
      refine a_ix hT _ rfl rfl rfl rfl rfl rfl (by first | omega | assumption) (by first | assumption | rfl) ?_
      refine a_callv hT rfl rfl rfl rfl hb (hf l[i] (List.getElem_mem hil)) [] [] rfl rfl ?_
      rintro _ _ ⟨rfl, rfl⟩
      refine a_if hT rfl rfl (fun h => ?_) (fun h => ?_)
      · refine a_ret hT [] rfl rfl rfl rfl rfl rfl ?_
        exact ⟨by rw [← i1, idxF_yes hil (by assumption)]; rfl, rfl⟩
      · exact a_next hT (i + 1) [] rfl rfl ⟨⟨by rw [← i1, idxF_no hil (by assumption)], by omega⟩, by omega⟩ ⟨rfl, Fit.refl _, rfl, by show Value.int .i64 _ = Value.int .i64 _; rw [hw], trivial⟩ rfl trivial
    · have h1 := of_decide_eq_false h1
      (exfalso; first | omega | contradiction)
  · have hnil : l.drop i = [] := List.drop_eq_nil_of_le hil
    refine a_if hT rfl rfl (fun h1 => ?_) (fun h1 => ?_)
    · have h1 := of_decide_eq_true h1
      (exfalso; first | omega | contradiction)
    · have h1 := of_decide_eq_false h1
      refine a_ret hT [] rfl rfl rfl rfl rfl rfl ?_
      exact ⟨by rw [← i1, hnil]; rfl, rfl⟩
theorem MContainsFunc_spec {l : List MDP} {p : MDP → Bool} {f : FuncId} {cap : List AV} (hl : l.length < 4611686018427387904) (hb : callOk Tryz.prog f = true) (hf : ∀ x ∈ l, FSpec Tryz.prog f (.agg ((eM x).map nd) :: cap) [] fun a cs => a = bA (p x) ∧ cs = []) :
    FSpec Tryz.prog 64 [.d (.sl 2 (l.map eM)), .fn f cap] [] fun a cs => a = bA (l.any p) ∧ cs = [] := by
  refine a_enter hT [.d (.sl 2 (l.map eM)), .fn f cap] [] Tryz.func64 rfl rfl rfl ⟨rfl, Fit.refl _, trivial⟩ fun c' => ?_
  have HS := MIndexFunc_spec hl hb hf
  have := idxF_any p l 0
  refine a_call hT rfl rfl rfl (by kernel_rfl) HS [] [] rfl rfl ?_
  rintro _ _ ⟨rfl, rfl⟩
  refine a_ret hT [] rfl rfl rfl rfl rfl rfl ?_
  exact b_eq (by rw [← this]; simp)
theorem EIndexFunc_spec {l : List EDP} {p : EDP → Bool} {f : FuncId} {cap : List AV} (hl : l.length < 4611686018427387904) (hb : callOk Tryz.prog f = true) (hf : ∀ x ∈ l, FSpec Tryz.prog f (.agg ((eE x).map nd) :: cap) [] fun a cs => a = bA (p x) ∧ cs = []) :
    FSpec Tryz.prog 109 [.d (.sl 2 (l.map eE)), .fn f cap] [] fun a cs => a = .v (kI (idxF p l 0)) 0 ∧ cs = [] := by
  refine a_enter hT [.d (.sl 2 (l.map eE)), .fn f cap] [] Tryz.func109 rfl rfl rfl ⟨rfl, Fit.refl _, trivial⟩ fun c' => ?_
  have hlen : (l.map eE).length = l.length := List.length_map _
  refine a_loop hT [0, 1, 7, 8] (fun i : Nat => [.d (.sl 2 (l.map eE)), .fn f cap, .v (kI l.length) 0, .v (kI i) 0]) (fun _ => []) (fun i => idxF p (l.drop i) i = idxF p l 0 ∧ i ≤ l.length) (fun i => l.length - i) 0 [] rfl rfl ⟨rfl, Nat.zero_le _⟩ ⟨rfl, Fit.refl _, by rw [← hlen]; rfl, rfl, trivial⟩ rfl trivial ?_
  rintro i ⟨i1, i2⟩
  have hw := wN i (by omega)
  rcases Nat.lt_or_ge i l.length with hil | hil
  · have hat : (l.map eE)[(i : Int).toNat]? = some (eE l[i]) := by simp [hil]
    refine a_if hT rfl rfl (fun h1 => ?_) (fun h1 => ?_)
    · have h1 := of_decide_eq_true h1
      refine a_ix hT _ rfl rfl rfl rfl rfl rfl (by first | omega | assumption) (by first | assumption | rfl) ?_
      refine a_callv hT rfl rfl rfl rfl hb (hf l[i] (List.getElem_mem hil)) [] [] rfl rfl ?_
      rintro _ _ ⟨rfl, rfl⟩
      refine a_if hT rfl rfl (fun h => ?_) (fun h => ?_)
      · refine a_ret hT [] rfl rfl rfl rfl rfl rfl ?_
        exact ⟨by rw [← i1, idxF_yes hil (by assumption)]; rfl, rfl⟩
      · exact a_next hT (i + 1) [] rfl rfl ⟨⟨by rw [← i1, idxF_no hil (by assumption)], by omega⟩, by omega⟩ ⟨rfl, Fit.refl _, rfl, by show Value.int .i64 _ = Value.int .i64 _; rw [hw], trivial⟩ rfl trivial
    · have h1 := of_decide_eq_false h1
      (exfalso; first | omega | contradiction)
  · have hnil : l.drop i = [] := List.drop_eq_nil_of_le hil
    refine a_if hT rfl rfl (fun h1 => ?_) (fun h1 => ?_)
    · have h1 := of_decide_eq_true h1
      (exfalso; first | omega | contradiction)
    · have h1 := of_decide_eq_false h1
      refine a_ret hT [] rfl rfl rfl rfl rfl rfl ?_
      exact ⟨by rw [← i1, hnil]; rfl, rfl⟩
theorem EContainsFunc_spec {l : List EDP} {p : EDP → Bool} {f : FuncId} {cap : List AV} (hl : l.length < 4611686018427387904) (hb : callOk Tryz.prog f = true) (hf : ∀ x ∈ l, FSpec Tryz.prog f (.agg ((eE x).map nd) :: cap) [] fun a cs => a = bA (p x) ∧ cs = []) :
    FSpec Tryz.prog 67 [.d (.sl 2 (l.map eE)), .fn f cap] [] fun a cs => a = bA (l.any p) ∧ cs = [] := by
  refine a_enter hT [.d (.sl 2 (l.map eE)), .fn f cap] [] Tryz.func67 rfl rfl rfl ⟨rfl, Fit.refl _, trivial⟩ fun c' => ?_
  have HS := EIndexFunc_spec hl hb hf
  have := idxF_any p l 0
  refine a_call hT rfl rfl rfl (by kernel_rfl) HS [] [] rfl rfl ?_
  rintro _ _ ⟨rfl, rfl⟩
  refine a_ret hT [] rfl rfl rfl rfl rfl rfl ?_
  exact b_eq (by rw [← this]; simp)
theorem USS_spec {l : List ByteArray} {key : ByteArray → ByteArray} {f : FuncId} {cap : List AV} (hl : l.length < 4611686018427387904) (hb : callOk Tryz.prog f = true) (hf : ∀ x ∈ l, FSpec Tryz.prog f (.v (.string x) 0 :: cap) [] fun a cs => a = .v (kS (key x)) 0 ∧ cs = []) :
    FSpec Tryz.prog 62 [.d (.sl 1 (l.map eS)), .fn f cap] [] fun a cs => a = bA (uniqM (l.map key) []) ∧ cs = [] := by
  refine a_enter hT [.d (.sl 1 (l.map eS)), .fn f cap] [] Tryz.func62 rfl rfl rfl ⟨rfl, Fit.refl _, trivial⟩ fun c' => ?_
  have hlen : (l.map eS).length = l.length := List.length_map _
  refine a_mkmap hT 40 rfl rfl rfl fun r => ?_
  refine a_loop hT [1, 5, 9, 10, 11] (fun x : Nat × List (ByteArray × Bool) => [.fn f cap, .v (.map (some r)) 40, .d (.sl 1 (l.map eS)), .v (kI l.length) 0, .v (kI x.1) 0]) (fun x => [(40, .map r (mapG kS bA x.2))]) (fun x => uniqM ((l.drop x.1).map key) x.2 = uniqM (l.map key) [] ∧ x.1 ≤ l.length) (fun x => l.length - x.1) (0, []) [40] rfl rfl ⟨rfl, Nat.zero_le _⟩ ⟨Fit.refl _, rfl, rfl, by rw [← hlen]; rfl, rfl, trivial⟩ rfl ⟨⟨rfl, rfl⟩, trivial⟩ ?_
  rintro ⟨i, M⟩ ⟨i1, i2⟩
  dsimp only at i1 i2
  have hw := wN i (by omega)
  rcases Nat.lt_or_ge i l.length with hil | hil
  · have hat : (l.map eS)[(i : Int).toNat]? = some (eS l[i]) := by simp [hil]
    have hF := hf l[i] (List.getElem_mem hil)
    rw [drop_at hil, List.map_cons, uniqM_cons] at i1
    refine a_t hT rfl rfl (decide_eq_true (by show (i : Int) < (l.length : Int); omega)) ?_
    refine a_ix hT _ rfl rfl rfl rfl rfl rfl (by omega) hat ?_
    refine a_callv hT rfl rfl rfl rfl hb hF [] [] rfl rfl ?_
    rintro _ _ ⟨rfl, rfl⟩
    cases hg : aget M (key l[i]) with
    | none =>
      rw [hg] at i1
      refine a_lookG hT (kv := kS) (va := bA) M (key l[i]) _ rfl rfl rfl mtSB kS_ok zeroB rfl rfl rfl rfl rfl hg ?_
      refine a_f hT rfl rfl rfl ?_
      refine a_callv hT rfl rfl rfl rfl hb hF [] [] rfl rfl ?_
      rintro _ _ ⟨rfl, rfl⟩
      refine a_mputG hT (kv := kS) (va := bA) M (key l[i]) true rfl rfl rfl mtSB kS_ok rfl rfl rfl rfl rfl rfl ?_
      exact a_next hT (i + 1, aput M (key l[i]) true) [40] rfl rfl ⟨⟨i1, by dsimp only; omega⟩, by dsimp only; omega⟩ ⟨Fit.refl _, rfl, rfl, rfl, by show Value.int .i64 _ = Value.int .i64 _; rw [hw], trivial⟩ rfl ⟨⟨rfl, rfl⟩, trivial⟩
    | some b =>
      rw [hg] at i1
      cases b with
      | true =>
        refine a_lookG hT (kv := kS) (va := bA) M (key l[i]) _ rfl rfl rfl mtSB kS_ok zeroB rfl rfl rfl rfl rfl hg ?_
        refine a_t hT rfl rfl rfl ?_
        exact a_ret hT [] rfl rfl rfl rfl rfl rfl ⟨by rw [← i1]; rfl, rfl⟩
      | false =>
        refine a_lookG hT (kv := kS) (va := bA) M (key l[i]) _ rfl rfl rfl mtSB kS_ok zeroB rfl rfl rfl rfl rfl hg ?_
        refine a_f hT rfl rfl rfl ?_
        refine a_callv hT rfl rfl rfl rfl hb hF [] [] rfl rfl ?_
        rintro _ _ ⟨rfl, rfl⟩
        refine a_mputG hT (kv := kS) (va := bA) M (key l[i]) true rfl rfl rfl mtSB kS_ok rfl rfl rfl rfl rfl rfl ?_
        exact a_next hT (i + 1, aput M (key l[i]) true) [40] rfl rfl ⟨⟨i1, by dsimp only; omega⟩, by dsimp only; omega⟩ ⟨Fit.refl _, rfl, rfl, rfl, by show Value.int .i64 _ = Value.int .i64 _; rw [hw], trivial⟩ rfl ⟨⟨rfl, rfl⟩, trivial⟩
  · have hnil : l.drop i = [] := List.drop_eq_nil_of_le hil
    rw [hnil] at i1
    refine a_if hT rfl rfl (fun h => ?_) (fun h => ?_)
    · have h := of_decide_eq_true h
      (exfalso; first | omega | contradiction)
    · have h := of_decide_eq_false h
      refine a_ret hT [] rfl rfl rfl rfl rfl rfl ?_
      exact ⟨by rw [← i1]; rfl, rfl⟩
theorem UFS_spec {l : List FDP} {key : FDP → ByteArray} {f : FuncId} {cap : List AV} (hl : l.length < 4611686018427387904) (hb : callOk Tryz.prog f = true) (hf : ∀ x ∈ l, FSpec Tryz.prog f (.agg ((eF x).map nd) :: cap) [] fun a cs => a = .v (kS (key x)) 0 ∧ cs = []) :
    FSpec Tryz.prog 107 [.d (.sl 5 (l.map eF)), .fn f cap] [] fun a cs => a = bA (uniqM (l.map key) []) ∧ cs = [] := by
  refine a_enter hT [.d (.sl 5 (l.map eF)), .fn f cap] [] Tryz.func107 rfl rfl rfl ⟨rfl, Fit.refl _, trivial⟩ fun c' => ?_
  have hlen : (l.map eF).length = l.length := List.length_map _
  refine a_mkmap hT 40 rfl rfl rfl fun r => ?_
  refine a_loop hT [1, 5, 9, 10, 11] (fun x : Nat × List (ByteArray × Bool) => [.fn f cap, .v (.map (some r)) 40, .d (.sl 5 (l.map eF)), .v (kI l.length) 0, .v (kI x.1) 0]) (fun x => [(40, .map r (mapG kS bA x.2))]) (fun x => uniqM ((l.drop x.1).map key) x.2 = uniqM (l.map key) [] ∧ x.1 ≤ l.length) (fun x => l.length - x.1) (0, []) [40] rfl rfl ⟨rfl, Nat.zero_le _⟩ ⟨Fit.refl _, rfl, rfl, by rw [← hlen]; rfl, rfl, trivial⟩ rfl ⟨⟨rfl, rfl⟩, trivial⟩ ?_
  rintro ⟨i, M⟩ ⟨i1, i2⟩
  dsimp only at i1 i2
  have hw := wN i (by omega)
  rcases Nat.lt_or_ge i l.length with hil | hil
  · have hat : (l.map eF)[(i : Int).toNat]? = some (eF l[i]) := by simp [hil]
    have hF := hf l[i] (List.getElem_mem hil)
    rw [drop_at hil, List.map_cons, uniqM_cons] at i1
    refine a_t hT rfl rfl (decide_eq_true (by show (i : Int) < (l.length : Int); omega)) ?_
    refine a_ix hT _ rfl rfl rfl rfl rfl rfl (by omega) hat ?_
    refine a_new hT hZ 20 rfl rfl rfl rfl fun g => ?_
    refine a_callv hT rfl rfl rfl rfl hb hF [] [] rfl rfl ?_
    rintro _ _ ⟨rfl, rfl⟩
    cases hg : aget M (key l[i]) with
    | none =>
      rw [hg] at i1
      refine a_lookG hT (kv := kS) (va := bA) M (key l[i]) _ rfl rfl rfl mtSB kS_ok zeroB rfl rfl rfl rfl rfl hg ?_
      refine a_f hT rfl rfl rfl ?_
      refine a_callv hT rfl rfl rfl rfl hb hF [] [] rfl rfl ?_
      rintro _ _ ⟨rfl, rfl⟩
      refine a_mputG hT (kv := kS) (va := bA) M (key l[i]) true rfl rfl rfl mtSB kS_ok rfl rfl rfl rfl rfl rfl ?_
      exact a_next hT (i + 1, aput M (key l[i]) true) [40] rfl rfl ⟨⟨i1, by dsimp only; omega⟩, by dsimp only; omega⟩ ⟨Fit.refl _, rfl, rfl, rfl, by show Value.int .i64 _ = Value.int .i64 _; rw [hw], trivial⟩ rfl ⟨⟨rfl, rfl⟩, trivial⟩
    | some b =>
      rw [hg] at i1
      cases b with
      | true =>
        refine a_lookG hT (kv := kS) (va := bA) M (key l[i]) _ rfl rfl rfl mtSB kS_ok zeroB rfl rfl rfl rfl rfl hg ?_
        refine a_t hT rfl rfl rfl ?_
        exact a_ret hT [] rfl rfl rfl rfl rfl rfl ⟨by rw [← i1]; rfl, rfl⟩
      | false =>
        refine a_lookG hT (kv := kS) (va := bA) M (key l[i]) _ rfl rfl rfl mtSB kS_ok zeroB rfl rfl rfl rfl rfl hg ?_
        refine a_f hT rfl rfl rfl ?_
        refine a_callv hT rfl rfl rfl rfl hb hF [] [] rfl rfl ?_
        rintro _ _ ⟨rfl, rfl⟩
        refine a_mputG hT (kv := kS) (va := bA) M (key l[i]) true rfl rfl rfl mtSB kS_ok rfl rfl rfl rfl rfl rfl ?_
        exact a_next hT (i + 1, aput M (key l[i]) true) [40] rfl rfl ⟨⟨i1, by dsimp only; omega⟩, by dsimp only; omega⟩ ⟨Fit.refl _, rfl, rfl, rfl, by show Value.int .i64 _ = Value.int .i64 _; rw [hw], trivial⟩ rfl ⟨⟨rfl, rfl⟩, trivial⟩
  · have hnil : l.drop i = [] := List.drop_eq_nil_of_le hil
    rw [hnil] at i1
    refine a_if hT rfl rfl (fun h => ?_) (fun h => ?_)
    · have h := of_decide_eq_true h
      (exfalso; first | omega | contradiction)
    · have h := of_decide_eq_false h
      refine a_ret hT [] rfl rfl rfl rfl rfl rfl ?_
      exact ⟨by rw [← i1]; rfl, rfl⟩
theorem UVS_spec {l : List VDP} {key : VDP → ByteArray} {f : FuncId} {cap : List AV} (hl : l.length < 4611686018427387904) (hb : callOk Tryz.prog f = true) (hf : ∀ x ∈ l, FSpec Tryz.prog f (.agg ((eVd x).map nd) :: cap) [] fun a cs => a = .v (kS (key x)) 0 ∧ cs = []) :
    FSpec Tryz.prog 110 [.d (.sl 2 (l.map eVd)), .fn f cap] [] fun a cs => a = bA (uniqM (l.map key) []) ∧ cs = [] := by
  refine a_enter hT [.d (.sl 2 (l.map eVd)), .fn f cap] [] Tryz.func110 rfl rfl rfl ⟨rfl, Fit.refl _, trivial⟩ fun c' => ?_
  have hlen : (l.map eVd).length = l.length := List.length_map _
  refine a_mkmap hT 40 rfl rfl rfl fun r => ?_
  refine a_loop hT [1, 5, 9, 10, 11] (fun x : Nat × List (ByteArray × Bool) => [.fn f cap, .v (.map (some r)) 40, .d (.sl 2 (l.map eVd)), .v (kI l.length) 0, .v (kI x.1) 0]) (fun x => [(40, .map r (mapG kS bA x.2))]) (fun x => uniqM ((l.drop x.1).map key) x.2 = uniqM (l.map key) [] ∧ x.1 ≤ l.length) (fun x => l.length - x.1) (0, []) [40] rfl rfl ⟨rfl, Nat.zero_le _⟩ ⟨Fit.refl _, rfl, rfl, by rw [← hlen]; rfl, rfl, trivial⟩ rfl ⟨⟨rfl, rfl⟩, trivial⟩ ?_
  rintro ⟨i, M⟩ ⟨i1, i2⟩
  dsimp only at i1 i2
  have hw := wN i (by omega)
  rcases Nat.lt_or_ge i l.length with hil | hil
  · have hat : (l.map eVd)[(i : Int).toNat]? = some (eVd l[i]) := by simp [hil]
    have hF := hf l[i] (List.getElem_mem hil)
    rw [drop_at hil, List.map_cons, uniqM_cons] at i1
    refine a_t hT rfl rfl (decide_eq_true (by show (i : Int) < (l.length : Int); omega)) ?_
    refine a_ix hT _ rfl rfl rfl rfl rfl rfl (by omega) hat ?_
    refine a_new hT hZ 20 rfl rfl rfl rfl fun g => ?_
    refine a_callv hT rfl rfl rfl rfl hb hF [] [] rfl rfl ?_
    rintro _ _ ⟨rfl, rfl⟩
    cases hg : aget M (key l[i]) with
    | none =>
      rw [hg] at i1
      refine a_lookG hT (kv := kS) (va := bA) M (key l[i]) _ rfl rfl rfl mtSB kS_ok zeroB rfl rfl rfl rfl rfl hg ?_
      refine a_f hT rfl rfl rfl ?_
      refine a_callv hT rfl rfl rfl rfl hb hF [] [] rfl rfl ?_
      rintro _ _ ⟨rfl, rfl⟩
      refine a_mputG hT (kv := kS) (va := bA) M (key l[i]) true rfl rfl rfl mtSB kS_ok rfl rfl rfl rfl rfl rfl ?_
      exact a_next hT (i + 1, aput M (key l[i]) true) [40] rfl rfl ⟨⟨i1, by dsimp only; omega⟩, by dsimp only; omega⟩ ⟨Fit.refl _, rfl, rfl, rfl, by show Value.int .i64 _ = Value.int .i64 _; rw [hw], trivial⟩ rfl ⟨⟨rfl, rfl⟩, trivial⟩
    | some b =>
      rw [hg] at i1
      cases b with
      | true =>
        refine a_lookG hT (kv := kS) (va := bA) M (key l[i]) _ rfl rfl rfl mtSB kS_ok zeroB rfl rfl rfl rfl rfl hg ?_
        refine a_t hT rfl rfl rfl ?_
        exact a_ret hT [] rfl rfl rfl rfl rfl rfl ⟨by rw [← i1]; rfl, rfl⟩
      | false =>
        refine a_lookG hT (kv := kS) (va := bA) M (key l[i]) _ rfl rfl rfl mtSB kS_ok zeroB rfl rfl rfl rfl rfl hg ?_
        refine a_f hT rfl rfl rfl ?_
        refine a_callv hT rfl rfl rfl rfl hb hF [] [] rfl rfl ?_
        rintro _ _ ⟨rfl, rfl⟩
        refine a_mputG hT (kv := kS) (va := bA) M (key l[i]) true rfl rfl rfl mtSB kS_ok rfl rfl rfl rfl rfl rfl ?_
        exact a_next hT (i + 1, aput M (key l[i]) true) [40] rfl rfl ⟨⟨i1, by dsimp only; omega⟩, by dsimp only; omega⟩ ⟨Fit.refl _, rfl, rfl, rfl, by show Value.int .i64 _ = Value.int .i64 _; rw [hw], trivial⟩ rfl ⟨⟨rfl, rfl⟩, trivial⟩
  · have hnil : l.drop i = [] := List.drop_eq_nil_of_le hil
    rw [hnil] at i1
    refine a_if hT rfl rfl (fun h => ?_) (fun h => ?_)
    · have h := of_decide_eq_true h
      (exfalso; first | omega | contradiction)
    · have h := of_decide_eq_false h
      refine a_ret hT [] rfl rfl rfl rfl rfl rfl ?_
      exact ⟨by rw [← i1]; rfl, rfl⟩
theorem UVI_spec {l : List VDP} {key : VDP → Int} {f : FuncId} {cap : List AV} (hl : l.length < 4611686018427387904) (hb : callOk Tryz.prog f = true) (hf : ∀ x ∈ l, FSpec Tryz.prog f (.agg ((eVd x).map nd) :: cap) [] fun a cs => a = .v (kI (key x)) 0 ∧ cs = []) :
    FSpec Tryz.prog 112 [.d (.sl 2 (l.map eVd)), .fn f cap] [] fun a cs => a = bA (uniqM (l.map key) []) ∧ cs = [] := by
  refine a_enter hT [.d (.sl 2 (l.map eVd)), .fn f cap] [] Tryz.func112 rfl rfl rfl ⟨rfl, Fit.refl _, trivial⟩ fun c' => ?_
  have hlen : (l.map eVd).length = l.length := List.length_map _
  refine a_mkmap hT 40 rfl rfl rfl fun r => ?_
  refine a_loop hT [1, 5, 9, 10, 11] (fun x : Nat × List (Int × Bool) => [.fn f cap, .v (.map (some r)) 40, .d (.sl 2 (l.map eVd)), .v (kI l.length) 0, .v (kI x.1) 0]) (fun x => [(40, .map r (mapG kI bA x.2))]) (fun x => uniqM ((l.drop x.1).map key) x.2 = uniqM (l.map key) [] ∧ x.1 ≤ l.length) (fun x => l.length - x.1) (0, []) [40] rfl rfl ⟨rfl, Nat.zero_le _⟩ ⟨Fit.refl _, rfl, rfl, by rw [← hlen]; rfl, rfl, trivial⟩ rfl ⟨⟨rfl, rfl⟩, trivial⟩ ?_
  rintro ⟨i, M⟩ ⟨i1, i2⟩
  dsimp only at i1 i2
  have hw := wN i (by omega)
  rcases Nat.lt_or_ge i l.length with hil | hil
  · have hat : (l.map eVd)[(i : Int).toNat]? = some (eVd l[i]) := by simp [hil]
    have hF := hf l[i] (List.getElem_mem hil)
    rw [drop_at hil, List.map_cons, uniqM_cons] at i1
    refine a_t hT rfl rfl (decide_eq_true (by show (i : Int) < (l.length : Int); omega)) ?_
    refine a_ix hT _ rfl rfl rfl rfl rfl rfl (by omega) hat ?_
    refine a_new hT hZ 20 rfl rfl rfl rfl fun g => ?_
    refine a_callv hT rfl rfl rfl rfl hb hF [] [] rfl rfl ?_
    rintro _ _ ⟨rfl, rfl⟩
    cases hg : aget M (key l[i]) with
    | none =>
      rw [hg] at i1
      refine a_lookG hT (kv := kI) (va := bA) M (key l[i]) _ rfl rfl rfl mtIB kI_ok zeroB rfl rfl rfl rfl rfl hg ?_
      refine a_f hT rfl rfl rfl ?_
      refine a_callv hT rfl rfl rfl rfl hb hF [] [] rfl rfl ?_
      rintro _ _ ⟨rfl, rfl⟩
      refine a_mputG hT (kv := kI) (va := bA) M (key l[i]) true rfl rfl rfl mtIB kI_ok rfl rfl rfl rfl rfl rfl ?_
      exact a_next hT (i + 1, aput M (key l[i]) true) [40] rfl rfl ⟨⟨i1, by dsimp only; omega⟩, by dsimp only; omega⟩ ⟨Fit.refl _, rfl, rfl, rfl, by show Value.int .i64 _ = Value.int .i64 _; rw [hw], trivial⟩ rfl ⟨⟨rfl, rfl⟩, trivial⟩
    | some b =>
      rw [hg] at i1
      cases b with
      | true =>
        refine a_lookG hT (kv := kI) (va := bA) M (key l[i]) _ rfl rfl rfl mtIB kI_ok zeroB rfl rfl rfl rfl rfl hg ?_
        refine a_t hT rfl rfl rfl ?_
        exact a_ret hT [] rfl rfl rfl rfl rfl rfl ⟨by rw [← i1]; rfl, rfl⟩
      | false =>
        refine a_lookG hT (kv := kI) (va := bA) M (key l[i]) _ rfl rfl rfl mtIB kI_ok zeroB rfl rfl rfl rfl rfl hg ?_
        refine a_f hT rfl rfl rfl ?_
        refine a_callv hT rfl rfl rfl rfl hb hF [] [] rfl rfl ?_
        rintro _ _ ⟨rfl, rfl⟩
        refine a_mputG hT (kv := kI) (va := bA) M (key l[i]) true rfl rfl rfl mtIB kI_ok rfl rfl rfl rfl rfl rfl ?_
        exact a_next hT (i + 1, aput M (key l[i]) true) [40] rfl rfl ⟨⟨i1, by dsimp only; omega⟩, by dsimp only; omega⟩ ⟨Fit.refl _, rfl, rfl, rfl, by show Value.int .i64 _ = Value.int .i64 _; rw [hw], trivial⟩ rfl ⟨⟨rfl, rfl⟩, trivial⟩
  · have hnil : l.drop i = [] := List.drop_eq_nil_of_le hil
    rw [hnil] at i1
    refine a_if hT rfl rfl (fun h => ?_) (fun h => ?_)
    · have h := of_decide_eq_true h
      (exfalso; first | omega | contradiction)
    · have h := of_decide_eq_false h
      refine a_ret hT [] rfl rfl rfl rfl rfl rfl ?_
      exact ⟨by rw [← i1]; rfl, rfl⟩
end Go.Proofs.YtjcolfogmmjaoaaGreatDoor
end

section
/- Layer 8: a message's row is formed. -/
set_option linter.unusedVariables false
set_option linter.unusedSimpArgs false
set_option maxRecDepth 100000
namespace Go.Proofs.YtjcolfogmmjaoaaGreatDoor
open V A
def fieldNumP (n : Int) : Bool := decide (1 ≤ n ∧ n ≤ 536870911 ∧ (n < 19000 ∨ 19999 < n))
theorem fieldNumber_spec {n : Int} {h : Nat} : FSpec Tryz.prog 106 [.v (kI n) h] [] fun a cs => a = bA (fieldNumP n) ∧ cs = [] := by
  refine a_enter hT [.v (kI n) 0] [] Tryz.func106 rfl rfl rfl ⟨rfl, trivial⟩ fun c' => ?_
  refine a_g hT rfl rfl rfl (fun h1 => ?_) (fun h1 => ?_)
  · have h1 := of_decide_eq_true h1
    refine a_g hT rfl rfl rfl (fun h2 => ?_) (fun h2 => ?_)
    · have h2 := of_decide_eq_true h2
      refine a_g hT rfl rfl rfl (fun h3 => ?_) (fun h3 => ?_)
      · have h3 := of_decide_eq_true h3
        refine a_ret hT [] rfl rfl rfl rfl rfl rfl ?_
        exact b_eq (by simp [fieldNumP]; omega)
      · have h3 := of_decide_eq_false h3
        refine a_ret hT [] rfl rfl rfl rfl rfl rfl ?_
        exact b_eq (by simp [fieldNumP]; omega)
    · have h2 := of_decide_eq_false h2
      refine a_ret hT [] rfl rfl rfl rfl rfl rfl ?_
      exact b_eq (by simp [fieldNumP]; omega)
  · have h1 := of_decide_eq_false h1
    refine a_gf hT rfl rfl rfl rfl ?_
    refine a_ret hT [] rfl rfl rfl rfl rfl rfl ?_
    exact b_eq (by simp [fieldNumP]; omega)
theorem msg1_spec {f : FDP} : FSpec Tryz.prog 108 [.agg ((eF f).map nd)] [] fun a cs => a = .v (kS f.name) 0 ∧ cs = [] := by
  refine a_enter hT [.agg ((eF f).map nd)] [] Tryz.func108 rfl rfl rfl ⟨Fit.refl _, trivial⟩ fun c' => ?_
  refine a_box hT 20 rfl rfl rfl rfl fun g => ?_
  refine a_ret hT [] rfl rfl rfl rfl rfl rfl ?_
  first | exact ⟨rfl, rfl⟩ | rfl
def mostP (ne nm k : Int) : Int := if k = 9 then ne else if k = 10 then nm else 1
def badF (ne nm last : Int) (f : FDP) : Bool := !fieldNumP f.num || decide (f.num ≤ last) || !plainP f.name || decide (f.kind < 1) || decide (f.kind > 10) || decide (f.ty < 0) || decide (f.ty ≥ mostP ne nm f.kind)
theorem badF_iff {ne nm last : Int} {f : FDP} : badF ne nm last f = true ↔ fieldNumP f.num = false ∨ f.num ≤ last ∨ plainP f.name = false ∨ f.kind < 1 ∨ f.kind > 10 ∨ f.ty < 0 ∨ f.ty ≥ mostP ne nm f.kind := by
  simp [badF, or_assoc]
def fieldsP (ne nm : Int) : List FDP → Int → Bool
  | [], _ => true
  | f :: l, last => if badF ne nm last f then false else fieldsP ne nm l f.num
theorem fieldsP_cons (ne nm : Int) (f : FDP) (l : List FDP) (last : Int) : fieldsP ne nm (f :: l) last = if badF ne nm last f then false else fieldsP ne nm l f.num := rfl
def messageP (s : SchP) (m : MDP) : Bool := fieldsP s.es.length s.ms.length m.fs 0 && (decide (m.fs.length ≤ 32) && uniqM (m.fs.map (·.name)) [])
theorem message_spec {s : SchP} {m : MDP} (hl : m.fs.length < 4611686018427387904) (hn : ∀ f ∈ m.fs, f.name.size ≤ 4611686018427387904) : FSpec Tryz.prog 66 [schA s, .agg ((eM m).map nd)] [] fun a cs => a = bA (messageP s m) ∧ cs = [] := by
  refine a_enter hT [schA s, .agg ((eM m).map nd)] [] Tryz.func66 rfl rfl rfl ⟨Fit.refl _, Fit.refl _, trivial⟩ fun c' => ?_
  have hlen : (m.fs.map eF).length = m.fs.length := List.length_map _
  have hle : (s.es.map eE).length = s.es.length := List.length_map _
  have hlm : (s.ms.map eM).length = s.ms.length := List.length_map _
  refine a_box hT 20 rfl rfl rfl rfl fun g1 => ?_
  refine a_freezeK 2 20 rfl rfl rfl rfl rfl ?_
  refine a_box hT 21 rfl rfl rfl rfl fun g2 => ?_
  refine a_freezeK 3 21 rfl rfl rfl rfl rfl ?_
  refine a_loop hT [2, 3, 5, 10, 11, 12] (fun x : Nat × Int => [.d (.p (schD s)), .d (.p (eM m)), .v (kI x.2) 0, .d (.sl 5 (m.fs.map eF)), .v (kI m.fs.length) 0, .v (kI x.1) 0]) (fun _ => []) (fun x => fieldsP s.es.length s.ms.length (m.fs.drop x.1) x.2 = fieldsP s.es.length s.ms.length m.fs 0 ∧ x.1 ≤ m.fs.length) (fun x => m.fs.length - x.1) (0, 0) [] rfl rfl ⟨rfl, Nat.zero_le _⟩ ⟨rfl, rfl, rfl, rfl, by rw [← hlen]; rfl, rfl, trivial⟩ rfl trivial ?_
  rintro ⟨i, last⟩ ⟨i1, i2⟩
  dsimp only at i1 i2
  have hw := wN i (by omega)
  rcases Nat.lt_or_ge i m.fs.length with hil | hil
  · have hat : (m.fs.map eF)[(i : Int).toNat]? = some (eF m.fs[i]) := by simp [hil]
    have hnm := hn m.fs[i] (List.getElem_mem hil)
    rw [drop_at hil] at i1
    rw [fieldsP_cons] at i1
    generalize hx : m.fs[i] = x at hat hnm i1
    have hbad : badF s.es.length s.ms.length last x = true → AV.v (.bool false) 0 = bA (messageP s m) := fun h => by
      unfold messageP
      rw [← i1, if_pos h]
      rfl
    have hgood : ¬ badF s.es.length s.ms.length last x = true → fieldsP s.es.length s.ms.length (m.fs.drop (i + 1)) x.num = fieldsP s.es.length s.ms.length m.fs 0 := fun h => by
      rw [← i1, if_neg h]
    rw [badF_iff] at hbad hgood
    clear i1
    by_cases hk9 : x.kind = 9
    · have hm : mostP s.es.length s.ms.length x.kind = s.es.length := by unfold mostP; rw [if_pos hk9]
      rw [hm] at hbad hgood
      refine a_if hT rfl rfl (fun h => ?_) (fun h => ?_)
      · have h := of_decide_eq_true h
        refine a_ix hT _ rfl rfl rfl rfl rfl rfl (by first | omega | assumption) (by first | assumption | rfl) ?_
        refine a_new hT hZ 20 rfl rfl rfl rfl fun g => ?_
        refine a_if hT rfl rfl (fun h1 => ?_) (fun h1 => ?_)
        · have h1 := eq_of_beq h1
          refine a_call hT rfl rfl rfl (by kernel_rfl) fieldNumber_spec [] [] rfl rfl ?_
          rintro _ _ ⟨rfl, rfl⟩
          refine a_g hT rfl rfl rfl (fun h2 => ?_) (fun h2 => ?_)
          · simp at h2
            refine a_gt hT rfl rfl rfl rfl ?_
            refine a_gt hT rfl rfl rfl rfl ?_
            refine a_gt hT rfl rfl rfl rfl ?_
            refine a_gt hT rfl rfl rfl rfl ?_
            refine a_gt hT rfl rfl rfl rfl ?_
            refine a_t hT rfl rfl rfl ?_
            refine a_ret hT [] rfl rfl rfl rfl rfl rfl ?_
            exact ⟨hbad (by first | exact .inl (by assumption) | exact .inr (.inl (by assumption)) | exact .inr (.inr (.inl (by assumption))) | (refine .inr (.inr (.inr ?_)); omega)), rfl⟩
          · simp at h2
            refine a_g hT rfl rfl rfl (fun h3 => ?_) (fun h3 => ?_)
            · have h3 := of_decide_eq_true h3
              refine a_gt hT rfl rfl rfl rfl ?_
              refine a_gt hT rfl rfl rfl rfl ?_
              refine a_gt hT rfl rfl rfl rfl ?_
              refine a_gt hT rfl rfl rfl rfl ?_
              refine a_t hT rfl rfl rfl ?_
              refine a_ret hT [] rfl rfl rfl rfl rfl rfl ?_
              exact ⟨hbad (by first | exact .inl (by assumption) | exact .inr (.inl (by assumption)) | exact .inr (.inr (.inl (by assumption))) | (refine .inr (.inr (.inr ?_)); omega)), rfl⟩
            · have h3 := of_decide_eq_false h3
              refine a_call hT rfl rfl rfl (by kernel_rfl) (Plain_spec (by first | assumption | rfl | decide | omega | (dsimp only; omega))) [] [] rfl rfl ?_
              rintro _ _ ⟨rfl, rfl⟩
              refine a_g hT rfl rfl rfl (fun h4 => ?_) (fun h4 => ?_)
              · simp at h4
                refine a_gt hT rfl rfl rfl rfl ?_
                refine a_gt hT rfl rfl rfl rfl ?_
                refine a_gt hT rfl rfl rfl rfl ?_
                refine a_t hT rfl rfl rfl ?_
                refine a_ret hT [] rfl rfl rfl rfl rfl rfl ?_
                exact ⟨hbad (by first | exact .inl (by assumption) | exact .inr (.inl (by assumption)) | exact .inr (.inr (.inl (by assumption))) | (refine .inr (.inr (.inr ?_)); omega)), rfl⟩
              · simp at h4
                refine a_g hT rfl rfl rfl (fun h5 => ?_) (fun h5 => ?_)
                · have h5 := of_decide_eq_true h5
                  (exfalso; first | omega | contradiction)
                · have h5 := of_decide_eq_false h5
                  refine a_g hT rfl rfl rfl (fun h6 => ?_) (fun h6 => ?_)
                  · have h6 := of_decide_eq_true h6
                    (exfalso; first | omega | contradiction)
                  · have h6 := of_decide_eq_false h6
                    refine a_g hT rfl rfl rfl (fun h7 => ?_) (fun h7 => ?_)
                    · have h7 := of_decide_eq_true h7
                      refine a_t hT rfl rfl rfl ?_
                      refine a_ret hT [] rfl rfl rfl rfl rfl rfl ?_
                      exact ⟨hbad (by first | exact .inl (by assumption) | exact .inr (.inl (by assumption)) | exact .inr (.inr (.inl (by assumption))) | (refine .inr (.inr (.inr ?_)); omega)), rfl⟩
                    · have h7 := of_decide_eq_false h7
                      refine a_if hT rfl rfl (fun h8 => ?_) (fun h8 => ?_)
                      · have h8 := of_decide_eq_true h8
                        refine a_ret hT [] rfl rfl rfl rfl rfl rfl ?_
                        exact ⟨hbad (by first | exact .inl (by assumption) | exact .inr (.inl (by assumption)) | exact .inr (.inr (.inl (by assumption))) | (refine .inr (.inr (.inr ?_)); omega)), rfl⟩
                      · have h8 := of_decide_eq_false h8
                        exact a_next hT (i + 1, x.num) [] rfl rfl ⟨⟨hgood (by simp_all), by dsimp only; omega⟩, by dsimp only; omega⟩ ⟨rfl, rfl, rfl, rfl, rfl, by show Value.int .i64 _ = Value.int .i64 _; rw [hw], trivial⟩ rfl trivial
        · have h1 := ne_of_beq_false h1
          (exfalso; first | omega | contradiction)
      · have h := of_decide_eq_false h
        (exfalso; first | omega | contradiction)
    · by_cases hk10 : x.kind = 10
      · have hm : mostP s.es.length s.ms.length x.kind = s.ms.length := by unfold mostP; rw [if_neg hk9, if_pos hk10]
        rw [hm] at hbad hgood
        refine a_if hT rfl rfl (fun h => ?_) (fun h => ?_)
        · have h := of_decide_eq_true h
          refine a_ix hT _ rfl rfl rfl rfl rfl rfl (by first | omega | assumption) (by first | assumption | rfl) ?_
          refine a_new hT hZ 20 rfl rfl rfl rfl fun g => ?_
          refine a_if hT rfl rfl (fun h1 => ?_) (fun h1 => ?_)
          · have h1 := eq_of_beq h1
            (exfalso; first | omega | contradiction)
          · have h1 := ne_of_beq_false h1
            refine a_if hT rfl rfl (fun h2 => ?_) (fun h2 => ?_)
            · have h2 := eq_of_beq h2
              refine a_call hT rfl rfl rfl (by kernel_rfl) fieldNumber_spec [] [] rfl rfl ?_
              rintro _ _ ⟨rfl, rfl⟩
              refine a_g hT rfl rfl rfl (fun h3 => ?_) (fun h3 => ?_)
              · simp at h3
                refine a_gt hT rfl rfl rfl rfl ?_
                refine a_gt hT rfl rfl rfl rfl ?_
                refine a_gt hT rfl rfl rfl rfl ?_
                refine a_gt hT rfl rfl rfl rfl ?_
                refine a_gt hT rfl rfl rfl rfl ?_
                refine a_t hT rfl rfl rfl ?_
                refine a_ret hT [] rfl rfl rfl rfl rfl rfl ?_
                exact ⟨hbad (by first | exact .inl (by assumption) | exact .inr (.inl (by assumption)) | exact .inr (.inr (.inl (by assumption))) | (refine .inr (.inr (.inr ?_)); omega)), rfl⟩
              · simp at h3
                refine a_g hT rfl rfl rfl (fun h4 => ?_) (fun h4 => ?_)
                · have h4 := of_decide_eq_true h4
                  refine a_gt hT rfl rfl rfl rfl ?_
                  refine a_gt hT rfl rfl rfl rfl ?_
                  refine a_gt hT rfl rfl rfl rfl ?_
                  refine a_gt hT rfl rfl rfl rfl ?_
                  refine a_t hT rfl rfl rfl ?_
                  refine a_ret hT [] rfl rfl rfl rfl rfl rfl ?_
                  exact ⟨hbad (by first | exact .inl (by assumption) | exact .inr (.inl (by assumption)) | exact .inr (.inr (.inl (by assumption))) | (refine .inr (.inr (.inr ?_)); omega)), rfl⟩
                · have h4 := of_decide_eq_false h4
                  refine a_call hT rfl rfl rfl (by kernel_rfl) (Plain_spec (by first | assumption | rfl | decide | omega | (dsimp only; omega))) [] [] rfl rfl ?_
                  rintro _ _ ⟨rfl, rfl⟩
                  refine a_g hT rfl rfl rfl (fun h5 => ?_) (fun h5 => ?_)
                  · simp at h5
                    refine a_gt hT rfl rfl rfl rfl ?_
                    refine a_gt hT rfl rfl rfl rfl ?_
                    refine a_gt hT rfl rfl rfl rfl ?_
                    refine a_t hT rfl rfl rfl ?_
                    refine a_ret hT [] rfl rfl rfl rfl rfl rfl ?_
                    exact ⟨hbad (by first | exact .inl (by assumption) | exact .inr (.inl (by assumption)) | exact .inr (.inr (.inl (by assumption))) | (refine .inr (.inr (.inr ?_)); omega)), rfl⟩
                  · simp at h5
                    refine a_g hT rfl rfl rfl (fun h6 => ?_) (fun h6 => ?_)
                    · have h6 := of_decide_eq_true h6
                      (exfalso; first | omega | contradiction)
                    · have h6 := of_decide_eq_false h6
                      refine a_g hT rfl rfl rfl (fun h7 => ?_) (fun h7 => ?_)
                      · have h7 := of_decide_eq_true h7
                        (exfalso; first | omega | contradiction)
                      · have h7 := of_decide_eq_false h7
                        refine a_g hT rfl rfl rfl (fun h8 => ?_) (fun h8 => ?_)
                        · have h8 := of_decide_eq_true h8
                          refine a_t hT rfl rfl rfl ?_
                          refine a_ret hT [] rfl rfl rfl rfl rfl rfl ?_
                          exact ⟨hbad (by first | exact .inl (by assumption) | exact .inr (.inl (by assumption)) | exact .inr (.inr (.inl (by assumption))) | (refine .inr (.inr (.inr ?_)); omega)), rfl⟩
                        · have h8 := of_decide_eq_false h8
                          refine a_if hT rfl rfl (fun h9 => ?_) (fun h9 => ?_)
                          · have h9 := of_decide_eq_true h9
                            refine a_ret hT [] rfl rfl rfl rfl rfl rfl ?_
                            exact ⟨hbad (by first | exact .inl (by assumption) | exact .inr (.inl (by assumption)) | exact .inr (.inr (.inl (by assumption))) | (refine .inr (.inr (.inr ?_)); omega)), rfl⟩
                          · have h9 := of_decide_eq_false h9
                            exact a_next hT (i + 1, x.num) [] rfl rfl ⟨⟨hgood (by simp_all), by dsimp only; omega⟩, by dsimp only; omega⟩ ⟨rfl, rfl, rfl, rfl, rfl, by show Value.int .i64 _ = Value.int .i64 _; rw [hw], trivial⟩ rfl trivial
            · have h2 := ne_of_beq_false h2
              (exfalso; first | omega | contradiction)
        · have h := of_decide_eq_false h
          (exfalso; first | omega | contradiction)
      · have hm : mostP s.es.length s.ms.length x.kind = 1 := by unfold mostP; rw [if_neg hk9, if_neg hk10]
        rw [hm] at hbad hgood
        refine a_if hT rfl rfl (fun h => ?_) (fun h => ?_)
        · have h := of_decide_eq_true h
          refine a_ix hT _ rfl rfl rfl rfl rfl rfl (by first | omega | assumption) (by first | assumption | rfl) ?_
          refine a_new hT hZ 20 rfl rfl rfl rfl fun g => ?_
          refine a_if hT rfl rfl (fun h1 => ?_) (fun h1 => ?_)
          · have h1 := eq_of_beq h1
            (exfalso; first | omega | contradiction)
          · have h1 := ne_of_beq_false h1
            refine a_if hT rfl rfl (fun h2 => ?_) (fun h2 => ?_)
            · have h2 := eq_of_beq h2
              (exfalso; first | omega | contradiction)
            · have h2 := ne_of_beq_false h2
              refine a_call hT rfl rfl rfl (by kernel_rfl) fieldNumber_spec [] [] rfl rfl ?_
              rintro _ _ ⟨rfl, rfl⟩
              refine a_g hT rfl rfl rfl (fun h3 => ?_) (fun h3 => ?_)
              · simp at h3
                refine a_gt hT rfl rfl rfl rfl ?_
                refine a_gt hT rfl rfl rfl rfl ?_
                refine a_gt hT rfl rfl rfl rfl ?_
                refine a_gt hT rfl rfl rfl rfl ?_
                refine a_gt hT rfl rfl rfl rfl ?_
                refine a_t hT rfl rfl rfl ?_
                refine a_ret hT [] rfl rfl rfl rfl rfl rfl ?_
                exact ⟨hbad (by first | exact .inl (by assumption) | exact .inr (.inl (by assumption)) | exact .inr (.inr (.inl (by assumption))) | (refine .inr (.inr (.inr ?_)); omega)), rfl⟩
              · simp at h3
                refine a_g hT rfl rfl rfl (fun h4 => ?_) (fun h4 => ?_)
                · have h4 := of_decide_eq_true h4
                  refine a_gt hT rfl rfl rfl rfl ?_
                  refine a_gt hT rfl rfl rfl rfl ?_
                  refine a_gt hT rfl rfl rfl rfl ?_
                  refine a_gt hT rfl rfl rfl rfl ?_
                  refine a_t hT rfl rfl rfl ?_
                  refine a_ret hT [] rfl rfl rfl rfl rfl rfl ?_
                  exact ⟨hbad (by first | exact .inl (by assumption) | exact .inr (.inl (by assumption)) | exact .inr (.inr (.inl (by assumption))) | (refine .inr (.inr (.inr ?_)); omega)), rfl⟩
                · have h4 := of_decide_eq_false h4
                  refine a_call hT rfl rfl rfl (by kernel_rfl) (Plain_spec (by first | assumption | rfl | decide | omega | (dsimp only; omega))) [] [] rfl rfl ?_
                  rintro _ _ ⟨rfl, rfl⟩
                  refine a_g hT rfl rfl rfl (fun h5 => ?_) (fun h5 => ?_)
                  · simp at h5
                    refine a_gt hT rfl rfl rfl rfl ?_
                    refine a_gt hT rfl rfl rfl rfl ?_
                    refine a_gt hT rfl rfl rfl rfl ?_
                    refine a_t hT rfl rfl rfl ?_
                    refine a_ret hT [] rfl rfl rfl rfl rfl rfl ?_
                    exact ⟨hbad (by first | exact .inl (by assumption) | exact .inr (.inl (by assumption)) | exact .inr (.inr (.inl (by assumption))) | (refine .inr (.inr (.inr ?_)); omega)), rfl⟩
                  · simp at h5
                    refine a_g hT rfl rfl rfl (fun h6 => ?_) (fun h6 => ?_)
                    · have h6 := of_decide_eq_true h6
                      refine a_gt hT rfl rfl rfl rfl ?_
                      refine a_gt hT rfl rfl rfl rfl ?_
                      refine a_t hT rfl rfl rfl ?_
                      refine a_ret hT [] rfl rfl rfl rfl rfl rfl ?_
                      exact ⟨hbad (by first | exact .inl (by assumption) | exact .inr (.inl (by assumption)) | exact .inr (.inr (.inl (by assumption))) | (refine .inr (.inr (.inr ?_)); omega)), rfl⟩
                    · have h6 := of_decide_eq_false h6
                      refine a_g hT rfl rfl rfl (fun h7 => ?_) (fun h7 => ?_)
                      · have h7 := of_decide_eq_true h7
                        refine a_gt hT rfl rfl rfl rfl ?_
                        refine a_t hT rfl rfl rfl ?_
                        refine a_ret hT [] rfl rfl rfl rfl rfl rfl ?_
                        exact ⟨hbad (by first | exact .inl (by assumption) | exact .inr (.inl (by assumption)) | exact .inr (.inr (.inl (by assumption))) | (refine .inr (.inr (.inr ?_)); omega)), rfl⟩
                      · have h7 := of_decide_eq_false h7
                        refine a_g hT rfl rfl rfl (fun h8 => ?_) (fun h8 => ?_)
                        · have h8 := of_decide_eq_true h8
                          refine a_t hT rfl rfl rfl ?_
                          refine a_ret hT [] rfl rfl rfl rfl rfl rfl ?_
                          exact ⟨hbad (by first | exact .inl (by assumption) | exact .inr (.inl (by assumption)) | exact .inr (.inr (.inl (by assumption))) | (refine .inr (.inr (.inr ?_)); omega)), rfl⟩
                        · have h8 := of_decide_eq_false h8
                          refine a_if hT rfl rfl (fun h9 => ?_) (fun h9 => ?_)
                          · have h9 := of_decide_eq_true h9
                            refine a_ret hT [] rfl rfl rfl rfl rfl rfl ?_
                            exact ⟨hbad (by first | exact .inl (by assumption) | exact .inr (.inl (by assumption)) | exact .inr (.inr (.inl (by assumption))) | (refine .inr (.inr (.inr ?_)); omega)), rfl⟩
                          · have h9 := of_decide_eq_false h9
                            exact a_next hT (i + 1, x.num) [] rfl rfl ⟨⟨hgood (by simp_all), by dsimp only; omega⟩, by dsimp only; omega⟩ ⟨rfl, rfl, rfl, rfl, rfl, by show Value.int .i64 _ = Value.int .i64 _; rw [hw], trivial⟩ rfl trivial
        · have h := of_decide_eq_false h
          (exfalso; first | omega | contradiction)
  · have hnil : m.fs.drop i = [] := List.drop_eq_nil_of_le hil
    rw [hnil] at i1
    have hU := UFS_spec (l := m.fs) (key := fun f => f.name) (f := 108) (cap := []) hl (by kernel_rfl) (fun x _ => msg1_spec)
    have hmp : messageP s m = (decide (m.fs.length ≤ 32) && uniqM (m.fs.map (·.name)) []) := by unfold messageP; rw [← i1]; rfl
    refine a_if hT rfl rfl (fun h => ?_) (fun h => ?_)
    · have h := of_decide_eq_true h
      (exfalso; first | omega | contradiction)
    · have h := of_decide_eq_false h
      refine a_g hT rfl rfl rfl (fun h1 => ?_) (fun h1 => ?_)
      · have h1 := of_decide_eq_true h1
        refine a_call hT rfl rfl rfl (by kernel_rfl) hU [] [] rfl rfl ?_
        rintro _ _ ⟨rfl, rfl⟩
        refine a_ret hT [] rfl rfl rfl rfl rfl rfl ?_
        exact b_eq (by rw [hmp]; simp; omega)
      · have h1 := of_decide_eq_false h1
        refine a_ret hT [] rfl rfl rfl rfl rfl rfl ?_
        exact b_eq (by rw [hmp]; simp; omega)
end Go.Proofs.YtjcolfogmmjaoaaGreatDoor
end

section
/- Layer 8: a schema of messages alone, none of which holds another, is formed. -/
set_option linter.unusedVariables false
set_option linter.unusedSimpArgs false
set_option maxRecDepth 100000
namespace Go.Proofs.YtjcolfogmmjaoaaGreatDoor
open V A
/-- Messages alone, none of which holds another. -/
structure Plain0 (s : SchP) : Prop where
  es : s.es = []
  mts : s.mts = []
  ms : s.ms.length ≤ 1000
  fl : ∀ m ∈ s.ms, m.fs.length ≤ 1000
  nm : ∀ m ∈ s.ms, m.name.size ≤ 900000
  fn : ∀ m ∈ s.ms, ∀ f ∈ m.fs, f.name.size ≤ 900000
  kd : ∀ m ∈ s.ms, ∀ f ∈ m.fs, f.kind ≠ 10
theorem form1_spec {b : ByteArray} {h : Nat} (hb : b.size ≤ 900000) : FSpec Tryz.prog 60 [.v (.string b) h] [] fun a cs => a = bA (!pathOk b) ∧ cs = [] := by
  refine a_enter hT [.v (.string b) 0] [] Tryz.func60 rfl rfl rfl ⟨rfl, trivial⟩ fun c' => ?_
  have HP := Path_spec (h := 0) hb
  cases hp : pathOk b
  · rw [hp] at HP
    refine a_call hT rfl rfl rfl (by kernel_rfl) HP [] [] rfl rfl ?_
    rintro _ _ ⟨rfl, rfl⟩
    refine a_ret hT [] rfl rfl rfl rfl rfl rfl ?_
    exact ⟨rfl, rfl⟩
  · rw [hp] at HP
    refine a_call hT rfl rfl rfl (by kernel_rfl) HP [] [] rfl rfl ?_
    rintro _ _ ⟨rfl, rfl⟩
    refine a_ret hT [] rfl rfl rfl rfl rfl rfl ?_
    exact ⟨rfl, rfl⟩
theorem form2_spec {b : ByteArray} {h : Nat} : FSpec Tryz.prog 63 [.v (.string b) h] [] fun a cs => a = .v (kS b) 0 ∧ cs = [] := by
  refine a_enter hT [.v (.string b) 0] [] Tryz.func63 rfl rfl rfl ⟨rfl, trivial⟩ fun c' => ?_
  refine a_ret hT [] rfl rfl rfl rfl rfl rfl ?_
  exact ⟨rfl, rfl⟩
theorem form3_spec {s : SchP} {m : MDP} (hl : m.fs.length < 4611686018427387904) (hn : ∀ f ∈ m.fs, f.name.size ≤ 4611686018427387904) : FSpec Tryz.prog 65 [.agg ((eM m).map nd), .d (.p (schD s))] [] fun a cs => a = bA (!messageP s m) ∧ cs = [] := by
  refine a_enter hT [.agg ((eM m).map nd), .d (.p (schD s))] [] Tryz.func65 rfl rfl rfl ⟨Fit.refl _, Fit.refl _, trivial⟩ fun c' => ?_
  have HM := message_spec (s := s) hl hn
  refine a_box hT 20 rfl rfl rfl rfl fun g => ?_
  refine a_call hT rfl rfl rfl (by kernel_rfl) HM [] [] rfl rfl ?_
  rintro _ _ ⟨rfl, rfl⟩
  refine a_ret hT [] rfl rfl rfl rfl rfl rfl ?_
  exact ⟨rfl, rfl⟩
theorem uniq0_spec {f : FuncId} {cap : List AV} : FSpec Tryz.prog 71 [.d (.sl 5 []), .fn f cap] [] fun a cs => a = bA true ∧ cs = [] := by
  refine a_enter hT [.d (.sl 5 []), .fn f cap] [] Tryz.func71 rfl rfl rfl ⟨rfl, Fit.refl _, trivial⟩ fun c' => ?_
  refine a_mkmap hT 40 rfl rfl rfl fun r => ?_
  refine a_loop hT [9, 10, 11] (fun _ : Unit => [.d (.sl 5 []), .v (kI 0) 0, .v (kI 0) 0]) (fun _ => []) (fun _ => True) (fun _ => 0) () [] rfl rfl trivial ⟨rfl, rfl, rfl, trivial⟩ rfl trivial ?_
  rintro _ _
  refine a_f hT rfl rfl rfl ?_
  refine a_ret hT [] rfl rfl rfl rfl rfl rfl ?_
  exact ⟨rfl, rfl⟩
theorem reach0_spec {s : SchP} {k : Nat} {a1 a2 a3 : AV} {h : Nat} (hs : Plain0 s) (hk : k < s.ms.length) : FSpec Tryz.prog 116 [.v (kI k) h, .d (.p (schD s)), a1, a2, a3] [] fun a cs => a = bA false ∧ cs = [] := by
  refine a_enter hT [.v (kI k) 0, .d (.p (schD s)), a1, a2, a3] [] Tryz.func116 rfl rfl rfl ⟨rfl, Fit.refl _, Fit.refl _, Fit.refl _, Fit.refl _, trivial⟩ fun c' => ?_
  have hat : (s.ms.map eM)[(k : Int).toNat]? = some (eM s.ms[k]) := by simp [hk]
  have hm := List.getElem_mem hk
  have hkd := hs.kd _ hm
  have hfl := hs.fl _ hm
  generalize s.ms[k] = m at hat hm hkd hfl
  have hlen : (m.fs.map eF).length = m.fs.length := List.length_map _
  refine a_ix hT _ rfl rfl rfl rfl rfl rfl (by omega) hat ?_
  refine a_loop hT [14, 15, 16] (fun i : Nat => [.d (.sl 5 (m.fs.map eF)), .v (kI m.fs.length) 0, .v (kI i) 0]) (fun _ => []) (fun i => i ≤ m.fs.length) (fun i => m.fs.length - i) 0 [] rfl rfl (Nat.zero_le _) ⟨rfl, by rw [← hlen]; rfl, rfl, trivial⟩ rfl trivial ?_
  intro i i2
  have hw := wN i (by omega)
  rcases Nat.lt_or_ge i m.fs.length with hil | hil
  · have hat : (m.fs.map eF)[(i : Int).toNat]? = some (eF m.fs[i]) := by simp [hil]
    have hk10 := hkd _ (List.getElem_mem hil)
    refine a_if hT rfl rfl (fun h1 => ?_) (fun h1 => ?_)
    · have h1 := of_decide_eq_true h1
      refine a_ix hT _ rfl rfl rfl rfl rfl rfl (by first | omega | assumption) (by first | assumption | rfl) ?_
      refine a_new hT hZ 20 rfl rfl rfl rfl fun g => ?_
      refine a_g hT rfl rfl rfl (fun h2 => ?_) (fun h2 => ?_)
      · have h2 := bne_iff_ne.1 h2
        refine a_t hT rfl rfl rfl ?_
        exact a_next hT (i + 1) [] rfl rfl ⟨by show i + 1 ≤ m.fs.length; omega, by show m.fs.length - (i + 1) < m.fs.length - i; omega⟩ ⟨rfl, rfl, by show Value.int .i64 _ = Value.int .i64 _; rw [hw], trivial⟩ rfl trivial
      · simp at h2
        (exfalso; first | omega | contradiction)
    · have h1 := of_decide_eq_false h1
      (exfalso; first | omega | contradiction)
  · refine a_if hT rfl rfl (fun h1 => ?_) (fun h1 => ?_)
    · have h1 := of_decide_eq_true h1
      (exfalso; first | omega | contradiction)
    · have h1 := of_decide_eq_false h1
      refine a_ret hT [] rfl rfl rfl rfl rfl rfl ?_
      exact ⟨rfl, rfl⟩
theorem needs0_spec {s : SchP} {k : Nat} {h : Nat} (hs : Plain0 s) (hk : k < s.ms.length) : FSpec Tryz.prog 73 [schA s, .v (kI k) h] [] fun a cs => a = bA false ∧ cs = [] := by
  refine a_enter hT [schA s, .v (kI k) 0] [] Tryz.func73 rfl rfl rfl ⟨Fit.refl _, rfl, trivial⟩ fun c' => ?_
  have hlm : (s.ms.map eM).length = s.ms.length := List.length_map _
  have hms := hs.ms
  refine a_box hT 20 rfl rfl rfl rfl fun g1 => ?_
  refine a_freezeK 2 20 rfl rfl rfl rfl rfl ?_
  refine a_box hT 21 rfl rfl rfl rfl fun g2 => ?_
  refine a_mkslice hT 22 (z := .bool false) s.ms.length s.ms.length rfl rfl rfl rfl (by kernel_rfl) (by kernel_rfl) rfl rfl rfl (by show (((s.ms.map eM).length : Nat) : Int) = _; rw [hlm]) (by show (((s.ms.map eM).length : Nat) : Int) = _; rw [hlm]) (Nat.le_refl _) (by omega) fun x => ?_
  refine a_new hT hZ 23 rfl rfl rfl rfl fun g => ?_
  refine a_new hT hZ 24 rfl rfl rfl rfl fun g3 => ?_
  refine a_callv hT rfl rfl rfl rfl (by kernel_rfl) (reach0_spec hs hk) [] [] rfl rfl ?_
  rintro _ _ ⟨rfl, rfl⟩
  exact a_ret hT [] rfl rfl rfl rfl rfl rfl ⟨rfl, rfl⟩
def formedS (ms : List MDP) : Bool := decide (ms.length ≤ 64) && ((ms.map (·.name)).all pathOk && (uniqM (ms.map (·.name)) [] && ms.all (messageP ⟨ms, [], []⟩)))
theorem Formed0_spec {ms : List MDP} (hs : Plain0 ⟨ms, [], []⟩) : FSpec Tryz.prog 37 [schA ⟨ms, [], []⟩] [] fun a cs => a = bA (formedS ms) ∧ cs = [] := by
  refine a_enter hT [schA ⟨ms, [], []⟩] [] Tryz.func37 rfl rfl rfl ⟨Fit.refl _, trivial⟩ fun c' => ?_
  have hlm : (ms.map eM).length = ms.length := List.length_map _
  have hms : ms.length ≤ 1000 := hs.ms
  refine a_box hT 20 rfl rfl rfl rfl fun g1 => ?_
  refine a_freezeK 1 20 rfl rfl rfl rfl rfl ?_
  refine a_g hT rfl rfl rfl (fun h => ?_) (fun h => ?_)
  · have h := of_decide_eq_true h
    refine a_gt hT rfl rfl rfl rfl ?_
    refine a_t hT rfl rfl rfl ?_
    refine a_ret hT [] rfl rfl rfl rfl rfl rfl ?_
    exact b_eq (by have h : (ms.length : Int) > 64 := by rw [← hlm]; exact h
                   simp [formedS]; omega)
  · have h := of_decide_eq_false h
    have h64 : ¬ (ms.length : Int) > 64 := by rw [← hlm]; exact h
    refine a_gf hT rfl rfl rfl rfl ?_
    refine a_f hT rfl rfl rfl ?_
    refine a_run hT 6 rfl rfl ?_
    refine a_nilrow 3 30 9 1 rfl rfl ?_
    refine a_loop hT [1, 3, 28, 29, 30] (fun x : Nat × Value => [.d (.p (schD ⟨ms, [], []⟩)), .row x.2 30, .d (.sl 2 (ms.map eM)), .v (kI ms.length) 0, .v (kI x.1) 0]) (fun x => [(30, .row x.2 9 1 (((ms.take x.1).map (·.name)).map eS))]) (fun x => x.1 ≤ ms.length) (fun x => ms.length - x.1) (0, .slice none 0 0) [30] rfl rfl (Nat.zero_le _) ⟨rfl, rfl, rfl, by rw [← hlm]; rfl, rfl, trivial⟩ rfl ⟨⟨rfl, rfl, rfl, rfl⟩, trivial⟩ ?_
    rintro ⟨i, v⟩ i2
    dsimp only at i2
    have hw := wN i (by omega)
    rcases Nat.lt_or_ge i ms.length with hil | hil
    · have hat : (ms.map eM)[(i : Int).toNat]? = some (eM ms[i]) := by simp [hil]
      have htk : ((ms.take (i + 1)).map (·.name)).map eS = ((ms.take i).map (·.name)).map eS ++ [eS ms[i].name] := by rw [List.take_succ_eq_append_getElem hil, List.map_append, List.map_append]; rfl
      generalize ms[i] = m at hat htk
      refine a_t hT rfl rfl (decide_eq_true (by show (i : Int) < (ms.length : Int); omega)) ?_
      refine a_ix hT _ rfl rfl rfl rfl rfl rfl (by first | omega | assumption) (by first | assumption | rfl) ?_
      refine a_new hT hZ 31 rfl rfl rfl rfl fun g => ?_
      refine a_lit hT 32 rfl rfl rfl rfl (by kernel_rfl) rfl rfl rfl rfl fun x32 => ?_
      refine a_app hT 30 _ rfl rfl rfl rfl (by kernel_rfl) rfl rfl rfl rfl rfl rfl (by first | (simp; done) | (simp; omega) | (simp; unfold lim; omega) | (simp; assumption)) fun v1 => ?_
      exact a_next hT (i + 1, v1) [30] rfl rfl ⟨by show i + 1 ≤ ms.length; omega, by show ms.length - (i + 1) < ms.length - i; omega⟩ ⟨rfl, rfl, rfl, rfl, by show Value.int .i64 _ = Value.int .i64 _; rw [hw], trivial⟩ rfl ⟨⟨rfl, rfl, rfl, htk.symm⟩, trivial⟩
    · refine a_if hT rfl rfl (fun h1 => ?_) (fun h1 => ?_)
      · have h1 := of_decide_eq_true h1
        (exfalso; first | omega | contradiction)
      · have h1 := of_decide_eq_false h1
        have hi : i = ms.length := by omega
        subst hi
        refine a_loop hT [1, 3, 41, 42, 43] (fun _ : Unit => [.d (.p (schD ⟨ms, [], []⟩)), .row v 30, .d (.sl 2 []), .v (kI 0) 0, .v (kI 0) 0]) (fun _ => [(30, .row v 9 1 ((ms.map (·.name)).map eS))]) (fun _ => True) (fun _ => 0) () [30] rfl rfl trivial ⟨rfl, rfl, rfl, rfl, rfl, trivial⟩ rfl ⟨⟨rfl, rfl, rfl, by show ((ms.take ms.length).map (·.name)).map eS = _; rw [List.take_length]⟩, trivial⟩ ?_
        rintro _ _
        refine a_f hT rfl rfl rfl ?_
        have HC := SContainsFunc_spec (l := ms.map (·.name)) (p := fun y => !pathOk y) (f := 60) (cap := []) (by rw [List.length_map]; omega) (by kernel_rfl) (fun x hx => form1_spec (by
          obtain ⟨m, hm, rfl⟩ := List.mem_map.1 hx
          exact hs.nm m hm))
        have HU := USS_spec (l := ms.map (·.name)) (key := fun x => x) (f := 63) (cap := []) (by rw [List.length_map]; omega) (by kernel_rfl) (fun x hx => form2_spec)
        have HM := MContainsFunc_spec (l := ms) (p := fun m => !messageP ⟨ms, [], []⟩ m) (f := 65) (cap := [.d (.p (schD ⟨ms, [], []⟩))]) (by omega) (by kernel_rfl) (fun x hx => form3_spec (by have := hs.fl x hx; omega) (fun f hf => by have := hs.fn x hx f hf; omega))
        have HE := EContainsFunc_spec (l := []) (p := fun _ => false) (f := 68) (cap := []) (by decide) (by kernel_rfl) (fun x hx => absurd hx (by simp))
        have hall1 : (ms.map (·.name)).any (fun y => !pathOk y) = !(ms.map (·.name)).all pathOk := by rw [List.all_eq_not_any_not, Bool.not_not]
        have hall2 : ms.any (fun m => !messageP ⟨ms, [], []⟩ m) = !ms.all (messageP ⟨ms, [], []⟩) := by rw [List.all_eq_not_any_not, Bool.not_not]
        rw [hall1] at HC
        rw [hall2] at HM
        rw [List.map_id'] at HU
        have hfm : formedS ms = ((ms.map (·.name)).all pathOk && (uniqM (ms.map (·.name)) [] && ms.all (messageP ⟨ms, [], []⟩))) := by unfold formedS; rw [decide_eq_true (show ms.length ≤ 64 by omega)]; rfl
        generalize (ms.map (·.name)).all pathOk = bA1 at HC hfm
        generalize uniqM (ms.map (·.name)) [] = bU1 at HU hfm
        generalize ms.all (messageP ⟨ms, [], []⟩) = bM1 at HM hfm
        refine a_callZ hT rfl rfl rfl (by kernel_rfl) HC [30] [] [] rfl rfl rfl ⟨rfl, ⟨rfl, trivial⟩, trivial⟩ trivial (by rintro _ _ ⟨rfl, rfl⟩; exact ⟨inferInstance, inferInstance⟩) ?_
        rintro _ _ ⟨rfl, rfl⟩
        refine a_g hT rfl rfl rfl (fun h2 => ?_) (fun h2 => ?_)
        · simp at h2
          refine a_t hT rfl rfl rfl ?_
          refine a_ret hT [] rfl rfl rfl rfl rfl rfl ?_
          exact b_eq (by rw [hfm]; simp_all)
        · simp at h2
          refine a_callZ hT rfl rfl rfl (by kernel_rfl) HU [30] [] [] rfl rfl rfl ⟨rfl, ⟨rfl, trivial⟩, trivial⟩ trivial (by rintro _ _ ⟨rfl, rfl⟩; exact ⟨inferInstance, inferInstance⟩) ?_
          rintro _ _ ⟨rfl, rfl⟩
          refine a_if hT rfl rfl (fun h3 => ?_) (fun h3 => ?_)
          · simp at h3
            refine a_ret hT [] rfl rfl rfl rfl rfl rfl ?_
            exact b_eq (by rw [hfm]; simp_all)
          · simp at h3
            refine a_call hT rfl rfl rfl (by kernel_rfl) HM [] [] rfl rfl ?_
            rintro _ _ ⟨rfl, rfl⟩
            refine a_g hT rfl rfl rfl (fun h4 => ?_) (fun h4 => ?_)
            · simp at h4
              refine a_t hT rfl rfl rfl ?_
              refine a_ret hT [] rfl rfl rfl rfl rfl rfl ?_
              exact b_eq (by rw [hfm]; simp_all)
            · simp at h4
              refine a_call hT rfl rfl rfl (by kernel_rfl) HE [] [] rfl rfl ?_
              rintro _ _ ⟨rfl, rfl⟩
              refine a_f hT rfl rfl rfl ?_
              refine a_loop hT [1, 70, 71, 72] (fun _ : Unit => [.d (.p (schD ⟨ms, [], []⟩)), .d (.sl 5 []), .v (kI 0) 0, .v (kI 0) 0]) (fun _ => []) (fun _ => True) (fun _ => 0) () [] rfl rfl trivial ⟨rfl, rfl, rfl, rfl, trivial⟩ rfl trivial ?_
              rintro _ _
              refine a_f hT rfl rfl rfl ?_
              refine a_call hT rfl rfl rfl (by kernel_rfl) (uniq0_spec (f := 72) (cap := [])) [] [] rfl rfl ?_
              rintro _ _ ⟨rfl, rfl⟩
              refine a_f hT rfl rfl rfl ?_
              refine a_loop hT [1, 119, 120, 121] (fun i : Nat => [.d (.p (schD ⟨ms, [], []⟩)), .d (.sl 2 (ms.map eM)), .v (kI ms.length) 0, .v (kI i) 0]) (fun _ => []) (fun i => i ≤ ms.length) (fun i => ms.length - i) 0 [] rfl rfl (Nat.zero_le _) ⟨rfl, rfl, by rw [← hlm]; rfl, rfl, trivial⟩ rfl trivial ?_
              intro i i2
              have hw := wN i (by omega)
              rcases Nat.lt_or_ge i ms.length with hil | hil
              · refine a_t hT rfl rfl (decide_eq_true (by show (i : Int) < (ms.length : Int); omega)) ?_
                refine a_call hT rfl rfl rfl (by kernel_rfl) (needs0_spec (h := 0) hs hil) [] [] rfl rfl ?_
                rintro _ _ ⟨rfl, rfl⟩
                refine a_f hT rfl rfl rfl ?_
                exact a_next hT (i + 1) [] rfl rfl ⟨by show i + 1 ≤ ms.length; omega, by show ms.length - (i + 1) < ms.length - i; omega⟩ ⟨rfl, rfl, rfl, by show Value.int .i64 _ = Value.int .i64 _; rw [hw], trivial⟩ rfl trivial
              · refine a_f hT rfl rfl (decide_eq_false (by show ¬ (i : Int) < (ms.length : Int); omega)) ?_
                exact a_ret hT [] rfl rfl rfl rfl rfl rfl (b_eq (by rw [hfm]; simp_all))
end Go.Proofs.YtjcolfogmmjaoaaGreatDoor
end

section
/- Layer 1: varint.Take, Take32, Take64. -/
set_option linter.unusedVariables false
set_option linter.unusedSimpArgs false
set_option maxRecDepth 100000
set_option maxHeartbeats 1000000
namespace Go.Proofs.YtjcolfogmmjaoaaGreatDoor
open V A
theorem bv_nat (k a : Nat) : (BitVec.ofInt k (a : Int)).toNat = a % 2 ^ k := by simp
theorem wrapN64 {a : Nat} (h : a < 18446744073709551616) : IntKind.u64.wrap (a : Int) = a := wrapU (by omega) (by omega)
theorem wrapN32 {a : Nat} (h : a < 4294967296) : IntKind.u32.wrap (a : Int) = a := by
  unfold IntKind.wrap
  simp [IntKind.bits, IntKind.signed]
  omega
theorem wrapN8 {a : Nat} (h : a < 256) : IntKind.u8.wrap (a : Int) = a := by
  unfold IntKind.wrap
  simp [IntKind.bits, IntKind.signed]
  omega
theorem or64 {a b : Nat} (ha : a < 18446744073709551616) (hb : b < 18446744073709551616) : IntKind.u64.wrap (BitVec.ofInt 64 (a : Int) ||| BitVec.ofInt 64 (b : Int)).toNat = ((a ||| b : Nat) : Int) := by
  rw [BitVec.toNat_or, bv_nat, bv_nat, Nat.mod_eq_of_lt (by simpa using ha), Nat.mod_eq_of_lt (by simpa using hb)]
  exact wrapN64 (Nat.or_lt_two_pow (n := 64) (by simpa using ha) (by simpa using hb))
theorem or32 {a b : Nat} (ha : a < 4294967296) (hb : b < 4294967296) : IntKind.u32.wrap (BitVec.ofInt 32 (a : Int) ||| BitVec.ofInt 32 (b : Int)).toNat = ((a ||| b : Nat) : Int) := by
  rw [BitVec.toNat_or, bv_nat, bv_nat, Nat.mod_eq_of_lt (by simpa using ha), Nat.mod_eq_of_lt (by simpa using hb)]
  exact wrapN32 (Nat.or_lt_two_pow (n := 32) (by simpa using ha) (by simpa using hb))
theorem and8 {a b : Nat} (ha : a < 256) (hb : b < 256) : IntKind.u8.wrap (BitVec.ofInt 8 (a : Int) &&& BitVec.ofInt 8 (b : Int)).toNat = ((a &&& b : Nat) : Int) := by
  rw [BitVec.toNat_and, bv_nat, bv_nat, Nat.mod_eq_of_lt (by simpa using ha), Nat.mod_eq_of_lt (by simpa using hb)]
  exact wrapN8 (Nat.lt_of_le_of_lt Nat.and_le_left ha)
theorem and127 (a : Nat) : a &&& 127 = a % 128 := Nat.and_two_pow_sub_one_eq_mod a 7
theorem and128 {a : Nat} (h : a < 256) : (a &&& 128 = 0) ↔ a < 128 := by
  have : ∀ x : Fin 256, (x.val &&& 128 = 0) ↔ x.val < 128 := by decide +kernel
  exact this ⟨a, h⟩
theorem or_add {n x i : Nat} (h : n < 2 ^ i) : n ||| x * 2 ^ i = n + x * 2 ^ i := by
  have := Nat.shiftLeft_add_eq_or_of_lt h x
  rw [Nat.shiftLeft_eq] at this
  rw [Nat.or_comm, ← this, Nat.add_comm]
theorem pow7 {i : Nat} (h : i ≤ 9) : 2 ^ (7 * i) ≤ 9223372036854775808 := Nat.le_trans (Nat.pow_le_pow_right (by decide) (show 7 * i ≤ 63 by omega)) (by decide)
theorem stepB {n i : Nat} {c : UInt8} (hi : i ≤ 9) (hn : n < 2 ^ (7 * i)) (hc : i = 9 → c.toNat ≤ 1) : n + c.toNat % 128 * 2 ^ (7 * i) < 18446744073709551616 ∧ c.toNat % 128 * 2 ^ (7 * i) < 18446744073709551616 := by
  by_cases h9 : i = 9
  · subst h9
    have := hc rfl
    have h2 : c.toNat % 128 ≤ 1 := by omega
    have h3 := Nat.mul_le_mul_right (2 ^ (7 * 9)) h2
    have : (2 : Nat) ^ (7 * 9) = 9223372036854775808 := by decide
    omega
  · have h1 : 2 ^ (7 * i) ≤ 72057594037927936 := Nat.le_trans (Nat.pow_le_pow_right (by decide) (show 7 * i ≤ 56 by omega)) (by decide)
    have h2 : c.toNat % 128 ≤ 127 := by omega
    have h3 := Nat.mul_le_mul h2 h1
    omega
theorem stepL {n i : Nat} {c : UInt8} (hn : n < 2 ^ (7 * i)) : n + c.toNat % 128 * 2 ^ (7 * i) < 2 ^ (7 * (i + 1)) := by
  have h2 : c.toNat % 128 ≤ 127 := by omega
  have h3 := Nat.mul_le_mul_right (2 ^ (7 * i)) h2
  rw [show 7 * (i + 1) = 7 * i + 7 by omega, Nat.pow_add]
  omega
theorem stepE {n i : Nat} {c : UInt8} (hi : i ≤ 9) (hn : n < 2 ^ (7 * i)) (hc : i = 9 → c.toNat ≤ 1) :
    IntKind.u64.wrap ↑(BitVec.toNat (BitVec.ofInt (IntKind.bits .u64) (n : Int) ||| BitVec.ofInt (IntKind.bits .u64) (IntKind.u64.wrap (IntKind.u64.wrap (IntKind.u8.wrap ↑(BitVec.toNat (BitVec.ofInt (IntKind.bits .u8) (c.toNat : Int) &&& BitVec.ofInt (IntKind.bits .u8) 127))) * 2 ^ min (Int.toNat (IntKind.i64.wrap (7 * (i : Int)))) (IntKind.bits .u64))))) = ((n + c.toNat % 128 * 2 ^ (7 * i) : Nat) : Int) := by
  have h1 := stepB hi hn hc
  have hlt := c.toNat_lt
  have h7 : IntKind.i64.wrap (7 * (i : Int)) = ((7 * i : Nat) : Int) := by rw [w64 (by omega) (by omega)]; omega
  have ha := and8 (a := c.toNat) (b := 127) (by omega) (by decide)
  rw [and127] at ha
  rw [show ((127 : Nat) : Int) = 127 from rfl] at ha
  show IntKind.u64.wrap ↑(BitVec.toNat (BitVec.ofInt 64 (n : Int) ||| BitVec.ofInt 64 (IntKind.u64.wrap (IntKind.u64.wrap (IntKind.u8.wrap ↑(BitVec.toNat (BitVec.ofInt 8 (c.toNat : Int) &&& BitVec.ofInt 8 127))) * 2 ^ min (Int.toNat (IntKind.i64.wrap (7 * (i : Int)))) 64)))) = _
  rw [ha, h7, Int.toNat_natCast, Nat.min_eq_left (by omega), wrapN64 (a := c.toNat % 128) (by omega)]
  rw [show ((c.toNat % 128 : Nat) : Int) * 2 ^ (7 * i) = ((c.toNat % 128 * 2 ^ (7 * i) : Nat) : Int) by push_cast; rfl, wrapN64 h1.2, or64 (by omega) h1.2, or_add hn]
theorem and0 (c : UInt8) : ((IntKind.u8.wrap ↑(BitVec.toNat (BitVec.ofInt (IntKind.bits .u8) (c.toNat : Int) &&& BitVec.ofInt (IntKind.bits .u8) 128)) : Int) = 0) ↔ c.toNat < 128 := by
  have hlt := c.toNat_lt
  have ha := and8 (a := c.toNat) (b := 128) (by omega) (by decide)
  show (IntKind.u8.wrap ↑(BitVec.toNat (BitVec.ofInt 8 (c.toNat : Int) &&& BitVec.ofInt 8 128)) : Int) = 0 ↔ _
  rw [show ((128 : Nat) : Int) = 128 from rfl] at ha
  rw [ha, ← and128 (by omega)]
  omega
/-- Number, size, error. -/
def takeP : List UInt8 → Nat → Nat → Nat × Nat × Nat
  | [], _, _ => (0, 0, 5)
  | c :: l, i, n => if i = 9 ∧ 1 < c.toNat then (0, 0, 2) else if c.toNat < 128 then (n + c.toNat % 128 * 2 ^ (7 * i), i + 1, 0) else takeP l (i + 1) (n + c.toNat % 128 * 2 ^ (7 * i))
def tkA (r : Nat × Nat × Nat) : AV := .tup [.v (kU r.1) 0, .v (kI r.2.1) 0, .v (kI r.2.2) 0]
theorem bytesD_len (bs : List UInt8) : (bs.map eB).length = bs.length := List.length_map _
theorem Take_spec {bs : List UInt8} (hl : bs.length ≤ 4611686018427387904) : FSpec Tryz.prog 146 [.d (A.bytesD bs)] [] fun a cs => a = tkA (takeP bs 0 0) ∧ cs = [] := by
  have hlen := bytesD_len bs
  refine a_enter hT [.d (A.bytesD bs)] [] Tryz.func146 rfl rfl rfl ⟨Fit.refl _, trivial⟩ fun c' => ?_
  refine a_loop hT [5, 8, 9, 10] (fun x : Nat × Nat => [.v (kU x.2) 0, .d (A.bytesD bs), .v (kI bs.length) 0, .v (kI x.1) 0]) (fun _ => []) (fun x => x.1 ≤ bs.length ∧ takeP (bs.drop x.1) x.1 x.2 = takeP bs 0 0 ∧ x.1 ≤ 9 ∧ x.2 < 2 ^ (7 * x.1)) (fun x => bs.length - x.1) (0, 0) [] rfl rfl ⟨Nat.zero_le _, rfl, by decide, by decide⟩ ⟨rfl, rfl, by rw [← hlen]; rfl, rfl, trivial⟩ rfl trivial ?_
  rintro ⟨i, n⟩ ⟨i2, i3, i4, i5⟩
  dsimp only at i2 i3 i4 i5
  have hw := wN i (by omega)
  rcases Nat.lt_or_ge i bs.length with hil | hil
  · have hat : (bs.map eB)[(i : Int).toNat]? = some (eB bs[i]) := by simp [hil]
    rw [drop_at hil] at i3
    generalize bs[i] = c at hat i3
    refine a_t hT rfl rfl (decide_eq_true (by show (i : Int) < (bs.length : Int); omega)) ?_
    have hlt := c.toNat_lt
    have h7 : IntKind.i64.wrap (7 * (i : Int)) = ((7 * i : Nat) : Int) := by rw [w64 (by omega) (by omega)]; omega
    have h70 : 0 ≤ IntKind.i64.wrap (7 * (i : Int)) := by rw [h7]; omega
    refine a_ix hT _ rfl rfl rfl rfl rfl rfl (by first | omega | assumption) (by first | assumption | rfl) ?_
    refine a_g hT rfl rfl rfl (fun h => ?_) (fun h => ?_)
    · have h := eq_of_beq h
      refine a_if hT rfl rfl (fun h1 => ?_) (fun h1 => ?_)
      · have h1 := of_decide_eq_true h1
        refine a_ret hT [] rfl rfl rfl rfl rfl rfl ?_
        exact ⟨by rw [← i3]; unfold takeP; rw [if_pos ⟨by have : (i : Int) = 9 := h; omega, by have : (1 : Int) < (c.toNat : Int) := h1; omega⟩]; rfl, rfl⟩
      · have h1 := of_decide_eq_false h1
        have hno : ¬ (i = 9 ∧ 1 < c.toNat) := fun ⟨_, h3⟩ => h1 (by show (1 : Int) < (c.toNat : Int); omega)
        have h9 : i = 9 → c.toNat ≤ 1 := fun _ => by have : ¬ (1 : Int) < (c.toNat : Int) := h1; omega
        refine a_bin hT _ rfl rfl rfl (by decide) rfl rfl (fun w => (bin_and w)) ?_
        refine a_bin hT _ rfl rfl rfl (by decide) rfl rfl (fun w => (bin_shl h70 w)) ?_
        refine a_bin hT _ rfl rfl rfl (by decide) rfl rfl (fun w => (bin_or w)) ?_
        refine a_bin hT _ rfl rfl rfl (by decide) rfl rfl (fun w => (bin_and w)) ?_
        refine a_if hT rfl rfl (fun h2 => ?_) (fun h2 => ?_)
        · have h2 := eq_of_beq h2
          refine a_ret hT [] rfl rfl rfl rfl rfl rfl ?_
          have hc1 := (and0 c).1 h2
          exact ⟨by rw [← i3]; unfold takeP; rw [if_neg hno, if_pos hc1]; show AV.tup [.v (.int .u64 _) 0, .v (.int .i64 _) 0, _] = AV.tup [.v (.int .u64 _) 0, .v (.int .i64 _) 0, _]; rw [stepE i4 i5 h9]; show AV.tup [_, .v (.int .i64 (IntKind.i64.wrap ((i : Int) + 1))) 0, _] = _; rw [hw]; rfl, rfl⟩
        · have h2 := ne_of_beq_false h2
          have hc1 : ¬ c.toNat < 128 := fun h => h2 ((and0 c).2 h)
          exact a_next hT (i + 1, n + c.toNat % 128 * 2 ^ (7 * i)) [] rfl rfl ⟨⟨by show i + 1 ≤ bs.length; omega, by rw [← i3]; show takeP (bs.drop (i + 1)) (i + 1) _ = takeP (c :: _) i n; conv => rhs; unfold takeP; rw [if_neg hno, if_neg hc1], by show i + 1 ≤ 9; omega, stepL i5⟩, by show bs.length - (i + 1) < bs.length - i; omega⟩ ⟨by show Value.int .u64 _ = Value.int .u64 _; exact congrArg _ (stepE i4 i5 h9), rfl, rfl, by show Value.int .i64 _ = Value.int .i64 _; rw [hw], trivial⟩ rfl trivial
    · have h := ne_of_beq_false h
      have hn9 : i ≠ 9 := fun e => h (by show (i : Int) = 9; omega)
      have hno : ¬ (i = 9 ∧ 1 < c.toNat) := fun ⟨h2, _⟩ => hn9 h2
      have h9 : i = 9 → c.toNat ≤ 1 := fun h2 => absurd h2 hn9
      refine a_f hT rfl rfl rfl ?_
      refine a_bin hT _ rfl rfl rfl (by decide) rfl rfl (fun w => (bin_and w)) ?_
      refine a_bin hT _ rfl rfl rfl (by decide) rfl rfl (fun w => (bin_shl h70 w)) ?_
      refine a_bin hT _ rfl rfl rfl (by decide) rfl rfl (fun w => (bin_or w)) ?_
      refine a_bin hT _ rfl rfl rfl (by decide) rfl rfl (fun w => (bin_and w)) ?_
      refine a_if hT rfl rfl (fun h1 => ?_) (fun h1 => ?_)
      · have h1 := eq_of_beq h1
        refine a_ret hT [] rfl rfl rfl rfl rfl rfl ?_
        have hc1 := (and0 c).1 h1
        exact ⟨by rw [← i3]; unfold takeP; rw [if_neg hno, if_pos hc1]; show AV.tup [.v (.int .u64 _) 0, .v (.int .i64 _) 0, _] = AV.tup [.v (.int .u64 _) 0, .v (.int .i64 _) 0, _]; rw [stepE i4 i5 h9]; show AV.tup [_, .v (.int .i64 (IntKind.i64.wrap ((i : Int) + 1))) 0, _] = _; rw [hw]; rfl, rfl⟩
      · have h1 := ne_of_beq_false h1
        have hc1 : ¬ c.toNat < 128 := fun h => h1 ((and0 c).2 h)
        exact a_next hT (i + 1, n + c.toNat % 128 * 2 ^ (7 * i)) [] rfl rfl ⟨⟨by show i + 1 ≤ bs.length; omega, by rw [← i3]; show takeP (bs.drop (i + 1)) (i + 1) _ = takeP (c :: _) i n; conv => rhs; unfold takeP; rw [if_neg hno, if_neg hc1], by show i + 1 ≤ 9; omega, stepL i5⟩, by show bs.length - (i + 1) < bs.length - i; omega⟩ ⟨by show Value.int .u64 _ = Value.int .u64 _; exact congrArg _ (stepE i4 i5 h9), rfl, rfl, by show Value.int .i64 _ = Value.int .i64 _; rw [hw], trivial⟩ rfl trivial
  · refine a_f hT rfl rfl (decide_eq_false (by show ¬ (i : Int) < (bs.length : Int); omega)) ?_
    rw [List.drop_eq_nil_of_le hil] at i3
    refine a_ret hT [] rfl rfl rfl rfl rfl rfl ?_
    exact ⟨by rw [← i3]; rfl, rfl⟩
end Go.Proofs.YtjcolfogmmjaoaaGreatDoor
end

section
/- Layer 1: Take32, Take64. -/
set_option linter.unusedVariables false
set_option linter.unusedSimpArgs false
set_option maxRecDepth 100000
set_option maxHeartbeats 1000000
namespace Go.Proofs.YtjcolfogmmjaoaaGreatDoor
open V A
def le4 : List UInt8 → Nat
  | b0 :: b1 :: b2 :: b3 :: _ => b0.toNat + b1.toNat * 2 ^ 8 + b2.toNat * 2 ^ 16 + b3.toNat * 2 ^ 24
  | _ => 0
def take32P (bs : List UInt8) : Nat × Nat := if bs.length < 4 then (0, 5) else (le4 bs, 0)
def take64P (bs : List UInt8) : Nat × Nat := if bs.length < 8 then (0, 5) else (le4 bs + le4 (bs.drop 4) * 2 ^ 32, 0)
theorem le4_lt (bs : List UInt8) : le4 bs < 4294967296 := by
  unfold le4
  split
  · rename_i b0 b1 b2 b3 _
    have := b0.toNat_lt
    have := b1.toNat_lt
    have := b2.toNat_lt
    have := b3.toNat_lt
    omega
  · decide
theorem shl32 {b i : Nat} (hi : i ≤ 32) (h : b * 2 ^ i < 4294967296) (hb : b < 4294967296) : IntKind.u32.wrap (IntKind.u32.wrap (b : Int) * 2 ^ min (Int.toNat (i : Int)) (IntKind.bits .u32)) = ((b * 2 ^ i : Nat) : Int) := by
  rw [wrapN32 hb, Int.toNat_natCast, Nat.min_eq_left (by exact hi), show (b : Int) * 2 ^ i = ((b * 2 ^ i : Nat) : Int) by push_cast; rfl, wrapN32 h]
theorem le4E {b0 b1 b2 b3 : Nat} (h0 : b0 < 256) (h1 : b1 < 256) (h2 : b2 < 256) (h3 : b3 < 256) :
    IntKind.u32.wrap ↑(BitVec.toNat (BitVec.ofInt (IntKind.bits .u32) (IntKind.u32.wrap ↑(BitVec.toNat (BitVec.ofInt (IntKind.bits .u32) (IntKind.u32.wrap ↑(BitVec.toNat (BitVec.ofInt (IntKind.bits .u32) (IntKind.u32.wrap (b0 : Int)) ||| BitVec.ofInt (IntKind.bits .u32) (IntKind.u32.wrap (IntKind.u32.wrap (b1 : Int) * 2 ^ min (Int.toNat 8) (IntKind.bits .u32)))))) ||| BitVec.ofInt (IntKind.bits .u32) (IntKind.u32.wrap (IntKind.u32.wrap (b2 : Int) * 2 ^ min (Int.toNat 16) (IntKind.bits .u32)))))) ||| BitVec.ofInt (IntKind.bits .u32) (IntKind.u32.wrap (IntKind.u32.wrap (b3 : Int) * 2 ^ min (Int.toNat 24) (IntKind.bits .u32))))) = ((b0 + b1 * 2 ^ 8 + b2 * 2 ^ 16 + b3 * 2 ^ 24 : Nat) : Int) := by
  have e1 := shl32 (b := b1) (i := 8) (by decide) (by omega) (by omega)
  have e2 := shl32 (b := b2) (i := 16) (by decide) (by omega) (by omega)
  have e3 := shl32 (b := b3) (i := 24) (by decide) (by omega) (by omega)
  rw [show ((8 : Nat) : Int) = 8 from rfl] at e1
  rw [show ((16 : Nat) : Int) = 16 from rfl] at e2
  rw [show ((24 : Nat) : Int) = 24 from rfl] at e3
  rw [e1, e2, e3, wrapN32 (a := b0) (by omega)]
  show IntKind.u32.wrap ↑(BitVec.toNat (BitVec.ofInt 32 (IntKind.u32.wrap ↑(BitVec.toNat (BitVec.ofInt 32 (IntKind.u32.wrap ↑(BitVec.toNat (BitVec.ofInt 32 (b0 : Int) ||| BitVec.ofInt 32 ((b1 * 2 ^ 8 : Nat) : Int)))) ||| BitVec.ofInt 32 ((b2 * 2 ^ 16 : Nat) : Int)))) ||| BitVec.ofInt 32 ((b3 * 2 ^ 24 : Nat) : Int))) = _
  rw [or32 (by omega) (by omega), or_add (by omega), or32 (by omega) (by omega), or_add (by omega), or32 (by omega) (by omega), or_add (by omega)]
theorem slD (bs : List UInt8) (l : Nat) : ((bs.map eB).drop l).take ((bs.map eB).length - l) = (bs.drop l).map eB := by
  rw [List.map_drop]
  exact List.take_of_length_le (by simp)
theorem shl64 {b i : Nat} (hi : i ≤ 64) (h : b * 2 ^ i < 18446744073709551616) (hb : b < 18446744073709551616) : IntKind.u64.wrap (IntKind.u64.wrap (b : Int) * 2 ^ min (Int.toNat (i : Int)) (IntKind.bits .u64)) = ((b * 2 ^ i : Nat) : Int) := by
  rw [wrapN64 hb, Int.toNat_natCast, Nat.min_eq_left (by exact hi), show (b : Int) * 2 ^ i = ((b * 2 ^ i : Nat) : Int) by push_cast; rfl, wrapN64 h]
theorem le8E {a b : Nat} (ha : a < 4294967296) (hb : b < 4294967296) : IntKind.u64.wrap ↑(BitVec.toNat (BitVec.ofInt (IntKind.bits .u64) (IntKind.u64.wrap (IntKind.u64.wrap (b : Int) * 2 ^ min (Int.toNat 32) (IntKind.bits .u64))) ||| BitVec.ofInt (IntKind.bits .u64) (IntKind.u64.wrap (a : Int)))) = ((a + b * 2 ^ 32 : Nat) : Int) := by
  have e1 := shl64 (b := b) (i := 32) (by decide) (by omega) (by omega)
  rw [show ((32 : Nat) : Int) = 32 from rfl] at e1
  rw [e1, wrapN64 (a := a) (by omega)]
  show IntKind.u64.wrap ↑(BitVec.toNat (BitVec.ofInt 64 ((b * 2 ^ 32 : Nat) : Int) ||| BitVec.ofInt 64 (a : Int))) = _
  rw [or64 (by omega) (by omega), Nat.or_comm, or_add (by omega)]
theorem Take32_spec {bs : List UInt8} (hl : bs.length ≤ 4611686018427387904) : FSpec Tryz.prog 148 [.d (A.bytesD bs)] [] fun a cs => a = .tup [.v (.int .u32 (take32P bs).1) 0, .v (kI (take32P bs).2) 0] ∧ cs = [] := by
  have hlen := bytesD_len bs
  refine a_enter hT [.d (A.bytesD bs)] [] Tryz.func148 rfl rfl rfl ⟨Fit.refl _, trivial⟩ fun c' => ?_
  by_cases h4 : bs.length < 4
  · have h1 : ((bs.map eB).length : Int) < 4 := by rw [hlen]; omega
    refine a_t hT rfl rfl (decide_eq_true h1) ?_
    refine a_ret hT [] rfl rfl rfl rfl rfl rfl ?_
    exact ⟨by unfold take32P; rw [if_pos h4]; rfl, rfl⟩
  · obtain ⟨b0, b1, b2, b3, l, rfl⟩ : ∃ b0 b1 b2 b3 l, bs = b0 :: b1 :: b2 :: b3 :: l := by
      match bs, h4 with
      | b0 :: b1 :: b2 :: b3 :: l, _ => exact ⟨b0, b1, b2, b3, l, rfl⟩
      | [], h => exact absurd (by decide) h
      | [_], h => exact absurd (by simp) h
      | [_, _], h => exact absurd (by simp) h
      | [_, _, _], h => exact absurd (by simp) h
    have h1 : ¬ (((b0 :: b1 :: b2 :: b3 :: l).map eB).length : Int) < 4 := by rw [hlen]; omega
    refine a_f hT rfl rfl (decide_eq_false h1) ?_
    refine a_draw hT [] false [(0, false), (1, false), (2, false), (3, false), (4, false), (5, false), (6, false), (7, false), (8, false), (9, false), (10, false), (11, false), (12, false), (13, false), (14, false), (15, false), (16, false), (17, false), (18, false), (19, false), (20, false), (21, false), (22, false), (23, true)] rfl rfl (by kernel_rfl) (by kernel_rfl) rfl ?_
    refine a_ix hT _ rfl rfl rfl rfl rfl rfl (by first | omega | assumption) (by first | assumption | rfl) ?_
    refine a_ix hT _ rfl rfl rfl rfl rfl rfl (by first | omega | assumption) (by first | assumption | rfl) ?_
    refine a_bin hT _ rfl rfl rfl (by decide) rfl rfl (fun w => (bin_shl (by omega) w)) ?_
    refine a_bin hT _ rfl rfl rfl (by decide) rfl rfl (fun w => (bin_or w)) ?_
    refine a_ix hT _ rfl rfl rfl rfl rfl rfl (by first | omega | assumption) (by first | assumption | rfl) ?_
    refine a_bin hT _ rfl rfl rfl (by decide) rfl rfl (fun w => (bin_shl (by omega) w)) ?_
    refine a_bin hT _ rfl rfl rfl (by decide) rfl rfl (fun w => (bin_or w)) ?_
    refine a_ix hT _ rfl rfl rfl rfl rfl rfl (by first | omega | assumption) (by first | assumption | rfl) ?_
    refine a_bin hT _ rfl rfl rfl (by decide) rfl rfl (fun w => (bin_shl (by omega) w)) ?_
    refine a_bin hT _ rfl rfl rfl (by decide) rfl rfl (fun w => (bin_or w)) ?_
    refine a_ret hT [] rfl rfl rfl rfl rfl rfl ?_
    exact ⟨by
      have e := le4E (b0 := b0.toNat) (b1 := b1.toNat) (b2 := b2.toNat) (b3 := b3.toNat) b0.toNat_lt b1.toNat_lt b2.toNat_lt b3.toNat_lt
      unfold take32P
      rw [if_neg h4]
      show AV.tup [.v (.int .u32 _) 0, _] = AV.tup [.v (.int .u32 _) 0, _]
      rw [e]
      rfl, rfl⟩
theorem Take64_spec {bs : List UInt8} (hl : bs.length ≤ 4611686018427387904) : FSpec Tryz.prog 147 [.d (A.bytesD bs)] [] fun a cs => a = .tup [.v (kU (take64P bs).1) 0, .v (kI (take64P bs).2) 0] ∧ cs = [] := by
  have hlen := bytesD_len bs
  refine a_enter hT [.d (A.bytesD bs)] [] Tryz.func147 rfl rfl rfl ⟨Fit.refl _, trivial⟩ fun c' => ?_
  by_cases h4 : bs.length < 8
  · have h1 : ((bs.map eB).length : Int) < 8 := by rw [hlen]; omega
    refine a_t hT rfl rfl (decide_eq_true h1) ?_
    refine a_ret hT [] rfl rfl rfl rfl rfl rfl ?_
    exact ⟨by unfold take64P; rw [if_pos h4]; rfl, rfl⟩
  · have h1 : ¬ ((bs.map eB).length : Int) < 8 := by rw [hlen]; omega
    have ha := Take32_spec (bs := bs) hl
    have hb := Take32_spec (bs := bs.drop 4) (by rw [List.length_drop]; omega)
    rw [show take32P bs = (le4 bs, 0) by unfold take32P; rw [if_neg (by omega)]] at ha
    rw [show take32P (bs.drop 4) = (le4 (bs.drop 4), 0) by unfold take32P; rw [if_neg (by rw [List.length_drop]; omega)]] at hb
    refine a_f hT rfl rfl (decide_eq_false h1) ?_
    refine a_call hT rfl rfl rfl (by kernel_rfl) ha [] [] rfl rfl ?_
    rintro _ _ ⟨rfl, rfl⟩
    refine a_sl hT 4 (bs.map eB).length ((bs.drop 4).map eB) rfl rfl rfl rfl rfl ⟨.i64, 0, rfl⟩ rfl (by rw [hlen]; omega) (Nat.le_refl _) (slD bs 4) ?_
    refine a_call hT rfl rfl rfl (by kernel_rfl) hb [] [] rfl rfl ?_
    rintro _ _ ⟨rfl, rfl⟩
    refine a_bin hT _ rfl rfl rfl (by decide) rfl rfl (fun w => (bin_shl (by omega) w)) ?_
    refine a_bin hT _ rfl rfl rfl (by decide) rfl rfl (fun w => (bin_or w)) ?_
    refine a_ret hT [] rfl rfl rfl rfl rfl rfl ?_
    have l1 := le4_lt bs
    have l2 := le4_lt (bs.drop 4)
    exact ⟨by
      unfold take64P
      rw [if_neg h4]
      show AV.tup [.v (.int .u64 _) 0, _] = AV.tup [.v (.int .u64 _) 0, _]
      rw [le8E l1 l2]
      rfl, rfl⟩
end Go.Proofs.YtjcolfogmmjaoaaGreatDoor
end

section
/- Values told otherwise: an interface's value as frozen data; nil slices inside data. It holds of any program. -/
set_option linter.unusedVariables false
set_option linter.unusedSimpArgs false
set_option maxRecDepth 100000
namespace Go.Proofs.YtjcolfogmmjaoaaGreatDoor.A
open V
def Le (a b : AV) : Prop := ∀ (M : Nat → Prop) (w : World) (v : Value), Rep M w a v → Rep M w b v
theorem le_ifcV {ty : TypeId} {x : Value} {h : Nat} (h1 : one1 (.v x 0) = true) : Le (.ifc ty (.v x h)) (.d (.ifc ty false [.v x])) := by
  intro M w v hr
  unfold Rep at hr ⊢
  obtain ⟨u, rfl, hu⟩ := hr
  have hu := rep_v hu
  subst hu
  have h2 := one1_one (M := M) (w := w) h1 (x := u) mk_v
  unfold DRep
  refine ⟨u, rfl, (fun h => by cases h), fun _ => h2, ?_⟩
  rw [cells_one h2]
  unfold VRep
  exact ⟨u, [], rfl, by unfold DRep; exact ⟨rfl, h2⟩, by unfold VRep; rfl⟩
theorem le_dv {x : Value} {h : Nat} : Le (.d (.v x)) (.v x h) := by
  intro M w v hr
  unfold Rep at hr ⊢
  unfold DRep at hr
  exact hr.1
theorem le_ifcA {ty : TypeId} {cs : List AV} {ds : List Dat} (h : datsK cs = some ds) : Le (.ifc ty (.agg cs)) (.d (.ifc ty true ds)) := by
  intro M w v hr
  unfold Rep at hr ⊢
  obtain ⟨u, rfl, hu⟩ := hr
  unfold Rep at hu
  obtain ⟨ys, rfl, hr, h1⟩ := hu
  unfold DRep
  refine ⟨_, rfl, fun _ => ?_, (fun h => by cases h), ?_⟩
  · simp [Value.cells]
  · simpa [Value.cells] using datsK_rep h hr
/-- Data that say less. -/
def DLe (d d' : Dat) : Prop := ∀ (M : Nat → Prop) (w : World) (v : Value), DRep M w d v → DRep M w d' v
theorem DLe.refl (d : Dat) : DLe d d := fun _ _ _ h => h
theorem DLe.nil (k : Nat) : DLe (.v (.slice none 0 0)) (.sl k []) := by
  intro M w v h
  unfold DRep at h ⊢
  obtain ⟨rfl, _⟩ := h
  exact ⟨none, 0, rfl, by simp, by simp, by simp⟩
inductive LLe : List Dat → List Dat → Prop
  | nil : LLe [] []
  | cons {d d' : Dat} {l l' : List Dat} : DLe d d' → LLe l l' → LLe (d :: l) (d' :: l')
inductive SLe : List (List Dat) → List (List Dat) → Prop
  | nil : SLe [] []
  | cons {e e' : List Dat} {l l' : List (List Dat)} : LLe e e' → SLe l l' → SLe (e :: l) (e' :: l')
theorem LLe.len {l l' : List Dat} (h : LLe l l') : l.length = l'.length := by induction h with
  | nil => rfl
  | cons _ _ ih => simp [ih]
theorem LLe.rep {M : Nat → Prop} {w : World} {ad : Addr} {l l' : List Dat} (h : LLe l l') : ∀ {i : Nat}, LRep M w l ad i → LRep M w l' ad i := by
  induction h with
  | nil => exact fun h => h
  | cons h1 _ ih =>
    intro i hr
    unfold LRep at hr ⊢
    obtain ⟨⟨x, hx, hd⟩, h3⟩ := hr
    exact ⟨⟨x, hx, h1 _ _ _ hd⟩, ih h3⟩
theorem SLe.len {l l' : List (List Dat)} (h : SLe l l') : l.length = l'.length := by induction h with
  | nil => rfl
  | cons _ _ ih => simp [ih]
theorem SLe.rep {M : Nat → Prop} {w : World} {ad : Addr} {l l' : List (List Dat)} (h : SLe l l') : ∀ {i : Nat}, SRep M w l ad i → SRep M w l' ad i := by
  induction h with
  | nil => exact fun h => h
  | cons h1 _ ih =>
    intro i hr
    unfold SRep at hr ⊢
    exact ⟨h1.rep hr.1, by rw [← h1.len]; exact ih hr.2⟩
theorem SLe.lens {k : Nat} {l l' : List (List Dat)} (h : SLe l l') (hk : ∀ e ∈ l, e.length = k) : ∀ e ∈ l', e.length = k := by
  induction h with
  | nil => simp
  | cons h1 _ ih =>
    intro e he
    rcases List.mem_cons.1 he with rfl | he
    · rw [← h1.len]; exact hk _ (by simp)
    · exact ih (fun e he => hk e (by simp [he])) e he
theorem DLe.sl {k : Nat} {es es' : List (List Dat)} (h : SLe es es') : DLe (.sl k es) (.sl k es') := by
  intro M w v hr
  unfold DRep at hr ⊢
  obtain ⟨A, c, e, hc, hk, hr⟩ := hr
  refine ⟨A, c, by rw [← h.len]; exact e, by rw [← h.len]; exact hc, h.lens hk, fun hn => ?_⟩
  obtain ⟨ad, h1, h2, h3, h4⟩ := hr (fun hn' => hn (List.eq_nil_of_length_eq_zero (by rw [← h.len, hn']; rfl)))
  exact ⟨ad, h1, h2, h3, h.rep h4⟩
theorem LLe.vrep {M : Nat → Prop} {w : World} {l l' : List Dat} (h : LLe l l') : ∀ {xs : List Value}, A.VRep M w l xs → A.VRep M w l' xs := by
  induction h with
  | nil => exact fun h => h
  | cons h1 _ ih =>
    intro xs hr
    unfold A.VRep at hr ⊢
    obtain ⟨x, r, e, h3, h4⟩ := hr
    exact ⟨x, r, e, h1 _ _ _ h3, ih h4⟩
theorem DLe.ifc {t : TypeId} {ag : Bool} {l l' : List Dat} (h : LLe l l') : DLe (.ifc t ag l) (.ifc t ag l') := by
  intro M w v hr
  unfold DRep at hr ⊢
  obtain ⟨u, e, h1, h2, h3⟩ := hr
  exact ⟨u, e, h1, h2, h.vrep h3⟩
theorem Le.trans {a b c : AV} (h : ∀ (M : Nat → Prop) (w : World) (v : Value), Rep M w a v → Rep M w b v) (k : ∀ (M : Nat → Prop) (w : World) (v : Value), Rep M w b v → Rep M w c v) : Le a c := fun M w v hr => k _ _ _ (h _ _ _ hr)
theorem DLe.le {d d' : Dat} (h : DLe d d') : Le (.d d) (.d d') := by
  intro M w v hr
  unfold Rep at hr ⊢
  exact h M w v hr
theorem Le.refl (a : AV) : Le a a := fun _ _ _ h => h
theorem Fit.le {a b : AV} (h : Fit a b) : Le a b := fun _ _ _ hr => h.rep hr
/-- What is handed back may be told otherwise. -/
theorem FSpec.le {P : Program} {g : FuncId} {args : List AV} {cs : List Chunk} {R : AV → List Chunk → Prop} (h : FSpec P g args cs fun a cs' => ∃ a', Le a a' ∧ R a' cs') : FSpec P g args cs R :=
  ⟨fun X S w xs h1 h2 h3 h4 => (h.out X S w xs h1 h2 h3 h4).mono fun e w' ⟨v, a, cs', S', k1, ⟨a', k2, k2'⟩, k3, k4, k5, k6⟩ => ⟨v, a', cs', S', k1, k2', k2 _ _ _ k3, k4, k5, k6⟩⟩
inductive Les : List AV → List AV → Prop
  | nil : Les [] []
  | cons {a b : AV} {l l' : List AV} : Le a b → Les l l' → Les (a :: l) (b :: l')
theorem Les.reps {M : Nat → Prop} {w : World} {l l' : List AV} (h : Les l l') : ∀ {xs : List Value}, Reps M w l xs → Reps M w l' xs := by
  induction h with
  | nil => exact fun h => h
  | cons h1 _ ih =>
    intro xs hr
    unfold Reps at hr ⊢
    obtain ⟨x, r, e, h3, h4⟩ := hr
    exact ⟨x, r, e, h1 _ _ _ h3, ih h4⟩
theorem Le.agg {l l' : List AV} (h : Les l l') : Le (.agg l) (.agg l') := by
  intro M w v hr
  unfold Rep at hr ⊢
  obtain ⟨ys, e, hr, h1⟩ := hr
  exact ⟨ys, e, h.reps hr, h1⟩
theorem Le.tup {l l' : List AV} (h : Les l l') : Le (.tup l) (.tup l') := by
  intro M w v hr
  unfold Rep at hr ⊢
  obtain ⟨ys, e, hr⟩ := hr
  exact ⟨ys, e, h.reps hr⟩
theorem Les.fits : ∀ {l l' : List AV}, Fits l l' → Les l l'
  | [], [], _ => .nil
  | a :: l, b :: l', h => .cons (Fit.le h.1) (Les.fits h.2)
  | [], _ :: _, h => h.elim
  | _ :: _, [], h => h.elim
theorem FSpec.les {P : Program} {g : FuncId} {args args' : List AV} {cs : List Chunk} {R : AV → List Chunk → Prop} (h : FSpec P g args' cs R) (hl : Les args args') : FSpec P g args cs R :=
  ⟨fun X S w xs h1 h2 h3 h4 => h.out X S w xs h1 h2 h3 (hl.reps h4)⟩
theorem le_nil {k h : Nat} : Le (.v (.slice none 0 0) h) (.d (.sl k [])) := by
  intro M w v hr
  unfold Rep at hr
  subst hr
  unfold Rep DRep
  exact ⟨none, 0, rfl, by simp, by simp, by simp⟩
theorem nd_of {d : Dat} : Le (.d d) (nd d) := by
  cases d with
  | v x => exact le_dv
  | sl k es => exact Le.refl _
  | ifc t ag ds => exact Le.refl _
  | p ds => exact Le.refl _
theorem FSpec.ofNd {P : Program} {g : FuncId} {d : Dat} {ls : List AV} {cs : List Chunk} {R : AV → List Chunk → Prop} (h : FSpec P g (nd d :: ls) cs R) : FSpec P g (.d d :: ls) cs R :=
  ⟨fun X S w xs h1 h2 h3 h4 => h.out X S w xs h1 h2 h3 (by
    unfold Reps at h4 ⊢
    obtain ⟨x, r, rfl, h5, h6⟩ := h4
    exact ⟨x, r, rfl, nd_of _ _ _ h5, h6⟩)⟩
section
variable {P : Program} {L : List TD} {n : Nat} {Q : Exit → Act → World → Prop} {c : Ctx}
variable {s : AMS} {f : AEnv} {σ : Store}
theorem a_asL (t : Nat) {a b : AV} (ha : getA f t = a) (hle : Le a b) (hk : DenA c P n Q s ((t, b) :: f) σ) : DenA c P n Q s f σ := by
  refine ⟨fun hok w S fc Sg hs hh => hk.out hok w S fc Sg ⟨fun t' => ?_, hs.ev, hs.sub⟩ hh⟩
  rw [getA_cons]
  split
  · rename_i e
    subst e
    have := hs.env t'
    rw [ha] at this
    exact hle _ _ _ this
  · exact hs.env t'
/-- A variable's nil slice is a row of one's own. -/
theorem a_nilrowB (kb off kn e k : Nat) {g : Nat} {tb : TypeId} {cs : List AV} {hh0 : Nat} (hst : s.still = true) (hb : look σ kb = some (.blk g tb cs)) (ht : cs[off]? = some (.v (.slice none 0 0) hh0))
    (hk : DenA c P n Q s f ((kb, .blk g tb (cs.set off (.row (.slice none 0 0) kn))) :: (kn, .row (.slice none 0 0) e k []) :: del σ kb)) : DenA c P n Q s f σ := by
  refine a_ghost hst (fun Y S w fc hdY hh he => ?_) hk
  obtain ⟨B1, B2, hB, hdB, hcB, hrB⟩ := hh.take hb
  obtain ⟨hB1, xs, hblk, hrx, h1⟩ := hcB
  refine ⟨S, ⟨B1, B2, hB, hdB, ⟨hB1, xs, hblk, ?_, h1⟩, ⟨no, B2, fun b => ⟨.inr, fun h => h.elim (fun h => h.elim) id⟩, fun _ h => h.elim, row_nil e k, hrB⟩⟩, he, fun b h => h⟩
  obtain ⟨y, hy, hry⟩ := hrx.get _ _ ht
  have hry := rep_v hry
  have := hrx.set off (.row (.slice none 0 0) kn) y (by unfold Rep; exact ⟨hry, rfl⟩)
  have e : xs.set off y = xs := by
    apply List.ext_getElem?
    intro j
    rw [List.getElem?_set]
    split
    · rename_i e; subst e; rw [if_pos (List.getElem?_eq_some_iff.1 hy).1]; exact hy.symm
    · rfl
  rwa [e] at this
/-- What a variable holds may be told otherwise. -/
theorem a_cellL (kb off : Nat) {g : Nat} {tb : TypeId} {cs : List AV} {a b : AV} (hst : s.still = true) (hb : look σ kb = some (.blk g tb cs)) (ht : cs[off]? = some a) (hle : Le a b)
    (hk : DenA c P n Q s f ((kb, .blk g tb (cs.set off b)) :: del σ kb)) : DenA c P n Q s f σ := by
  refine a_ghost hst (fun Y S w fc hdY hh he => ?_) hk
  obtain ⟨B1, B2, hB, hdB, hcB, hrB⟩ := hh.take hb
  obtain ⟨hB1, xs, hblk, hrx, h1⟩ := hcB
  refine ⟨S, ⟨B1, B2, hB, hdB, ⟨hB1, xs, hblk, ?_, h1⟩, hrB⟩, he, fun b h => h⟩
  obtain ⟨y, hy, hry⟩ := hrx.get _ _ ht
  have := hrx.set off b y (hle _ _ _ hry)
  have e : xs.set off y = xs := by
    apply List.ext_getElem?
    intro j
    rw [List.getElem?_set]
    split
    · rename_i e; subst e; rw [if_pos (List.getElem?_eq_some_iff.1 hy).1]; exact hy.symm
    · rfl
  rwa [e] at this
end
end Go.Proofs.YtjcolfogmmjaoaaGreatDoor.A
end

section
/- slices.Clone of bytes. -/
set_option linter.unusedVariables false
set_option linter.unusedSimpArgs false
namespace Go.Proofs.YtjcolfogmmjaoaaGreatDoor
open V A
theorem el8 : elemOk Tryz.prog 5 1 = true := by kernel_rfl
/-- A copy of bytes is memory of its own. -/
theorem cloneB {l : List UInt8} (hl : l.length ≤ lim) : FSpec Tryz.prog 118 [.d (A.bytesD l)] [] fun a cs => ∃ x, a = .row x 1 ∧ cs = [.row x 5 1 (l.map eB)] := by
  refine a_enter hT [.d (A.bytesD l)] [] Tryz.func118 rfl rfl rfl ⟨rfl, trivial⟩ fun c => ?_
  refine a_isnil hT rfl rfl rfl rfl rfl rfl fun b hb => ?_
  refine a_if hT rfl rfl (fun h => ?_) (fun h => ?_)
  · refine a_run hT 4 rfl rfl ?_
    refine a_nilrow 2 1 5 1 rfl rfl ?_
    refine a_ret hT [1] rfl rfl rfl rfl rfl rfl ⟨_, rfl, ?_⟩
    rw [hb h]
  · refine a_lit hT 1 rfl rfl rfl rfl el8 rfl rfl rfl rfl fun x => ?_
    refine a_app hT 1 (l.map eB) rfl rfl rfl rfl el8 rfl rfl rfl rfl rfl rfl (by simpa using hl) fun x => ?_
    refine a_ret hT [1] rfl rfl rfl rfl rfl rfl ⟨x, rfl, rfl⟩
/-- .. frozen. -/
theorem cloneF {l : List UInt8} (hl : l.length ≤ lim) : FSpec Tryz.prog 118 [.d (A.bytesD l)] [] fun a cs => a = .d (A.bytesD l) ∧ cs = [] := (cloneB hl).freeze
end Go.Proofs.YtjcolfogmmjaoaaGreatDoor
end
