/- A method is called through an interface. It holds of any program. -/
import Derived.Test.YtepjnmocepkfjaaTc
set_option linter.unusedVariables false
set_option linter.unusedSectionVars false
set_option linter.unusedSimpArgs false
namespace Go.Proofs.Ytepjnmocepkfjaa.A
open V

/-- The method of that name of type t, of pointers, is g; ptr: it takes the pointer itself. -/
def invOk (P : Program) (t e : TypeId) (name : String) (g : FuncId) (ptr : Bool) : Bool :=
  (match P.underlying t with | some (.pointer e') => Nat.beq e' e | _ => false) &&
  (match P.info? t with
  | some i => match i.methods.find? (·.name == name) with
    | some m => m.path.isEmpty && (match m.func with | some (f, p) => Nat.beq f g && (p == ptr) | none => false)
    | none => false
  | none => false)
theorem invOk_spec {P : Program} {t e : TypeId} {name : String} {g : FuncId} {ptr : Bool} (h : invOk P t e name g ptr = true) : P.underlying t = some (.pointer e) ∧ ∃ i m, P.info? t = some i ∧ i.methods.find? (·.name == name) = some m ∧ m.path = #[] ∧ m.func = some (g, ptr) := by
  unfold invOk at h
  rw [Bool.and_eq_true] at h
  obtain ⟨h1, h2⟩ := h
  refine ⟨?_, ?_⟩
  · split at h1
    · rename_i e' he; rw [he, Nat.eq_of_beq_eq_true h1]
    · cases h1
  · split at h2
    · rename_i i hi
      split at h2
      · rename_i m hm
        rw [Bool.and_eq_true] at h2
        obtain ⟨h3, h4⟩ := h2
        split at h4
        · rename_i f p hf
          rw [Bool.and_eq_true] at h4
          refine ⟨i, m, hi, hm, by simpa using h3, ?_⟩
          rw [hf, Nat.eq_of_beq_eq_true h4.1, eq_of_beq h4.2]
        · cases h4
      · cases h2
    · cases h2
theorem run_methodP {P : Program} {t e : TypeId} {name : String} {g : FuncId} (h : invOk P t e name g true = true) (fuel : Nat) (v : Value) (w : World) : (method (fuel + 1) t v name).run P w = .ok (g, v) w := by
  obtain ⟨hu, i, m, hi, hm, hp, hf⟩ := invOk_spec h
  unfold method
  simp [typeInfo, hi, hm, hp, hf, follow, receiverAt, underlying, hu, Place.get]
theorem run_methodV {P : Program} {t e : TypeId} {name : String} {g : FuncId} (h : invOk P t e name g false = true) (fuel : Nat) (ad : Addr) {u : Value} {w : World} (hl : (loadVar e ad).run P w = .ok u w) : (method (fuel + 1) t (.pointer (some ad)) name).run P w = .ok (g, u) w := by
  obtain ⟨hu, i, m, hi, hm, hp, hf⟩ := invOk_spec h
  have hw : ∀ s1 s2 : String, (Builtin.ssaWrapNilChk_ #[t] t #[.pointer (some ad), strVal s1, strVal s2]).run P w = .ok (.pointer (some ad)) w := fun _ _ => rfl
  unfold method
  simp [typeInfo, hi, hm, hp, hf, follow, receiverAt, underlying, hu, Place.get, hw, asAddr, hl]
theorem run_inv {P : Program} {n : Nat} {fc : Env} {o : Oper} {y : Operand} {name : String} {xs : Array Operand} {ts : Array TypeId} {t : TypeId} {v u : Value} {g : FuncId} {w : World} (ho : o.op = .call ⟨.invoke y name, xs, ts⟩) (hy : ev n fc y = .iface t v) (hm : (method (P.types.size + Made.depth) t v name).run P w = .ok (g, u) w) (hb : callOk P g = true) :
    (execOp (ev n fc) o).run P w = .ok (.enter g (u :: xs.toList.map (ev n fc)).toArray) w := by
  have hx : xs.map (ev n fc) = (xs.toList.map (ev n fc)).toArray := by obtain ⟨xs⟩ := xs; simp
  unfold execOp
  simp only [ho, resolve, Sem.run_bind, Sem.run_pure, Result.andThen_ok, invoke, hy, hx]
  simp [callMethod, hm, run_callFunc hb]
  exact List.take_of_length_le (by simp)
section
variable {P : Program} {L : List TD} {n : Nat} {Q : Exit → Act → World → Prop} {c : Ctx}
variable {s : AMS} {f f' : AEnv} {σ σ' : Store} {ob : Obs} {κ : List Kt} {all : Array Oper} {dec : List Nat} {o : Oper} {al : Bool} {rest : List (Oper × Bool)} {m : Mode}
/-- A pointer's own method. -/
theorem a_invP (hT : TOk P L) {t e : TypeId} {name : String} {g : FuncId} {y : Operand} {xs : Array Operand} {ts : Array TypeId} {r : AV} {args : List AV} {cs cs0 : List Chunk} {σr : Store} {R : AV → List Chunk → Prop} (h : machA L n fuel s f σ [] = ⟨.op m κ all dec o true rest, f', σ', ob⟩) (hob : ob.map (·.1) = ob.map (·.2)) (ho : o.op = .call ⟨.invoke y name, xs, ts⟩) (hy : evA n f' y = .ifc t r)
    (hi : invOk P t e name g true = true) (hb : callOk P g = true) (spec : FSpec P g args cs R) (ks ks' : List Nat) (ha : Fits (r :: evAs n f' xs.toList) args) (ht : takes σ' ks = some (cs0, σr)) (hc : CFits cs0 cs)
    (hk : ∀ a cs', R a cs' → rekK ks' cs' σr fun σ1 => DenA c P n Q (.ops (m.hap true) κ all dec rest) (putA f' o.dst a) σ1) : DenA c P n Q s f σ := by
  refine a_eff hT (fun a σ1 => ∃ cs', R a cs' ∧ σ1 = zipk ks' cs' ++ σr) h hob (fun Y Su w fc hd hY hh he => ?_) (fun a σ1 ⟨cs', hR, hs⟩ => by subst hs; have := hk a cs' hR; rwa [rekK_eq] at this)
  have hr := he.evals (n := n) xs.toList
  have hv := he.eval (n := n) y
  rw [hy] at hv
  unfold Rep at hv
  obtain ⟨v, hv, hrv⟩ := hv
  rw [run_inv ho hv (run_methodP hi _ _ _) hb]
  exact call_does (spec.fit ha hc) hY hd hh ht (Reps.cons hrv hr)
/-- A value's method, by a pointer to the value. -/
theorem a_invV (hT : TOk P L) {t e tb : TypeId} {name : String} {g gb off hh0 : Nat} {gb' : Nat} {cells : List AV} {y : Operand} {xs : Array Operand} {ts : Array TypeId} (r : AV) {args : List AV} {cs cs0 : List Chunk} {σr : Store} {R : AV → List Chunk → Prop} (h : machA L n fuel s f σ [] = ⟨.op m κ all dec o true rest, f', σ', ob⟩) (hob : ob.map (·.1) = ob.map (·.2)) (ho : o.op = .call ⟨.invoke y name, xs, ts⟩) (hy : evA n f' y = .ifc t (.v (.pointer (some ⟨gb, off, none⟩)) hh0))
    (hi : invOk P t e name g false = true) (hb : callOk P g = true) (hl : look σ' hh0 = some (.blk gb' tb cells)) (hgb : gb = gb') (hld : loadK L e cells off some none = some r) (spec : FSpec P g args cs R) (ks ks' : List Nat) (ha : Fits (r :: evAs n f' xs.toList) args) (ht : takes σ' ks = some (cs0, σr)) (hc : CFits cs0 cs)
    (hk : ∀ a cs', R a cs' → rekK ks' cs' σr fun σ1 => DenA c P n Q (.ops (m.hap true) κ all dec rest) (putA f' o.dst a) σ1) : DenA c P n Q s f σ := by
  subst hgb
  refine a_eff hT (fun a σ1 => ∃ cs', R a cs' ∧ σ1 = zipk ks' cs' ++ σr) h hob (fun Y Su w fc hd hY hh he => ?_) (fun a σ1 ⟨cs', hR, hs⟩ => by subst hs; have := hk a cs' hR; rwa [rekK_eq] at this)
  have hr := he.evals (n := n) xs.toList
  have hv := he.eval (n := n) y
  rw [hy] at hv
  unfold Rep at hv
  obtain ⟨v, hv, hrv⟩ := hv
  have hrv := rep_v hrv
  subst hrv
  obtain ⟨S1, S2, hS, hdis, hcb, _⟩ := hh.take hl
  obtain ⟨hS1, ys, hbk, hry, h1⟩ := hcb
  rcases loadK_says (P := P) hT (t := e) hry h1 off (W := fun w' => w' = w) (ad := ⟨gb, 0, none⟩) (fun w' e => by subst e; exact hbk.cells) with hz | ⟨a', ha', u, hu, hru⟩
  · rw [hz] at hld; cases hld
  · rw [ha'] at hld
    cases hld
    have hu := hu w rfl
    rw [add_plain] at hu
    rw [run_inv ho hv (run_methodV hi _ _ hu) hb]
    exact call_does (spec.fit ha hc) hY hd hh ht (Reps.cons hru hr)
theorem flat_set {k : Nat} : ∀ {es : List (List Dat)} {i j : Nat} {ds : List Dat} (d : Dat), (∀ e ∈ es, e.length = k) → es[i]? = some ds → j < k → (es.set i (ds.set j d)).flatten = es.flatten.set (i * k + j) d
  | [], i, j, ds, d, hl, h, hj => by simp at h
  | e :: es, 0, j, ds, d, hl, h, hj => by
    simp at h
    subst h
    have := hl e (by simp)
    rw [List.set_cons_zero, List.flatten_cons, List.flatten_cons, Nat.zero_mul, Nat.zero_add, List.set_append_left _ _ (by omega)]
  | e :: es, i + 1, j, ds, d, hl, h, hj => by
    have he := hl e (by simp)
    have := flat_set (es := es) (i := i) (j := j) (ds := ds) d (fun e' h' => hl e' (by simp [h'])) (by simpa using h) hj
    rw [List.set_cons_succ, List.flatten_cons, List.flatten_cons, this, List.set_append_right _ _ (by rw [he, Nat.succ_mul]; omega), he, show (i + 1) * k + j - k = i * k + j by rw [Nat.succ_mul]; omega]
theorem vrep_set {M : Nat → Prop} {w : World} : ∀ {ds : List Dat} {xs : List Value} (i : Nat) {d : Dat} {u : Value}, VRep M w ds xs → DRep M w d u → VRep M w (ds.set i d) (xs.set i u)
  | [], xs, i, d, u, h, hd => by unfold VRep at h; subst h; simp; exact VRep.nil
  | d0 :: ds, xs, 0, d, u, h, hd => by
    unfold VRep at h
    obtain ⟨x, r, rfl, h1, h2⟩ := h
    rw [List.set_cons_zero, List.set_cons_zero]
    unfold VRep
    exact ⟨u, r, rfl, hd, h2⟩
  | d0 :: ds, xs, i + 1, d, u, h, hd => by
    unfold VRep at h
    obtain ⟨x, r, rfl, h1, h2⟩ := h
    rw [List.set_cons_succ, List.set_cons_succ]
    unfold VRep
    exact ⟨x, r.set i u, rfl, h1, vrep_set i h2 hd⟩
theorem VRep.split' {M : Nat → Prop} {w : World} : ∀ {ds : List Dat} {xs : List Value}, VRep M w ds xs → ∀ n, VRep M w (ds.take n) (xs.take n)
  | [], xs, h, n => by unfold VRep at h; subst h; simp; exact VRep.nil
  | d :: ds, xs, h, 0 => by simp; exact VRep.nil
  | d :: ds, xs, h, n + 1 => by
    unfold VRep at h
    obtain ⟨x, r, rfl, h1, h3⟩ := h
    exact VRep.cons h1 (h3.split' n)
/-- A cell of a row is written. -/
theorem a_rst (hT : TOk P L) {t e : TypeId} {x y : Operand} {g k hh l cap off : Nat} {es : List (List Dat)} {v' : Value} (i j : Nat) (ds : List Dat) (d : Dat) (h : machA L n fuel s f σ [] = ⟨.op m κ all dec o true rest, f', σ', ob⟩) (hob : ob.map (·.1) = ob.map (·.2)) (ho : o.op = .store t x y) (ht : oneT (tl L t) = true)
    (hx : evA n f' x = .v (.pointer (some ⟨g, off, none⟩)) hh) (hl : look σ' hh = some (.row v' e k es)) (hv' : v' = .slice (some ⟨g, 0, none⟩) l cap) (hoff : off = i * k + j) (hd : es[i]? = some ds) (hj : j < k) (hy : datK (evA n f' y) = some d)
    (hk : DenA c P n Q (.ops (m.hap true) κ all dec rest) (putA f' o.dst (.v undef 0)) (upd σ' hh (.row v' e k (es.set i (ds.set j d))))) : DenA c P n Q s f σ := by
  subst hv'
  subst hoff
  refine a_eff hT (fun a1 σ1 => a1 = .v undef 0 ∧ σ1 = upd σ' hh (.row (.slice (some ⟨g, 0, none⟩) l cap) e k (es.set i (ds.set j d)))) h hob (fun Y Su w fc hdd hY hhd henv => ?_) (fun a1 σ1 ⟨ha, hs⟩ => by subst ha; subst hs; exact hk)
  obtain ⟨S1, S2, hS, hdis, hc, hrest⟩ := hhd.take hl
  obtain ⟨hS1, hkl, xs, ho', hv⟩ := hc
  have hxv := henv.eval (n := n) x
  rw [hx] at hxv
  have hyv := datK_rep hy (henv.eval (n := n) y)
  generalize hu : ev n fc y = u at hyv
  have h1 := hyv.one
  have hlt := (List.getElem?_eq_some_iff.1 hd).1
  have hlen : i * k + j < es.length * k := by
    have : (i + 1) * k ≤ es.length * k := Nat.mul_le_mul_right _ hlt
    rw [Nat.succ_mul] at this
    omega
  rcases ho'.2 with ⟨hbad, _⟩ | ⟨g', cap', cur, hvv, hb0, hgg, hn, hcap, hsz, htk⟩
  · cases hbad
  simp only [Value.slice.injEq, Option.some.injEq, Addr.mk.injEq, and_true] at hvv
  obtain ⟨rfl, rfl, rfl⟩ := hvv
  have hblk : Blk w g e cur.toList := by unfold Blk; simpa using hgg
  have hoff : i * k + j < cur.toList.length := by
    have : es.length * k ≤ cap * k := Nat.mul_le_mul_right _ hn
    simp
    omega
  have hone := one_tl hT ht
  obtain ⟨td, htd, _, hsz1⟩ := hone
  have hrun : (execOp (ev n fc) o).run P w = .ok .skip (w.setCell ⟨g, i * k + j, none⟩ u) := by
    have := exec_store (P := P) (n := n) (f := fc) (w := w) (vs := [u]) hT ho (rep_v hxv) (by rw [hu]; exact cells_one h1) hsz1 (some_of_one htd) (by simpa using h1) (fun q hq => by
      obtain rfl : q = 0 := by simpa using hq
      simp [Addr.add, hblk.cell (i * k + j) (List.getElem?_eq_getElem hoff), hblk.free])
    simpa [setAll, Addr.add] using this
  rw [hrun]
  have hSg : S1 g := (hS1 g).2 rfl
  have hev : Ev (at1 g) w (w.setCell ⟨g, i * k + j, none⟩ u) := Ev.setCell w ⟨g, i * k + j, none⟩ u
  have hm : ∀ b, b < w.heap.size → at1 g b ∨ or2 Su Y b → or2 Su Y b := fun b _ h => h.elim (fun h => by rw [show b = g from h]; exact .inl ((hS g).2 (.inl hSg))) id
  refine ⟨_, _, Su, ⟨rfl, rfl⟩, mk_v, ?_, hev.mono fun b _ h => by rw [show b = g from h]; exact (hS g).2 (.inl hSg), fun b hb => .inl hb⟩
  refine (Holds.upd (S1 := S1) (c' := .row (.slice (some ⟨g, 0, none⟩) es.length cap) e k (es.set i (ds.set j d))) hev hm hhd hl hrest (fun b hb hg => hdis b (by rw [show b = g from hg]; exact hSg) hb) hdis ⟨hS1, ?_, xs.set (i * k + j) u, ?_, ?_⟩).iff hS
  · intro e' he'
    rcases List.mem_or_eq_of_mem_set he' with h | rfl
    · exact hkl e' h
    · rw [List.length_set]; exact hkl ds (List.mem_of_getElem? hd)
  · refine ⟨?_, .inr ⟨g, cap, (cur.toList.set (i * k + j) u).toArray, by simp, hb0, by simpa [Blk] using hblk.set (i * k + j) u, by simpa using hn, hcap, by simpa using hsz, ?_⟩⟩
    · rw [List.length_set, List.length_set]; exact ho'.1
    · rw [List.length_set, ← htk]
      simp [List.take_set]
  · rw [flat_set d hkl hd hj]
    exact (vrep_set _ hv hyv).ev hev hm
theorem take_flat {k : Nat} : ∀ {es : List (List Dat)} (r : Nat), (∀ e ∈ es, e.length = k) → (es.take r).flatten = es.flatten.take (r * k)
  | [], r, h => by simp
  | e :: es, 0, h => by simp
  | e :: es, r + 1, h => by
    have he := h e (by simp)
    have h5 : e.take ((r + 1) * k) = e := List.take_of_length_le (by rw [he, Nat.succ_mul]; omega)
    rw [List.take_succ_cons, List.flatten_cons, List.flatten_cons, take_flat r fun e' h' => h e' (by simp [h']), List.take_append, h5, he, show (r + 1) * k - k = r * k by rw [Nat.succ_mul]; omega]
/-- A row is cut off. -/
theorem a_rsl (hT : TOk P L) {t e : TypeId} {x y : Operand} {q : IntKind} {i : Int} {g k hh h2 l cap : Nat} {es : List (List Dat)} {v' : Value} (r : Nat) (h : machA L n fuel s f σ [] = ⟨.op m κ all dec o true rest, f', σ', ob⟩) (hob : ob.map (·.1) = ob.map (·.2)) (ho : o.op = .slice t x none (some y) none) (ht : tl L t = .sl e k)
    (hx : evA n f' x = .row (.slice (some ⟨g, 0, none⟩) l cap) hh) (hl : look σ' hh = some (.row v' e k es)) (hv' : v' = .slice (some ⟨g, 0, none⟩) l cap) (hy : evN n f' y = .v (.int q i) h2) (hi : i = (r : Int)) (hr : r ≤ es.length)
    (hk : DenA c P n Q (.ops (m.hap true) κ all dec rest) (putA f' o.dst (.row (.slice (some ⟨g, 0, none⟩) r cap) hh)) (upd σ' hh (.row (.slice (some ⟨g, 0, none⟩) r cap) e k (es.take r)))) : DenA c P n Q s f σ := by
  subst hv'
  subst hi
  refine a_eff hT (fun a1 σ1 => a1 = .row (.slice (some ⟨g, 0, none⟩) r cap) hh ∧ σ1 = upd σ' hh (.row (.slice (some ⟨g, 0, none⟩) r cap) e k (es.take r))) h hob (fun Y Su w fc hdd hY hhd henv => ?_) (fun a1 σ1 ⟨ha, hs⟩ => by subst ha; subst hs; exact hk)
  obtain ⟨S1, S2, hS, hdis, hc, hrest⟩ := hhd.take hl
  obtain ⟨hS1, hkl, xs, ho', hv⟩ := hc
  obtain ⟨hu, hinf, hm⟩ := sl_tl hT ht
  have hxv := henv.eval (n := n) x
  rw [hx] at hxv
  unfold Rep at hxv
  have hyv := rep_v (by have := henv.evalN (n := n) y; rw [hy] at this; exact this : Rep (or2 Su Y) w (.v (.int q (r : Int)) h2) (ev n fc y))
  rcases ho'.2 with ⟨hbad, _⟩ | ⟨g', cap', cur, hvv, hb0, hgg, hn, hcap, hsz, htk⟩
  · cases hbad
  simp only [Value.slice.injEq, Option.some.injEq, Addr.mk.injEq, and_true] at hvv
  obtain ⟨rfl, rfl, rfl⟩ := hvv
  have hrc : r ≤ cap := by omega
  have hrun : (execOp (ev n fc) o).run P w = .ok (.value (.slice (some ⟨g, 0, none⟩) r cap)) w := by
    simp [execOp, ho, Instr.sliceAt, Instr.slice, hxv.1, hyv, underlying, hu, Instr.sliceBounds, Instr.sliceBound, asIntOf, hrc, run_sizeOf' hinf, Addr.add]
  rw [hrun]
  have hev : Ev no w w := Ev.refl no w
  have hm' : ∀ b, b < w.heap.size → no b ∨ or2 Su Y b → or2 Su Y b := fun b _ h => h.elim (fun h => h.elim) id
  refine ⟨_, _, Su, ⟨rfl, rfl⟩, by unfold Rep; exact ⟨rfl, rfl⟩, ?_, Ev.refl _ _, fun b hb => .inl hb⟩
  refine (Holds.upd (S1 := S1) (c' := .row (.slice (some ⟨g, 0, none⟩) r cap) e k (es.take r)) hev hm' hhd hl hrest (fun b hb hg => hg.elim) hdis ⟨hS1, fun e' he' => hkl e' (List.mem_of_mem_take he'), xs.take (r * k), ?_, ?_⟩).iff hS
  · have hlr : (es.take r).length = r := by simp; omega
    rw [hlr]
    refine ⟨?_, .inr ⟨g, cap, cur, rfl, hb0, hgg, hrc, hcap, hsz, ?_⟩⟩
    · rw [List.length_take, ho'.1]
      exact Nat.min_eq_left (Nat.mul_le_mul_right _ hr)
    · rw [← htk, List.take_take]
      congr 1
      exact (Nat.min_eq_left (Nat.mul_le_mul_right _ hr)).symm
  · rw [take_flat r hkl]
    have h3 := hv.split' (r * k)
    exact h3
end
end Go.Proofs.Ytepjnmocepkfjaa.A
