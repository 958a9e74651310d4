/- The steps of a walk that do something: new memory, calls, loops, drawn regions, the end; and what is told otherwise. They hold of any program. -/
import Derived.Test.YtepjnmocepkfjaaG
set_option linter.unusedVariables false
set_option linter.unusedSimpArgs false
namespace Go.Proofs.Ytepjnmocepkfjaa.A
open V

section
variable {P : Program} {L : List TD} {Z : List (List Value)} {n : Nat} {Q : Exit → Act → World → Prop} {c : Ctx}
variable {s : AMS} {f f' : AEnv} {σ σ' : Store} {ob : Obs} {κ : List Kt} {all : Array Oper} {dec : List Nat} {o : Oper} {al : Bool} {rest : List (Oper × Bool)} {m : Mode}

/-- One block more. -/
theorem holds_new {Y Su : Nat → Prop} {w : World} {σ : Store} {t : TypeId} {cs : List AV} {xs : List Value} (k : Nat) (hY : ∀ b, Y b → b < w.heap.size) (hh : Holds (or2 Su Y) w σ Su) (hr : Reps (or2 Su Y) w cs xs) (h1 : ∀ u ∈ xs, u.oneCell' = true) :
    Holds (or2 (or2 (at1 w.heap.size) Su) Y) (w.alloc (.cells xs.toArray t)) ((k, .blk w.heap.size t cs) :: σ) (or2 (at1 w.heap.size) Su) ∧ Ev Su w (w.alloc (.cells xs.toArray t)) ∧ ∀ b, or2 (at1 w.heap.size) Su b → Su b ∨ w.heap.size ≤ b := by
  have hev : Ev no w (w.alloc (.cells xs.toArray t)) := Ev.alloc w _
  have hm : ∀ b, b < w.heap.size → no b ∨ or2 (or2 (at1 w.heap.size) Su) Y b → or2 Su Y b := fun b hb h => by
    rcases h with h | (h | h) | h
    · exact h.elim
    · simp only [at1] at h; omega
    · exact .inl h
    · exact .inr h
  refine ⟨⟨at1 w.heap.size, Su, fun b => Iff.rfl, fun b hb h => ?_, ⟨fun b => Iff.rfl, xs, Blk.new w t xs, hr.ev hev hm, h1⟩, hh.ev hev hm fun _ _ h => h⟩, hev.no, fun b h => h.elim (fun h => .inr (by simp only [at1] at h; omega)) .inl⟩
  simp only [at1] at hb
  have := hh.lt b h
  omega
/-- A variable of its own, with a value; k: its key. -/
theorem a_box (hT : TOk P L) (k : Nat) {t : TypeId} {x : Operand} {cs : List AV} (h : machA L n fuel s f σ [] = ⟨.op m κ all dec o true rest, f', σ', ob⟩) (hob : ob.map (·.1) = ob.map (·.2)) (ho : o.op = .box t x) (hc : cellsOf1 (evA n f' x) = some cs)
    (hk : ∀ g, DenA c P n Q (.ops (m.hap true) κ all dec rest) (putA f' o.dst (.v (.pointer (some ⟨g, 0, none⟩)) k)) ((k, .blk g t cs) :: σ')) : DenA c P n Q s f σ := by
  refine a_eff hT (fun a σ1 => ∃ g, a = .v (.pointer (some ⟨g, 0, none⟩)) k ∧ σ1 = (k, .blk g t cs) :: σ') h hob (fun Y Su w fc hd hY hh he => ?_) (fun a σ1 ⟨g, ha, hs⟩ => by subst ha; subst hs; exact hk g)
  obtain ⟨hr, h1⟩ := cellsOf1_rep hc (he.eval (n := n) x)
  have hrun : (execOp (ev n fc) o).run P w = .ok (.value (.pointer (some ⟨w.heap.size, 0, none⟩))) (w.alloc (.cells (ev n fc x).cells t)) := by simp [execOp, ho, Instr.box, newVar, newRow]
  rw [hrun]
  obtain ⟨k1, k2, k3⟩ := holds_new (t := t) k hY hh hr h1
  simp only [Array.toArray_toList] at k1 k2
  exact ⟨_, _, _, ⟨_, rfl, rfl⟩, mk_v, k1, k2, k3⟩
/-- A variable of its own, zero. -/
theorem a_new (hT : TOk P L) (hZ : ZOk P Z) (k : Nat) {t : TypeId} {z : Value} {zs : List Value} (h : machA L n fuel s f σ [] = ⟨.op m κ all dec o true rest, f', σ', ob⟩) (hob : ob.map (·.1) = ob.map (·.2)) (ho : o.op = .alloc t) (hz : zt Z t = z :: zs)
    (hk : ∀ g, DenA c P n Q (.ops (m.hap true) κ all dec rest) (putA f' o.dst (.v (.pointer (some ⟨g, 0, none⟩)) k)) ((k, .blk g t (avs (z :: zs))) :: σ')) : DenA c P n Q s f σ := by
  refine a_eff hT (fun a σ1 => ∃ g, a = .v (.pointer (some ⟨g, 0, none⟩)) k ∧ σ1 = (k, .blk g t (avs (z :: zs))) :: σ') h hob (fun Y Su w fc hd hY hh he => ?_) (fun a σ1 ⟨g, ha, hs⟩ => by subst ha; subst hs; exact hk g)
  obtain ⟨i, v, hi, hiz, hcs, h1⟩ := hZ.spec hz
  have hrun : (execOp (ev n fc) o).run P w = .ok (.value (.pointer (some ⟨w.heap.size, 0, none⟩))) (w.alloc (.cells v.cells t)) := by simp [execOp, ho, Instr.alloc, newVar, newRow, zeroValue, typeInfo, hi, hiz]
  rw [hrun]
  obtain ⟨k1, k2, k3⟩ := holds_new (t := t) k hY hh (reps_vs (M := or2 Su Y) (w := w) (z :: zs)) (ones_spec h1)
  have e : v.cells = (z :: zs).toArray := by rw [← hcs]
  rw [e]
  exact ⟨_, _, _, ⟨_, rfl, rfl⟩, mk_v, k1, k2, k3⟩

/-! ### Rows -/
theorem own_lower {w : World} {base base' e k : Nat} {v : Value} {m : Nat} {xs : List Value} (h : w.ownsRow base e k v m xs) (hb : base' ≤ base) : w.ownsRow base' e k v m xs := by
  obtain ⟨hl, ho⟩ := h
  refine ⟨hl, ?_⟩
  rcases ho with ho | ⟨g, cap, cur, e1, e2, r⟩
  · exact .inl ho
  · exact .inr ⟨g, cap, cur, e1, by omega, r⟩
/-- A new row. -/
theorem holds_row {Y Su : Nat → Prop} {w w1 : World} {σ : Store} {e : TypeId} {k : Nat} {es : List (List Dat)} {x : Value} {xs : List Value} (kn : Nat) (hY : ∀ b, Y b → b < w.heap.size) (hh : Holds (or2 Su Y) w σ Su) (hev : Ev no w w1) (hk : ∀ e' ∈ es, e'.length = k)
    (ho : w1.ownsRow w.heap.size e k x es.length xs) (hv : VRep (or2 Su Y) w es.flatten xs) :
    Holds (or2 (or2 (V.ob x) Su) Y) w1 ((kn, .row x e k es) :: σ) (or2 (V.ob x) Su) ∧ Ev Su w w1 ∧ (∀ b, or2 (V.ob x) Su b → Su b ∨ w.heap.size ≤ b) ∧ x.oneCell' = true := by
  have hlt := ho.lt
  have hm : ∀ b, b < w.heap.size → no b ∨ or2 (or2 (V.ob x) Su) Y b → or2 Su Y b := fun b hb h => by
    rcases h with h | (h | h) | h
    · exact h.elim
    · have := (hlt b h).1; omega
    · exact .inl h
    · exact .inr h
  refine ⟨⟨V.ob x, Su, fun b => Iff.rfl, fun b hb h => ?_, ⟨fun b => Iff.rfl, hk, xs, own_lower ho (Nat.zero_le _), hv.ev hev hm⟩, hh.ev hev hm fun _ _ h => h⟩, hev.no, fun b h => h.elim (fun h => .inr (hlt b h).1) .inl, ?_⟩
  · have := (hlt b hb).1
    have := hh.lt b h
    omega
  · rcases ho.2 with ⟨rfl, _⟩ | ⟨g, cap, cur, rfl, _⟩ <;> rfl
/-- The elements of a literal. -/
def litK (k : Nat) : Nat → List (Nat × AV) → Option (List (List Dat))
  | _, [] => some []
  | i, (j, a) :: l => match Nat.beq j i, cellsOf1 a with
    | true, some cs => match Nat.beq cs.length k, datsK cs with
      | true, some ds => match litK k (i + 1) l with
        | some r => some (ds :: r)
        | none => none
      | _, _ => none
    | _, _ => none
theorem lit_fill {P : Program} {k : Nat} : ∀ (vs : List (List Value)) (i : Nat) (ps : List (Nat × Value)) (cs : List Value), (∀ e ∈ vs, e.length = k) → (i + vs.length) * k ≤ cs.length → ps.map (·.1) = (List.range' i vs.length) → ps.map (fun p => p.2.cells.toList) = vs →
    Instr.fill (fun i => some (i * k, k)) cs.toArray ps = some (cs.take (i * k) ++ vs.flatten ++ cs.drop ((i + vs.length) * k)).toArray
  | [], i, ps, cs, hl, hle, h1, h2 => by
    have : ps = [] := by cases ps with | nil => rfl | cons p ps => simp at h2
    subst this
    simp [Instr.fill]
  | v :: vs, i, [], cs, hl, hle, h1, h2 => by simp at h2
  | v :: vs, i, (j, x) :: ps, cs, hl, hle, h1, h2 => by
    simp only [List.map_cons, List.length_cons, List.range'_succ, List.cons.injEq] at h1 h2
    obtain ⟨rfl, h1⟩ := h1
    obtain ⟨rfl, h2⟩ := h2
    have hx := hl x.cells.toList (by simp)
    simp only [List.length_cons] at hle
    rw [show j + (vs.length + 1) = (j + 1) + vs.length by omega] at hle
    have hle1 : (j + 1) * k ≤ cs.length := Nat.le_trans (Nat.mul_le_mul_right k (Nat.le_add_right _ _)) hle
    have hsz : x.cells.size = k := by simpa using hx
    have hfit : j * k + k ≤ cs.length := by rw [Nat.succ_mul] at hle1; exact hle1
    unfold Instr.fill
    simp only
    rw [if_neg (by simp [hsz]; omega)]
    have h0 := bld_fold (j * k) x.cells.toList cs (by rw [hx]; exact hfit)
    simp only [Array.toArray_toList] at h0
    rw [h0, lit_fill (P := P) vs (j + 1) ps _ (fun e he => hl e (by simp [he])) (by simp [hsz]; omega) h1 h2]
    congr 2
    rw [hx]
    have e1 : (j + 1) * k = j * k + k := Nat.succ_mul j k
    have hA : (cs.take (j * k)).length = j * k := by simp; omega
    have hAB : (cs.take (j * k) ++ x.cells.toList).length = (j + 1) * k := by rw [List.length_append, hA, hx, e1]
    rw [List.take_append_of_le_length (by rw [hAB]; omega), List.take_of_length_le (by rw [hAB]; omega)]
    rw [List.drop_append, List.drop_eq_nil_of_le (by rw [hAB]; exact Nat.mul_le_mul_right k (by omega)), hAB, List.drop_drop]
    simp only [List.nil_append, List.flatten_cons, List.append_assoc, List.length_cons]
    congr 4
    have : (j + 1) * k ≤ (j + 1 + vs.length) * k := Nat.mul_le_mul_right k (by omega)
    rw [show j + (vs.length + 1) = j + 1 + vs.length by omega]
    omega
theorem litK_rep {M : Nat → Prop} {w : World} {k : Nat} : ∀ {l : List (Nat × AV)} {vs : List (Nat × Value)} {i : Nat} {es : List (List Dat)}, litK k i l = some es → vs.map (·.1) = l.map (·.1) → Reps M w (l.map (·.2)) (vs.map (·.2)) →
    vs.map (·.1) = List.range' i es.length ∧ (∀ e ∈ es, e.length = k) ∧ (vs.map fun p => p.2.cells.toList).length = es.length ∧ (∀ e ∈ (vs.map fun p => p.2.cells.toList), e.length = k) ∧ VRep M w es.flatten (vs.map fun p => p.2.cells.toList).flatten
  | [], vs, i, es, h, hi, hr => by
    simp [litK] at h
    subst h
    simp at hi
    subst hi
    exact ⟨rfl, by simp, rfl, by simp, VRep.nil⟩
  | (j, a) :: l, [], i, es, h, hi, hr => by simp at hi
  | (j, a) :: l, (j', v) :: vs, i, es, h, hi, hr => by
    simp only [List.map_cons, List.cons.injEq] at hi
    obtain ⟨rfl, hi⟩ := hi
    simp only [List.map_cons] at hr
    unfold Reps at hr
    obtain ⟨y, r, e, hra, hr⟩ := hr
    simp only [List.cons.injEq] at e
    obtain ⟨rfl, rfl⟩ := e
    unfold litK at h
    split at h
    · rename_i cs hj hc
      split at h
      · rename_i ds hb hd
        split at h
        · rename_i es' hes
          simp at h
          subst h
          obtain ⟨h1, h2, h3, h4, h5⟩ := litK_rep hes hi hr
          obtain ⟨hrc, h1c⟩ := cellsOf1_rep hc hra
          have hv := datsK_rep hd hrc
          have hlen := hrc.len
          have hb' := Nat.eq_of_beq_eq_true hb
          have hl := hv.len
          have hj' := Nat.eq_of_beq_eq_true hj
          subst hj'
          refine ⟨by simp [List.range'_succ, h1], ?_, by simpa using h3, ?_, by simpa using hv.app h5⟩
          · intro e he
            rcases List.mem_cons.1 he with rfl | he
            · omega
            · exact h2 e he
          · intro e he
            simp only [List.map_cons] at he
            rcases List.mem_cons.1 he with rfl | he
            · omega
            · exact h4 e he
        · cases h
      · cases h
    · cases h
/-- A slice literal: a row of one's own; kn: its key. -/
theorem a_lit (hT : TOk P L) (kn : Nat) {t e : TypeId} {k mm : Nat} {ps : Array (Nat × Operand)} {es : List (List Dat)} (h : machA L n fuel s f σ [] = ⟨.op m κ all dec o true rest, f', σ', ob⟩) (hob : ob.map (·.1) = ob.map (·.2)) (ho : o.op = .buildSlice t mm ps) (ht : tl L t = .sl e k) (hel : elemOk P e k = true)
    (hl : litK k 0 (ps.toList.map fun p => (p.1, evA n f' p.2)) = some es) (hm : Nat.beq es.length mm = true) (hsz : Nat.ble (mm * k) 16000000 = true) (hmx : Nat.ble mm 1000000 = true)
    (hk : ∀ x, DenA c P n Q (.ops (m.hap true) κ all dec rest) (putA f' o.dst (.row x kn)) ((kn, .row x e k es) :: σ')) : DenA c P n Q s f σ := by
  refine a_eff hT (fun a σ1 => ∃ x, a = .row x kn ∧ σ1 = (kn, .row x e k es) :: σ') h hob (fun Y Su w fc hd hY hh he => ?_) (fun a σ1 ⟨g, ha, hs⟩ => by subst ha; subst hs; exact hk g)
  have hm' := Nat.eq_of_beq_eq_true hm
  have hsz' := Nat.le_of_ble_eq_true hsz
  have hmx' := Nat.le_of_ble_eq_true hmx
  subst hm'
  have hT1 := sl_tl hT ht
  obtain ⟨i, z, hi, hisz, hby, hk0, hz, hzk⟩ := elemOk_spec hel
  have hrep : ∀ l : List (Nat × Operand), Reps (or2 Su Y) w (l.map fun p => evA n f' p.2) (l.map fun p => ev n fc p.2) := fun l => by
    induction l with
    | nil => exact Reps.nil
    | cons p l ih => exact Reps.cons (he.eval p.2) ih
  obtain ⟨h1, h2, h3, h4, h5⟩ := litK_rep (M := or2 Su Y) (w := w) (vs := ps.toList.map fun p => (p.1, ev n fc p.2)) hl (by simp) (by rw [List.map_map, List.map_map]; exact hrep ps.toList)
  -- the row's cells
  have hfill : ∀ cs : Array Value, cs.size = es.length * k → Instr.fill (fun i => some (i * k, k)) cs (ps.map fun p => (p.1, ev n fc p.2)).toList = some ((ps.toList.map fun p => (p.1, ev n fc p.2)).map fun p => p.2.cells.toList).flatten.toArray := by
    intro cs hcs
    have := lit_fill (P := P) (k := k) ((ps.toList.map fun p => (p.1, ev n fc p.2)).map fun p => p.2.cells.toList) 0 (ps.toList.map fun p => (p.1, ev n fc p.2)) cs.toList h4 (by rw [h3]; simp [hcs]) (by rw [h1, h3]) rfl
    simp only [Array.toArray_toList] at this
    rw [Array.toList_map, this]
    congr 2
    rw [h3]
    simp [hcs]
  have hflen : ((ps.toList.map fun p => (p.1, ev n fc p.2)).map fun p => p.2.cells.toList).flatten.length = es.length * k := by
    rw [h5.len]
    have : ∀ l : List (List Dat), (∀ e ∈ l, e.length = k) → l.flatten.length = l.length * k := by
      intro l
      induction l with
      | nil => intro _; simp
      | cons e l ih => intro hl; rw [List.flatten_cons, List.length_append, hl e (by simp), ih fun e' h' => hl e' (by simp [h']), List.length_cons, Nat.succ_mul]; omega
    exact this es h2
  have hrun : (execOp (ev n fc) o).run P w = .ok (.value (.slice (some ⟨w.heap.size, 0, none⟩) es.length es.length)) (w.alloc (.cells ((ps.toList.map fun p => (p.1, ev n fc p.2)).map fun p => p.2.cells.toList).flatten.toArray e)) := by
    unfold execOp
    simp only [ho, Sem.run_bind, Sem.run_pure]
    unfold Instr.buildSlice
    simp only [Sem.run_bind, run_underlying hT1.1, Result.andThen_ok, run_sizeOf' hT1.2.1, hT1.2.2]
    rw [if_neg (by omega)]
    by_cases h0 : es.length * k = 0
    · simp only [h0, if_true, Sem.run_pure, Sem.run_bind, Result.andThen_ok]
      rw [hfill _ (by simp [h0])]
      simp [newRow]
    · simp only [h0, if_false, zeroValue, typeInfo, Sem.run_pure, Sem.run_bind, run_program, hi, hz, Result.andThen_ok]
      rw [hfill _ (by simp)]
      simp [newRow]
  rw [hrun]
  have hown := World.ownsRow_lit (base := w.heap.size) (e := e) (size := k) w ((ps.toList.map fun p => (p.1, ev n fc p.2)).map fun p => p.2.cells.toList).flatten.toArray es.length (Nat.le_refl _) (by unfold maxLen; omega) (by simpa using hflen)
  obtain ⟨k1, k2, k3, k4⟩ := holds_row kn hY hh (Ev.alloc w _) h2 hown (by simpa using h5)
  exact ⟨_, _, _, ⟨_, rfl, rfl⟩, by unfold Rep; exact ⟨rfl, k4⟩, k1, k2, k3⟩

/-- What is appended, as it lies in memory. -/
def srcK (σ : Store) (k : Nat) : AV → Option (List (List Dat) × Obs)
  | .d (.sl k' es) => match Nat.beq k' k with | true => some (es, []) | false => none
  | .v (.slice none 0 0) _ => some ([], [])
  | .row x h => match look σ h with
    | some (.row x' _ k' es) => match Nat.beq k' k with | true => some (es, [(x, x')]) | false => none
    | _ => none
  | _ => none
theorem srcK_rep {Y Su : Nat → Prop} {w : World} {σ : Store} {k : Nat} {a : AV} {es : List (List Dat)} {obs : Obs} {v : Value} (h : srcK σ k a = some (es, obs)) (hob : OT obs) (hr : Rep (or2 Su Y) w a v) (hh : Holds (or2 Su Y) w σ Su) :
    ∃ A c news, v = .slice A es.length c ∧ (∀ e ∈ es, e.length = k) ∧ VRep (or2 Su Y) w es.flatten news ∧ (news ≠ [] → ∃ ad, A = some ad ∧ Cells w ad news) := by
  cases a with
  | d x =>
    cases x <;> try (simp [srcK] at h; done)
    rename_i k' es'
    simp only [srcK] at h
    split at h
    case h_2 => cases h
    rename_i hb
    have hb' := Nat.eq_of_beq_eq_true hb
    subst hb'
    simp at h
    obtain ⟨rfl, rfl⟩ := h
    unfold Rep at hr
    unfold DRep at hr
    obtain ⟨A, cap, rfl, hc, hlen, hr⟩ := hr
    by_cases hne : es' = []
    · subst hne
      exact ⟨A, cap, [], rfl, by simp, VRep.nil, by simp⟩
    · obtain ⟨ad, rfl, hM, hb, hS⟩ := hr hne
      obtain ⟨xs, hv, hcells, _⟩ := (SRep.flat.1 hS).vals
      rw [show ad.add 0 = ad by unfold Addr.add; simp] at hcells
      exact ⟨some ad, cap, xs, rfl, hlen, hv, fun _ => ⟨ad, rfl, hcells⟩⟩
  | v x hx =>
    have hnil : x = .slice none 0 0 ∧ es = [] ∧ obs = [] := by
      cases x <;> try (simp [srcK] at h; done)
      rename_i a l cp
      cases a <;> cases l <;> cases cp <;> simp [srcK] at h
      exact ⟨rfl, h.1, h.2⟩
    obtain ⟨rfl, rfl, rfl⟩ := hnil
    unfold Rep at hr
    subst hr
    exact ⟨none, 0, [], rfl, by simp, VRep.nil, by simp⟩
  | row x hx =>
    simp only [srcK] at h
    split at h
    · rename_i x' e' k' es' hl
      split at h
      · rename_i hb
        simp at h
        obtain ⟨rfl, rfl⟩ := h
        have hb' := Nat.eq_of_beq_eq_true hb
        subst hb'
        have e := hob (x, x') (by simp)
        simp only at e
        subst e
        obtain ⟨S1, S2, hS, hd, hc, _⟩ := hh.take hl
        obtain ⟨hS1, hk, xs, ho, hv⟩ := hc
        unfold Rep at hr
        rcases ho.2 with ⟨h1, h2⟩ | ⟨g, cap, cur, h1, _⟩
        · have : es' = [] := List.eq_nil_of_length_eq_zero h2
          subst this
          exact ⟨none, 0, [], by rw [hr.1, h1]; rfl, by simp, VRep.nil, by simp⟩
        · exact ⟨_, cap, xs, by rw [hr.1, h1], hk, hv, fun _ => ⟨_, rfl, fun j u hu => ho.cells (g := g) (by rw [h1]; rfl) j u hu⟩⟩
      · cases h
    · cases h
  | _ => simp [srcK] at h
/-- append; its row (key k0) is no more, there is a new one (key kn). -/
theorem a_app (hT : TOk P L) (kn : Nat) {t e : TypeId} {k k0 : Nat} {x y : Operand} {v v' : Value} {es es2 : List (List Dat)} {ob2 : Obs} (es' : List (List Dat)) (h : machA L n fuel s f σ [] = ⟨.op m κ all dec o true rest, f', σ', ob⟩) (hob : ob.map (·.1) = ob.map (·.2)) (ho : o.op = .call ⟨.builtin .append, #[x, y], #[t, t]⟩) (ht : tl L t = .sl e k) (hel : elemOk P e k = true)
    (hx : evA n f' x = .row v k0) (hl : look σ' k0 = some (.row v' e k es)) (hvv : v = v') (hy : srcK σ' k (evA n f' y) = some (es2, ob2)) (hob2 : ob2.map (·.1) = ob2.map (·.2)) (hes : es ++ es2 = es') (hlim : es.length + es2.length ≤ lim)
    (hk : ∀ x, DenA c P n Q (.ops (m.hap true) κ all dec rest) (putA f' o.dst (.row x kn)) ((kn, .row x e k es') :: del σ' k0)) : DenA c P n Q s f σ := by
  subst hvv
  subst hes
  refine a_eff hT (fun a σ1 => ∃ x, a = .row x kn ∧ σ1 = (kn, .row x e k (es ++ es2)) :: del σ' k0) h hob (fun Y Su w fc hd hY hh he => ?_) (fun a σ1 ⟨g, ha, hs⟩ => by subst ha; subst hs; exact hk g)
  obtain ⟨S1, S2, hS, hdis, hc, hrest⟩ := hh.take hl
  obtain ⟨hS1, hkl, xs, hown, hv⟩ := hc
  obtain ⟨A, cap, news, hyv, hkl2, hv2, hcells⟩ := srcK_rep hy (OT.of hob2) (he.eval (n := n) y) hh
  have hxv := he.eval (n := n) x
  rw [hx] at hxv
  unfold Rep at hxv
  have hnl : news.length = es2.length * k := by
    rw [hv2.len]
    have : ∀ l : List (List Dat), (∀ e ∈ l, e.length = k) → l.flatten.length = l.length * k := by
      intro l
      induction l with
      | nil => intro _; simp
      | cons e l ih => intro hl; rw [List.flatten_cons, List.length_append, hl e (by simp), ih fun e' h' => hl e' (by simp [h']), List.length_cons, Nat.succ_mul]; omega
    exact this es2 hkl2
  obtain ⟨v', w', hrun, h1, h2, h3⟩ := run_appendR (P := P) (ty := o.type) (c := cap) (sl_tl hT ht).1 hel hown (Nat.zero_le _) hnl hcells hv2.one hlim
  have hrun' : (execOp (ev n fc) o).run P w = .ok (.value v') w' := by
    unfold execOp
    simp only [ho, resolve, invoke, builtin, Sem.run_bind, Sem.run_pure, Result.andThen_ok, List.map_toArray, List.map_cons, List.map_nil, hxv.1, hyv, hrun]
  rw [hrun']
  have hev : Ev Su w w' := h2.mono fun b _ hb => (hS b).2 (.inl ((hS1 b).2 hb))
  have hsub : ∀ b, or2 (V.ob v') S2 b → Su b ∨ w.heap.size ≤ b := fun b h => by
    rcases h with h | h
    · exact (h3 b h).imp (fun h => (hS b).2 (.inl ((hS1 b).2 h))) id
    · exact .inl ((hS b).2 (.inr h))
  have hm : ∀ b, b < w.heap.size → V.ob v b ∨ or2 (or2 (V.ob v') S2) Y b → or2 Su Y b := fun b hb h => by
    rcases h with h | h | h
    · exact .inl ((hS b).2 (.inl ((hS1 b).2 h)))
    · rcases hsub b h with h | h
      · exact .inl h
      · omega
    · exact .inr h
  refine ⟨_, _, or2 (V.ob v') S2, ⟨v', rfl, rfl⟩, ?_, ⟨V.ob v', S2, fun b => Iff.rfl, fun b hb h => ?_, ⟨fun b => Iff.rfl, ?_, _, by simpa using h1, ?_⟩, hrest.ev h2 hm fun b hb h => hdis b ((hS1 b).2 h) hb⟩, hev, hsub⟩
  · unfold Rep
    refine ⟨rfl, ?_⟩
    rcases h1.2 with ⟨rfl, _⟩ | ⟨g, cap, cur, rfl, _⟩ <;> rfl
  · rcases h3 b hb with h' | h'
    · exact hdis b ((hS1 b).2 h') h
    · have := hrest.lt b h; omega
  · intro e' he'
    rcases List.mem_append.1 he' with he' | he'
    · exact hkl e' he'
    · exact hkl2 e' he'
  · rw [List.flatten_append]
    exact (hv.app hv2).ev h2 hm

/-! ### Bytes and texts -/
def eB (b : UInt8) : List Dat := [.v (byV b)]
def bytesD (l : List UInt8) : Dat := .sl 1 (l.map eB)
theorem flat_eB (l : List UInt8) : (l.map eB).flatten = l.map fun b => .v (byV b) := by
  induction l with
  | nil => rfl
  | cons b l ih => simp [eB, ih]
theorem vals_byV {M : Nat → Prop} {w : World} : ∀ {l : List UInt8} {xs : List Value}, VRep M w (l.map fun b => .v (byV b)) xs → xs = l.map byV
  | [], xs, h => by unfold VRep at h; exact h
  | b :: l, xs, h => by
    simp only [List.map_cons] at h
    unfold VRep at h
    obtain ⟨x, r, rfl, h1, h2⟩ := h
    unfold DRep at h1
    rw [h1.1, vals_byV h2]; rfl
theorem run_str {P : Program} {w : World} {src dst e : TypeId} {l : List UInt8} {A : Option Addr} {cap : Nat} (hs : P.underlying src = some (.slice e)) (he : P.underlying e = some (.int .u8)) (hd : P.underlying dst = some .string) (hr : l.map byV ≠ [] → ∃ ad, A = some ad ∧ Cells w ad (l.map byV)) :
    (convert src dst (.slice A l.length cap)).run P w = .ok (.string ⟨l.toArray⟩) w := by
  have hconv : (convert src dst (.slice A l.length cap)).run P w = (Conv.bytesToString (.slice A l.length cap)).run P w := by
    simp [convert, underlying, hs, hd, he]
  rw [hconv]
  cases A with
  | none =>
    have : l = [] := by
      cases l with
      | nil => rfl
      | cons b l => obtain ⟨ad, h, _⟩ := hr (by simp); cases h
    subst this
    simp [Conv.bytesToString]
    rfl
  | some ad =>
    have hcells : Cells w ad (l.map byV) := by
      by_cases hne : l = []
      · subst hne; intro j v hv; simp at hv
      · obtain ⟨ad', e, h⟩ := hr (by simpa using hne); cases e; exact h
    have hl := run_loadCells_list (P := P) (w := w) ad (l.map byV) hcells
    simp only [List.length_map] at hl
    unfold Conv.bytesToString
    simp only [Sem.run_bind, hl, Result.andThen_ok, List.forIn_toArray]
    rw [run_pushes (P := P) (w := w) _ (fun b r => by simp [byV]) l .empty]
    simp [ByteArray.empty, ByteArray.emptyWithCapacity]
    rfl
/-- string(b), of what lies still (in a drawn region: of what is frozen, before anything happens). -/
theorem a_str (hT : TOk P L) {src dst e : TypeId} {x : Operand} {l : List UInt8} {ob2 : Obs} (h : machA L n fuel s f σ [] = ⟨.op m κ all dec o true rest, f', σ', ob⟩) (hob : ob.map (·.1) = ob.map (·.2)) (ho : o.op = .convert src dst x) (hs : tl L src = .sl e 1) (he : tl L e = .int .u8) (hd : tl L dst = .str)
    (hy : srcK σ' 1 (evA n f' x) = some (l.map eB, ob2)) (hob2 : ob2.map (·.1) = ob2.map (·.2)) (hk : DenA c P n Q (.ops (m.hap true) κ all dec rest) (putA f' o.dst (.v (.string ⟨l.toArray⟩) 0)) σ') : DenA c P n Q s f σ := by
  refine a_eff hT (fun a σ1 => a = .v (.string ⟨l.toArray⟩) 0 ∧ σ1 = σ') h hob (fun Y Su w fc hdd hY hh henv => ?_) (fun a σ1 ⟨ha, hs⟩ => by subst ha; subst hs; exact hk)
  obtain ⟨A, cap, news, hyv, hkl2, hv2, hcells⟩ := srcK_rep hy (OT.of hob2) (henv.eval (n := n) x) hh
  rw [flat_eB] at hv2
  have := vals_byV hv2
  subst this
  have hrun : (execOp (ev n fc) o).run P w = .ok (.value (.string ⟨l.toArray⟩)) w := by
    unfold execOp
    simp only [List.length_map] at hyv
    simp only [ho, Sem.run_bind, Sem.run_pure, hyv, run_str (sl_tl hT hs).1 (int_tl hT he) (str_tl hT hd) hcells, Result.andThen_ok]
  rw [hrun]
  exact ⟨_, _, Su, ⟨rfl, rfl⟩, mk_v, hh, Ev.refl _ _, fun b hb => .inl hb⟩
/-- .. in a drawn region, of frozen bytes, before anything happens there. -/
theorem a_strP (hT : TOk P L) {src dst e : TypeId} {x : Operand} {l : List UInt8} {σp : Store} {ex : Ex} (h : machA L n fuel s f σ [] = ⟨.op (.reg true σp ex) κ all dec o al rest, f', σ', ob⟩) (hob : ob.map (·.1) = ob.map (·.2)) (ho : o.op = .convert src dst x) (hs : tl L src = .sl e 1) (he : tl L e = .int .u8) (hd : tl L dst = .str)
    (hy : evA n f' x = .d (bytesD l)) (hk : DenA c P n Q (.ops (.reg true σp ex) κ all dec rest) (putA f' o.dst (.v (.string ⟨l.toArray⟩) 0)) σ') : DenA c P n Q s f σ := by
  refine a_go hT h hob fun hok w S fc Sg hsat hh => ?_
  have haa : (act n fc).eval = ev n fc := funext (act_eval n fc)
  have hx := hsat.env.eval (n := n) x
  rw [hy] at hx
  unfold Rep at hx
  unfold bytesD at hx
  unfold DRep at hx
  obtain ⟨A, cap, hv, hc, hlen, hr⟩ := hx
  rw [List.length_map] at hv
  obtain ⟨ws, U, Sp, Su, hh'⟩ := id hh
  obtain ⟨rfl, hU⟩ := hh'.first rfl
  refine .inl ⟨.string ⟨l.toArray⟩, fun w' hw' => ?_, ?_⟩
  · rw [haa]
    have hsg := hh'.sg
    have hw' : Sg w' := hw'
    rw [hsg] at hw'
    have hcells : l.map byV ≠ [] → ∃ ad, A = some ad ∧ Cells w' ad (l.map byV) := by
      intro hne
      obtain ⟨ad, rfl, hM, hb, hS⟩ := hr (by simpa using hne)
      obtain ⟨xs, hvx, hcells, _⟩ := (SRep.flat.1 hS).vals
      rw [show ad.add 0 = ad by unfold Addr.add; simp] at hcells
      rw [flat_eB] at hvx
      have := vals_byV hvx
      subst this
      refine ⟨ad, rfl, fun j v hj => ?_⟩
      rw [← hcells j v hj]
      exact World.cell?_of_block (w := w) (by rw [add_block]; exact hw' ad.block hb fun hu => hM (.inl ((hh'.all _).2 (.inr (hU _ hu)))))
    unfold execOp
    simp only [ho, Sem.run_bind, Sem.run_pure, hv, run_str (sl_tl hT hs).1 (int_tl hT he) (str_tl hT hd) hcells, Result.andThen_ok]
  · rw [act_put]
    exact hk.out trivial w S (put fc o.dst _) Sg ⟨hsat.env.put o.dst mk_v, hsat.ev, hsat.sub⟩ hh
/-- []byte(s): a row of one's own. -/
theorem a_bytes (hT : TOk P L) {src dst e : TypeId} {x : Operand} {b : ByteArray} {hh0 : Nat} (h : machA L n fuel s f σ [] = ⟨.op m κ all dec o true rest, f', σ', ob⟩) (hob : ob.map (·.1) = ob.map (·.2)) (ho : o.op = .convert src dst x) (hs : tl L src = .str) (hd : tl L dst = .sl e 1) (he : tl L e = .int .u8)
    (hx : evN n f' x = .v (.string b) hh0) (hb : b.size ≤ lim) (hk : DenA c P n Q (.ops (m.hap true) κ all dec rest) (putA f' o.dst (.d (bytesD b.data.toList))) σ') : DenA c P n Q s f σ := by
  refine a_eff hT (fun a σ1 => a = .d (bytesD b.data.toList) ∧ σ1 = σ') h hob (fun Y Su w fc hdd hY hh henv => ?_) (fun a σ1 ⟨ha, hs⟩ => by subst ha; subst hs; exact hk)
  have hxv := henv.evalN (n := n) x
  rw [hx] at hxv
  have h1 := str_tl hT hs
  have h2 := (sl_tl hT hd).1
  have h3 := int_tl hT he
  unfold lim at hb
  obtain ⟨cap, hcap, hrun⟩ : ∃ cap, b.size ≤ cap ∧ (convert src dst (.string b)).run P w = .ok (.slice (some ⟨w.heap.size, 0, none⟩) b.size cap)
      ((w.drew.alloc (.cells ((b.data.map byV) ++ Array.replicate (cap - b.size) (.int .u8 0)) e)).freeze ⟨w.heap.size, ((b.data.map byV) ++ Array.replicate (cap - b.size) (Value.int .u8 0)).size, none⟩ 1) := by
    refine ⟨Question.cut (.appendCap b.size 0 e) (w.tape w.drawn (.appendCap b.size 0 e)), by simp [Question.cut], ?_⟩
    unfold convert
    simp only [Sem.run_bind, run_underlying h1, run_underlying h2, run_underlying h3, Result.andThen_ok, Conv.stringToBytes, run_choose, Question.forced, Bool.false_eq_true, if_false, newRow, run_newObj, Sem.run_pure, World.alloc_eq, World.drew_eq, markStringish, run_shape]
    have hsh : (w.drew.alloc (.cells ((b.data.map byV) ++ Array.replicate (Question.cut (.appendCap b.size 0 e) (w.tape w.drawn (.appendCap b.size 0 e)) - b.size) (.int .u8 0)) e)).shape? w.heap.size = some (e, ((b.data.map byV) ++ Array.replicate (Question.cut (.appendCap b.size 0 e) (w.tape w.drawn (.appendCap b.size 0 e)) - b.size) (Value.int .u8 0)).size) := by
      unfold World.shape?
      have := heap_alloc_new w.drew (.cells ((b.data.map byV) ++ Array.replicate (Question.cut (.appendCap b.size 0 e) (w.tape w.drawn (.appendCap b.size 0 e)) - b.size) (.int .u8 0)) e)
      rw [show w.drew.heap.size = w.heap.size from rfl] at this
      rw [this]
    have hsz : w.drew.heap.size = w.heap.size := rfl
    simp only [hsz]
    rw [show (b.data.map fun b => Value.int .u8 b.toNat) = b.data.map byV from rfl, hsh]
    rfl
  have hev : Ev no w ((w.drew.alloc (.cells ((b.data.map byV) ++ Array.replicate (cap - b.size) (.int .u8 0)) e)).freeze ⟨w.heap.size, ((b.data.map byV) ++ Array.replicate (cap - b.size) (Value.int .u8 0)).size, none⟩ 1) := by
    refine (((Ev.drew w).trans (Ev.alloc w.drew _)).then (Ev.freeze _ _ _) fun i hi h => ?_)
    simp only [at1] at h
    omega
  have hrun' : (execOp (ev n fc) o).run P w = .ok (.value (.slice (some ⟨w.heap.size, 0, none⟩) b.size cap)) ((w.drew.alloc (.cells ((b.data.map byV) ++ Array.replicate (cap - b.size) (.int .u8 0)) e)).freeze ⟨w.heap.size, ((b.data.map byV) ++ Array.replicate (cap - b.size) (Value.int .u8 0)).size, none⟩ 1) := by
    unfold execOp
    simp only [ho, Sem.run_bind, Sem.run_pure, rep_v hxv, hrun, Result.andThen_ok]
  rw [hrun']
  refine ⟨_, _, Su, ⟨rfl, rfl⟩, ?_, hh.ev hev (fun b _ h => h.elim (fun h => h.elim) id) (fun _ _ h => h), hev.no, fun b hb => .inl hb⟩
  unfold Rep
  unfold bytesD
  unfold DRep
  refine ⟨some ⟨w.heap.size, 0, none⟩, cap, by simp, by simpa using hcap, by simp [eB], fun hne => ⟨_, rfl, ?_, ?_, SRep.flat.2 ?_⟩⟩
  · rintro (h | h)
    · have := hh.lt _ h; simp at this
    · have := hY _ h; simp at this
  · have := hev.size
    simp only [World.freeze] 
    split <;> simp
  · rw [flat_eB]
    refine LRep.mk fun j d hj => ?_
    rw [List.getElem?_map] at hj
    obtain ⟨u, hu, rfl⟩ := Option.map_eq_some_iff.1 hj
    have hlt := (List.getElem?_eq_some_iff.1 hu).1
    refine ⟨byV u, ?_, by unfold DRep; exact ⟨rfl, rfl⟩⟩
    rw [Nat.zero_add, cell_freeze, add_plain]
    have hd : w.heap.size = w.drew.heap.size := rfl
    rw [hd, World.cell?_alloc_new]
    rw [Array.getElem?_append_left (by simpa using hlt)]
    rw [Array.getElem?_map]
    rw [Array.getElem?_toList] at hu
    rw [hu]
    rfl

end
end Go.Proofs.Ytepjnmocepkfjaa.A
