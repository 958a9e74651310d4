import Derived.Test.YtjcolfogmmjaoaaGreatDoorQDecodeUnknown3
section
set_option linter.unusedVariables false
set_option linter.unusedSimpArgs false
namespace Go.Proofs.YtjcolfogmmjaoaaGreatDoor.A
open V
section
variable {P : Program} {L : List TD} {Z : List (List Value)} {n : Nat} {Q : Exit → Act → World → Prop} {c : Ctx}
variable {s : AMS} {f f' : AEnv} {σ σ' : Store} {ob : Obs} {κ : List Kt} {all : Array Oper} {dec : List Nat} {o : Oper} {al : Bool} {rest : List (Oper × Bool)} {m : Mode}
theorem holds_new {Y Su : Nat → Prop} {w : World} {σ : Store} {t : TypeId} {cs : List AV} {xs : List Value} (k : Nat) (hY : ∀ b, Y b → b < w.heap.size) (hh : Holds (or2 Su Y) w σ Su) (hr : Reps (or2 Su Y) w cs xs) (h1 : ∀ u ∈ xs, u.oneCell' = true) :
    Holds (or2 (or2 (at1 w.heap.size) Su) Y) (w.alloc (.cells xs.toArray t)) ((k, .blk w.heap.size t cs) :: σ) (or2 (at1 w.heap.size) Su) ∧ Ev Su w (w.alloc (.cells xs.toArray t)) ∧ ∀ b, or2 (at1 w.heap.size) Su b → Su b ∨ w.heap.size ≤ b := by
  have hev : Ev no w (w.alloc (.cells xs.toArray t)) := Ev.alloc w _
  have hm : ∀ b, b < w.heap.size → no b ∨ or2 (or2 (at1 w.heap.size) Su) Y b → or2 Su Y b := fun b hb h => by
    rcases h with h | (h | h) | h
    · exact h.elim
    · simp only [at1] at h; omega
    · exact .inl h
    · exact .inr h
  refine ⟨⟨at1 w.heap.size, Su, fun b => Iff.rfl, fun b hb h => ?_, ⟨fun b => Iff.rfl, xs, Blk.new w t xs, hr.ev hev hm, h1⟩, hh.ev hev hm fun _ _ h => h⟩, hev.no, fun b h => h.elim (fun h => .inr (by simp only [at1] at h; omega)) .inl⟩
  simp only [at1] at hb
  have := hh.lt b h
  omega
theorem a_box (hT : TOk P L) (k : Nat) {t : TypeId} {x : Operand} {cs : List AV} (h : machA L n fuel s f σ [] = ⟨.op m κ all dec o true rest, f', σ', ob⟩) (hob : ob.map (·.1) = ob.map (·.2)) (ho : o.op = .box t x) (hc : cellsOf1 (evA n f' x) = some cs)
    (hk : ∀ g, DenA c P n Q (.ops (m.hap true) κ all dec rest) (putA f' o.dst (.v (.pointer (some ⟨g, 0, none⟩)) k)) ((k, .blk g t cs) :: σ')) : DenA c P n Q s f σ := by
  refine a_eff hT (fun a σ1 => ∃ g, a = .v (.pointer (some ⟨g, 0, none⟩)) k ∧ σ1 = (k, .blk g t cs) :: σ') h hob (fun Y Su w fc hd hY hh he => ?_) (fun a σ1 ⟨g, ha, hs⟩ => by subst ha; subst hs; exact hk g)
  obtain ⟨hr, h1⟩ := cellsOf1_rep hc (he.eval (n := n) x)
  have hrun : (execOp (ev n fc) o).run P w = .ok (.value (.pointer (some ⟨w.heap.size, 0, none⟩))) (w.alloc (.cells (ev n fc x).cells t)) := by simp [execOp, ho, Instr.box, newVar, newRow]
  rw [hrun]
  obtain ⟨k1, k2, k3⟩ := holds_new (t := t) k hY hh hr h1
  simp only [Array.toArray_toList] at k1 k2
  exact ⟨_, _, _, ⟨_, rfl, rfl⟩, mk_v, k1, k2, k3⟩
theorem a_new (hT : TOk P L) (hZ : ZOk P Z) (k : Nat) {t : TypeId} {z : Value} {zs : List Value} (h : machA L n fuel s f σ [] = ⟨.op m κ all dec o true rest, f', σ', ob⟩) (hob : ob.map (·.1) = ob.map (·.2)) (ho : o.op = .alloc t) (hz : zt Z t = z :: zs)
    (hk : ∀ g, DenA c P n Q (.ops (m.hap true) κ all dec rest) (putA f' o.dst (.v (.pointer (some ⟨g, 0, none⟩)) k)) ((k, .blk g t (avs (z :: zs))) :: σ')) : DenA c P n Q s f σ := by
  refine a_eff hT (fun a σ1 => ∃ g, a = .v (.pointer (some ⟨g, 0, none⟩)) k ∧ σ1 = (k, .blk g t (avs (z :: zs))) :: σ') h hob (fun Y Su w fc hd hY hh he => ?_) (fun a σ1 ⟨g, ha, hs⟩ => by subst ha; subst hs; exact hk g)
  obtain ⟨i, v, hi, hiz, hcs, h1⟩ := hZ.spec hz
  have hrun : (execOp (ev n fc) o).run P w = .ok (.value (.pointer (some ⟨w.heap.size, 0, none⟩))) (w.alloc (.cells v.cells t)) := by simp [execOp, ho, Instr.alloc, newVar, newRow, zeroValue, typeInfo, hi, hiz]
  rw [hrun]
  obtain ⟨k1, k2, k3⟩ := holds_new (t := t) k hY hh (reps_vs (M := or2 Su Y) (w := w) (z :: zs)) (ones_spec h1)
  have e : v.cells = (z :: zs).toArray := by rw [← hcs]
  rw [e]
  exact ⟨_, _, _, ⟨_, rfl, rfl⟩, mk_v, k1, k2, k3⟩
theorem own_lower {w : World} {base base' e k : Nat} {v : Value} {m : Nat} {xs : List Value} (h : w.ownsRow base e k v m xs) (hb : base' ≤ base) : w.ownsRow base' e k v m xs := by
  obtain ⟨hl, ho⟩ := h
  refine ⟨hl, ?_⟩
  rcases ho with ho | ⟨g, cap, cur, e1, e2, r⟩
  · exact .inl ho
  · exact .inr ⟨g, cap, cur, e1, by omega, r⟩
theorem holds_row {Y Su : Nat → Prop} {w w1 : World} {σ : Store} {e : TypeId} {k : Nat} {es : List (List Dat)} {x : Value} {xs : List Value} (kn : Nat) (hY : ∀ b, Y b → b < w.heap.size) (hh : Holds (or2 Su Y) w σ Su) (hev : Ev no w w1) (hk : ∀ e' ∈ es, e'.length = k)
    (ho : w1.ownsRow w.heap.size e k x es.length xs) (hv : VRep (or2 Su Y) w es.flatten xs) :
    Holds (or2 (or2 (V.ob x) Su) Y) w1 ((kn, .row x e k es) :: σ) (or2 (V.ob x) Su) ∧ Ev Su w w1 ∧ (∀ b, or2 (V.ob x) Su b → Su b ∨ w.heap.size ≤ b) ∧ x.oneCell' = true := by
  have hlt := ho.lt
  have hm : ∀ b, b < w.heap.size → no b ∨ or2 (or2 (V.ob x) Su) Y b → or2 Su Y b := fun b hb h => by
    rcases h with h | (h | h) | h
    · exact h.elim
    · have := (hlt b h).1; omega
    · exact .inl h
    · exact .inr h
  refine ⟨⟨V.ob x, Su, fun b => Iff.rfl, fun b hb h => ?_, ⟨fun b => Iff.rfl, hk, xs, own_lower ho (Nat.zero_le _), hv.ev hev hm⟩, hh.ev hev hm fun _ _ h => h⟩, hev.no, fun b h => h.elim (fun h => .inr (hlt b h).1) .inl, ?_⟩
  · have := (hlt b hb).1
    have := hh.lt b h
    omega
  · rcases ho.2 with ⟨rfl, _⟩ | ⟨g, cap, cur, rfl, _⟩ <;> rfl
def litK (k : Nat) : Nat → List (Nat × AV) → Option (List (List Dat))
  | _, [] => some []
  | i, (j, a) :: l => match Nat.beq j i, cellsOf1 a with
    | true, some cs => match Nat.beq cs.length k, datsK cs with
      | true, some ds => match litK k (i + 1) l with
        | some r => some (ds :: r)
        | none => none
      | _, _ => none
    | _, _ => none
theorem lit_fill {P : Program} {k : Nat} : ∀ (vs : List (List Value)) (i : Nat) (ps : List (Nat × Value)) (cs : List Value), (∀ e ∈ vs, e.length = k) → (i + vs.length) * k ≤ cs.length → ps.map (·.1) = (List.range' i vs.length) → ps.map (fun p => p.2.cells.toList) = vs →
    Instr.fill (fun i => some (i * k, k)) cs.toArray ps = some (cs.take (i * k) ++ vs.flatten ++ cs.drop ((i + vs.length) * k)).toArray
  | [], i, ps, cs, hl, hle, h1, h2 => by
    have : ps = [] := by cases ps with | nil => rfl | cons p ps => simp at h2
    subst this
    simp [Instr.fill]
  | v :: vs, i, [], cs, hl, hle, h1, h2 => by simp at h2
  | v :: vs, i, (j, x) :: ps, cs, hl, hle, h1, h2 => by
    simp only [List.map_cons, List.length_cons, List.range'_succ, List.cons.injEq] at h1 h2
    obtain ⟨rfl, h1⟩ := h1
    obtain ⟨rfl, h2⟩ := h2
    have hx := hl x.cells.toList (by simp)
    simp only [List.length_cons] at hle
    rw [show j + (vs.length + 1) = (j + 1) + vs.length by omega] at hle
    have hle1 : (j + 1) * k ≤ cs.length := Nat.le_trans (Nat.mul_le_mul_right k (Nat.le_add_right _ _)) hle
    have hsz : x.cells.size = k := by simpa using hx
    have hfit : j * k + k ≤ cs.length := by rw [Nat.succ_mul] at hle1; exact hle1
    unfold Instr.fill
    simp only
    rw [if_neg (by simp [hsz]; omega)]
    have h0 := bld_fold (j * k) x.cells.toList cs (by rw [hx]; exact hfit)
    simp only [Array.toArray_toList] at h0
    rw [h0, lit_fill (P := P) vs (j + 1) ps _ (fun e he => hl e (by simp [he])) (by simp [hsz]; omega) h1 h2]
    congr 2
    rw [hx]
    have e1 : (j + 1) * k = j * k + k := Nat.succ_mul j k
    have hA : (cs.take (j * k)).length = j * k := by simp; omega
    have hAB : (cs.take (j * k) ++ x.cells.toList).length = (j + 1) * k := by rw [List.length_append, hA, hx, e1]
    rw [List.take_append_of_le_length (by rw [hAB]; omega), List.take_of_length_le (by rw [hAB]; omega)]
    rw [List.drop_append, List.drop_eq_nil_of_le (by rw [hAB]; exact Nat.mul_le_mul_right k (by omega)), hAB, List.drop_drop]
    simp only [List.nil_append, List.flatten_cons, List.append_assoc, List.length_cons]
    congr 4
    have : (j + 1) * k ≤ (j + 1 + vs.length) * k := Nat.mul_le_mul_right k (by omega)
    rw [show j + (vs.length + 1) = j + 1 + vs.length by omega]
    omega
theorem litK_rep {M : Nat → Prop} {w : World} {k : Nat} : ∀ {l : List (Nat × AV)} {vs : List (Nat × Value)} {i : Nat} {es : List (List Dat)}, litK k i l = some es → vs.map (·.1) = l.map (·.1) → Reps M w (l.map (·.2)) (vs.map (·.2)) →
    vs.map (·.1) = List.range' i es.length ∧ (∀ e ∈ es, e.length = k) ∧ (vs.map fun p => p.2.cells.toList).length = es.length ∧ (∀ e ∈ (vs.map fun p => p.2.cells.toList), e.length = k) ∧ VRep M w es.flatten (vs.map fun p => p.2.cells.toList).flatten
  | [], vs, i, es, h, hi, hr => by
    simp [litK] at h
    subst h
    simp at hi
    subst hi
    exact ⟨rfl, by simp, rfl, by simp, VRep.nil⟩
  | (j, a) :: l, [], i, es, h, hi, hr => by simp at hi
  | (j, a) :: l, (j', v) :: vs, i, es, h, hi, hr => by
    simp only [List.map_cons, List.cons.injEq] at hi
    obtain ⟨rfl, hi⟩ := hi
    simp only [List.map_cons] at hr
    unfold Reps at hr
    obtain ⟨y, r, e, hra, hr⟩ := hr
    simp only [List.cons.injEq] at e
    obtain ⟨rfl, rfl⟩ := e
    unfold litK at h
    split at h
    · rename_i cs hj hc
      split at h
      · rename_i ds hb hd
        split at h
        · rename_i es' hes
          simp at h
          subst h
          obtain ⟨h1, h2, h3, h4, h5⟩ := litK_rep hes hi hr
          obtain ⟨hrc, h1c⟩ := cellsOf1_rep hc hra
          have hv := datsK_rep hd hrc
          have hlen := hrc.len
          have hb' := Nat.eq_of_beq_eq_true hb
          have hl := hv.len
          have hj' := Nat.eq_of_beq_eq_true hj
          subst hj'
          refine ⟨by simp [List.range'_succ, h1], ?_, by simpa using h3, ?_, by simpa using hv.app h5⟩
          · intro e he
            rcases List.mem_cons.1 he with rfl | he
            · omega
            · exact h2 e he
          · intro e he
            simp only [List.map_cons] at he
            rcases List.mem_cons.1 he with rfl | he
            · omega
            · exact h4 e he
        · cases h
      · cases h
    · cases h
theorem a_lit (hT : TOk P L) (kn : Nat) {t e : TypeId} {k mm : Nat} {ps : Array (Nat × Operand)} {es : List (List Dat)} (h : machA L n fuel s f σ [] = ⟨.op m κ all dec o true rest, f', σ', ob⟩) (hob : ob.map (·.1) = ob.map (·.2)) (ho : o.op = .buildSlice t mm ps) (ht : tl L t = .sl e k) (hel : elemOk P e k = true)
    (hl : litK k 0 (ps.toList.map fun p => (p.1, evA n f' p.2)) = some es) (hm : Nat.beq es.length mm = true) (hsz : Nat.ble (mm * k) 16000000 = true) (hmx : Nat.ble mm 1000000 = true)
    (hk : ∀ x, DenA c P n Q (.ops (m.hap true) κ all dec rest) (putA f' o.dst (.row x kn)) ((kn, .row x e k es) :: σ')) : DenA c P n Q s f σ := by
  refine a_eff hT (fun a σ1 => ∃ x, a = .row x kn ∧ σ1 = (kn, .row x e k es) :: σ') h hob (fun Y Su w fc hd hY hh he => ?_) (fun a σ1 ⟨g, ha, hs⟩ => by subst ha; subst hs; exact hk g)
  have hm' := Nat.eq_of_beq_eq_true hm
  have hsz' := Nat.le_of_ble_eq_true hsz
  have hmx' := Nat.le_of_ble_eq_true hmx
  subst hm'
  have hT1 := sl_tl hT ht
  obtain ⟨i, z, hi, hisz, hby, hk0, hz, hzk⟩ := elemOk_spec hel
  have hrep : ∀ l : List (Nat × Operand), Reps (or2 Su Y) w (l.map fun p => evA n f' p.2) (l.map fun p => ev n fc p.2) := fun l => by
    induction l with
    | nil => exact Reps.nil
    | cons p l ih => exact Reps.cons (he.eval p.2) ih
  obtain ⟨h1, h2, h3, h4, h5⟩ := litK_rep (M := or2 Su Y) (w := w) (vs := ps.toList.map fun p => (p.1, ev n fc p.2)) hl (by simp) (by rw [List.map_map, List.map_map]; exact hrep ps.toList)
  have hfill : ∀ cs : Array Value, cs.size = es.length * k → Instr.fill (fun i => some (i * k, k)) cs (ps.map fun p => (p.1, ev n fc p.2)).toList = some ((ps.toList.map fun p => (p.1, ev n fc p.2)).map fun p => p.2.cells.toList).flatten.toArray := by
    intro cs hcs
    have := lit_fill (P := P) (k := k) ((ps.toList.map fun p => (p.1, ev n fc p.2)).map fun p => p.2.cells.toList) 0 (ps.toList.map fun p => (p.1, ev n fc p.2)) cs.toList h4 (by rw [h3]; simp [hcs]) (by rw [h1, h3]) rfl
    simp only [Array.toArray_toList] at this
    rw [Array.toList_map, this]
    congr 2
    rw [h3]
    simp [hcs]
  have hflen : ((ps.toList.map fun p => (p.1, ev n fc p.2)).map fun p => p.2.cells.toList).flatten.length = es.length * k := by
    rw [h5.len]
    have : ∀ l : List (List Dat), (∀ e ∈ l, e.length = k) → l.flatten.length = l.length * k := by
      intro l
      induction l with
      | nil => intro _; simp
      | cons e l ih => intro hl; rw [List.flatten_cons, List.length_append, hl e (by simp), ih fun e' h' => hl e' (by simp [h']), List.length_cons, Nat.succ_mul]; omega
    exact this es h2
  have hrun : (execOp (ev n fc) o).run P w = .ok (.value (.slice (some ⟨w.heap.size, 0, none⟩) es.length es.length)) (w.alloc (.cells ((ps.toList.map fun p => (p.1, ev n fc p.2)).map fun p => p.2.cells.toList).flatten.toArray e)) := by
    unfold execOp
    simp only [ho, Sem.run_bind, Sem.run_pure]
    unfold Instr.buildSlice
    simp only [Sem.run_bind, run_underlying hT1.1, Result.andThen_ok, run_sizeOf' hT1.2.1, hT1.2.2]
    rw [if_neg (by omega)]
    by_cases h0 : es.length * k = 0
    · simp only [h0, if_true, Sem.run_pure, Sem.run_bind, Result.andThen_ok]
      rw [hfill _ (by simp [h0])]
      simp [newRow]
    · simp only [h0, if_false, zeroValue, typeInfo, Sem.run_pure, Sem.run_bind, run_program, hi, hz, Result.andThen_ok]
      rw [hfill _ (by simp)]
      simp [newRow]
  rw [hrun]
  have hown := World.ownsRow_lit (base := w.heap.size) (e := e) (size := k) w ((ps.toList.map fun p => (p.1, ev n fc p.2)).map fun p => p.2.cells.toList).flatten.toArray es.length (Nat.le_refl _) (by unfold maxLen; omega) (by simpa using hflen)
  obtain ⟨k1, k2, k3, k4⟩ := holds_row kn hY hh (Ev.alloc w _) h2 hown (by simpa using h5)
  exact ⟨_, _, _, ⟨_, rfl, rfl⟩, by unfold Rep; exact ⟨rfl, k4⟩, k1, k2, k3⟩
def srcK (σ : Store) (k : Nat) : AV → Option (List (List Dat) × Obs)
  | .d (.sl k' es) => match Nat.beq k' k with | true => some (es, []) | false => none
  | .v (.slice none 0 0) _ => some ([], [])
  | .row x h => match look σ h with
    | some (.row x' _ k' es) => match Nat.beq k' k with | true => some (es, [(x, x')]) | false => none
    | _ => none
  | _ => none
theorem srcK_rep {Y Su : Nat → Prop} {w : World} {σ : Store} {k : Nat} {a : AV} {es : List (List Dat)} {obs : Obs} {v : Value} (h : srcK σ k a = some (es, obs)) (hob : OT obs) (hr : Rep (or2 Su Y) w a v) (hh : Holds (or2 Su Y) w σ Su) :
    ∃ A c news, v = .slice A es.length c ∧ (∀ e ∈ es, e.length = k) ∧ VRep (or2 Su Y) w es.flatten news ∧ (news ≠ [] → ∃ ad, A = some ad ∧ Cells w ad news) := by
  cases a with
  | d x =>
    cases x <;> try (simp [srcK] at h; done)
    rename_i k' es'
    simp only [srcK] at h
    split at h
    case h_2 => cases h
    rename_i hb
    have hb' := Nat.eq_of_beq_eq_true hb
    subst hb'
    simp at h
    obtain ⟨rfl, rfl⟩ := h
    unfold Rep at hr
    unfold DRep at hr
    obtain ⟨A, cap, rfl, hc, hlen, hr⟩ := hr
    by_cases hne : es' = []
    · subst hne
      exact ⟨A, cap, [], rfl, by simp, VRep.nil, by simp⟩
    · obtain ⟨ad, rfl, hM, hb, hS⟩ := hr hne
      obtain ⟨xs, hv, hcells, _⟩ := (SRep.flat.1 hS).vals
      rw [show ad.add 0 = ad by unfold Addr.add; simp] at hcells
      exact ⟨some ad, cap, xs, rfl, hlen, hv, fun _ => ⟨ad, rfl, hcells⟩⟩
  | v x hx =>
    have hnil : x = .slice none 0 0 ∧ es = [] ∧ obs = [] := by
      cases x <;> try (simp [srcK] at h; done)
      rename_i a l cp
      cases a <;> cases l <;> cases cp <;> simp [srcK] at h
      exact ⟨rfl, h.1, h.2⟩
    obtain ⟨rfl, rfl, rfl⟩ := hnil
    unfold Rep at hr
    subst hr
    exact ⟨none, 0, [], rfl, by simp, VRep.nil, by simp⟩
  | row x hx =>
    simp only [srcK] at h
    split at h
    · rename_i x' e' k' es' hl
      split at h
      · rename_i hb
        simp at h
        obtain ⟨rfl, rfl⟩ := h
        have hb' := Nat.eq_of_beq_eq_true hb
        subst hb'
        have e := hob (x, x') (by simp)
        simp only at e
        subst e
        obtain ⟨S1, S2, hS, hd, hc, _⟩ := hh.take hl
        obtain ⟨hS1, hk, xs, ho, hv⟩ := hc
        unfold Rep at hr
        rcases ho.2 with ⟨h1, h2⟩ | ⟨g, cap, cur, h1, _⟩
        · have : es' = [] := List.eq_nil_of_length_eq_zero h2
          subst this
          exact ⟨none, 0, [], by rw [hr.1, h1]; rfl, by simp, VRep.nil, by simp⟩
        · exact ⟨_, cap, xs, by rw [hr.1, h1], hk, hv, fun _ => ⟨_, rfl, fun j u hu => ho.cells (g := g) (by rw [h1]; rfl) j u hu⟩⟩
      · cases h
    · cases h
  | _ => simp [srcK] at h
theorem a_app (hT : TOk P L) (kn : Nat) {t e : TypeId} {k k0 : Nat} {x y : Operand} {v v' : Value} {es es2 : List (List Dat)} {ob2 : Obs} (es' : List (List Dat)) (h : machA L n fuel s f σ [] = ⟨.op m κ all dec o true rest, f', σ', ob⟩) (hob : ob.map (·.1) = ob.map (·.2)) (ho : o.op = .call ⟨.builtin .append, #[x, y], #[t, t]⟩) (ht : tl L t = .sl e k) (hel : elemOk P e k = true)
    (hx : evA n f' x = .row v k0) (hl : look σ' k0 = some (.row v' e k es)) (hvv : v = v') (hy : srcK σ' k (evA n f' y) = some (es2, ob2)) (hob2 : ob2.map (·.1) = ob2.map (·.2)) (hes : es ++ es2 = es') (hlim : es.length + es2.length ≤ lim)
    (hk : ∀ x, DenA c P n Q (.ops (m.hap true) κ all dec rest) (putA f' o.dst (.row x kn)) ((kn, .row x e k es') :: del σ' k0)) : DenA c P n Q s f σ := by
  subst hvv
  subst hes
  refine a_eff hT (fun a σ1 => ∃ x, a = .row x kn ∧ σ1 = (kn, .row x e k (es ++ es2)) :: del σ' k0) h hob (fun Y Su w fc hd hY hh he => ?_) (fun a σ1 ⟨g, ha, hs⟩ => by subst ha; subst hs; exact hk g)
  obtain ⟨S1, S2, hS, hdis, hc, hrest⟩ := hh.take hl
  obtain ⟨hS1, hkl, xs, hown, hv⟩ := hc
  obtain ⟨A, cap, news, hyv, hkl2, hv2, hcells⟩ := srcK_rep hy (OT.of hob2) (he.eval (n := n) y) hh
  have hxv := he.eval (n := n) x
  rw [hx] at hxv
  unfold Rep at hxv
  have hnl : news.length = es2.length * k := by
    rw [hv2.len]
    have : ∀ l : List (List Dat), (∀ e ∈ l, e.length = k) → l.flatten.length = l.length * k := by
      intro l
      induction l with
      | nil => intro _; simp
      | cons e l ih => intro hl; rw [List.flatten_cons, List.length_append, hl e (by simp), ih fun e' h' => hl e' (by simp [h']), List.length_cons, Nat.succ_mul]; omega
    exact this es2 hkl2
  obtain ⟨v', w', hrun, h1, h2, h3⟩ := run_appendR (P := P) (ty := o.type) (c := cap) (sl_tl hT ht).1 hel hown (Nat.zero_le _) hnl hcells hv2.one hlim
  have hrun' : (execOp (ev n fc) o).run P w = .ok (.value v') w' := by
    unfold execOp
    simp only [ho, resolve, invoke, builtin, Sem.run_bind, Sem.run_pure, Result.andThen_ok, List.map_toArray, List.map_cons, List.map_nil, hxv.1, hyv, hrun]
  rw [hrun']
  have hev : Ev Su w w' := h2.mono fun b _ hb => (hS b).2 (.inl ((hS1 b).2 hb))
  have hsub : ∀ b, or2 (V.ob v') S2 b → Su b ∨ w.heap.size ≤ b := fun b h => by
    rcases h with h | h
    · exact (h3 b h).imp (fun h => (hS b).2 (.inl ((hS1 b).2 h))) id
    · exact .inl ((hS b).2 (.inr h))
  have hm : ∀ b, b < w.heap.size → V.ob v b ∨ or2 (or2 (V.ob v') S2) Y b → or2 Su Y b := fun b hb h => by
    rcases h with h | h | h
    · exact .inl ((hS b).2 (.inl ((hS1 b).2 h)))
    · rcases hsub b h with h | h
      · exact .inl h
      · omega
    · exact .inr h
  refine ⟨_, _, or2 (V.ob v') S2, ⟨v', rfl, rfl⟩, ?_, ⟨V.ob v', S2, fun b => Iff.rfl, fun b hb h => ?_, ⟨fun b => Iff.rfl, ?_, _, by simpa using h1, ?_⟩, hrest.ev h2 hm fun b hb h => hdis b ((hS1 b).2 h) hb⟩, hev, hsub⟩
  · unfold Rep
    refine ⟨rfl, ?_⟩
    rcases h1.2 with ⟨rfl, _⟩ | ⟨g, cap, cur, rfl, _⟩ <;> rfl
  · rcases h3 b hb with h' | h'
    · exact hdis b ((hS1 b).2 h') h
    · have := hrest.lt b h; omega
  · intro e' he'
    rcases List.mem_append.1 he' with he' | he'
    · exact hkl e' he'
    · exact hkl2 e' he'
  · rw [List.flatten_append]
    exact (hv.app hv2).ev h2 hm
def eB (b : UInt8) : List Dat := [.v (byV b)]
def bytesD (l : List UInt8) : Dat := .sl 1 (l.map eB)
theorem flat_eB (l : List UInt8) : (l.map eB).flatten = l.map fun b => .v (byV b) := by
  induction l with
  | nil => rfl
  | cons b l ih => simp [eB, ih]
theorem vals_byV {M : Nat → Prop} {w : World} : ∀ {l : List UInt8} {xs : List Value}, VRep M w (l.map fun b => .v (byV b)) xs → xs = l.map byV
  | [], xs, h => by unfold VRep at h; exact h
  | b :: l, xs, h => by
    simp only [List.map_cons] at h
    unfold VRep at h
    obtain ⟨x, r, rfl, h1, h2⟩ := h
    unfold DRep at h1
    rw [h1.1, vals_byV h2]; rfl
theorem run_str {P : Program} {w : World} {src dst e : TypeId} {l : List UInt8} {A : Option Addr} {cap : Nat} (hs : P.underlying src = some (.slice e)) (he : P.underlying e = some (.int .u8)) (hd : P.underlying dst = some .string) (hr : l.map byV ≠ [] → ∃ ad, A = some ad ∧ Cells w ad (l.map byV)) :
    (convert src dst (.slice A l.length cap)).run P w = .ok (.string ⟨l.toArray⟩) w := by
  have hconv : (convert src dst (.slice A l.length cap)).run P w = (Conv.bytesToString (.slice A l.length cap)).run P w := by
    simp [convert, underlying, hs, hd, he]
  rw [hconv]
  cases A with
  | none =>
    have : l = [] := by
      cases l with
      | nil => rfl
      | cons b l => obtain ⟨ad, h, _⟩ := hr (by simp); cases h
    subst this
    simp [Conv.bytesToString]
    rfl
  | some ad =>
    have hcells : Cells w ad (l.map byV) := by
      by_cases hne : l = []
      · subst hne; intro j v hv; simp at hv
      · obtain ⟨ad', e, h⟩ := hr (by simpa using hne); cases e; exact h
    have hl := run_loadCells_list (P := P) (w := w) ad (l.map byV) hcells
    simp only [List.length_map] at hl
    unfold Conv.bytesToString
    simp only [Sem.run_bind, hl, Result.andThen_ok, List.forIn_toArray]
    rw [run_pushes (P := P) (w := w) _ (fun b r => by simp [byV]) l .empty]
    simp [ByteArray.empty, ByteArray.emptyWithCapacity]
    rfl
theorem a_str (hT : TOk P L) {src dst e : TypeId} {x : Operand} {l : List UInt8} {ob2 : Obs} (h : machA L n fuel s f σ [] = ⟨.op m κ all dec o true rest, f', σ', ob⟩) (hob : ob.map (·.1) = ob.map (·.2)) (ho : o.op = .convert src dst x) (hs : tl L src = .sl e 1) (he : tl L e = .int .u8) (hd : tl L dst = .str)
    (hy : srcK σ' 1 (evA n f' x) = some (l.map eB, ob2)) (hob2 : ob2.map (·.1) = ob2.map (·.2)) (hk : DenA c P n Q (.ops (m.hap true) κ all dec rest) (putA f' o.dst (.v (.string ⟨l.toArray⟩) 0)) σ') : DenA c P n Q s f σ := by
  refine a_eff hT (fun a σ1 => a = .v (.string ⟨l.toArray⟩) 0 ∧ σ1 = σ') h hob (fun Y Su w fc hdd hY hh henv => ?_) (fun a σ1 ⟨ha, hs⟩ => by subst ha; subst hs; exact hk)
  obtain ⟨A, cap, news, hyv, hkl2, hv2, hcells⟩ := srcK_rep hy (OT.of hob2) (henv.eval (n := n) x) hh
  rw [flat_eB] at hv2
  have := vals_byV hv2
  subst this
  have hrun : (execOp (ev n fc) o).run P w = .ok (.value (.string ⟨l.toArray⟩)) w := by
    unfold execOp
    simp only [List.length_map] at hyv
    simp only [ho, Sem.run_bind, Sem.run_pure, hyv, run_str (sl_tl hT hs).1 (int_tl hT he) (str_tl hT hd) hcells, Result.andThen_ok]
  rw [hrun]
  exact ⟨_, _, Su, ⟨rfl, rfl⟩, mk_v, hh, Ev.refl _ _, fun b hb => .inl hb⟩
theorem a_strP (hT : TOk P L) {src dst e : TypeId} {x : Operand} {l : List UInt8} {σp : Store} {ex : Ex} (h : machA L n fuel s f σ [] = ⟨.op (.reg true σp ex) κ all dec o al rest, f', σ', ob⟩) (hob : ob.map (·.1) = ob.map (·.2)) (ho : o.op = .convert src dst x) (hs : tl L src = .sl e 1) (he : tl L e = .int .u8) (hd : tl L dst = .str)
    (hy : evA n f' x = .d (bytesD l)) (hk : DenA c P n Q (.ops (.reg true σp ex) κ all dec rest) (putA f' o.dst (.v (.string ⟨l.toArray⟩) 0)) σ') : DenA c P n Q s f σ := by
  refine a_go hT h hob fun hok w S fc Sg hsat hh => ?_
  have haa : (act n fc).eval = ev n fc := funext (act_eval n fc)
  have hx := hsat.env.eval (n := n) x
  rw [hy] at hx
  unfold Rep at hx
  unfold bytesD at hx
  unfold DRep at hx
  obtain ⟨A, cap, hv, hc, hlen, hr⟩ := hx
  rw [List.length_map] at hv
  obtain ⟨ws, U, Sp, Su, hh'⟩ := id hh
  obtain ⟨rfl, hU⟩ := hh'.first rfl
  refine .inl ⟨.string ⟨l.toArray⟩, fun w' hw' => ?_, ?_⟩
  · rw [haa]
    have hsg := hh'.sg
    have hw' : Sg w' := hw'
    rw [hsg] at hw'
    have hcells : l.map byV ≠ [] → ∃ ad, A = some ad ∧ Cells w' ad (l.map byV) := by
      intro hne
      obtain ⟨ad, rfl, hM, hb, hS⟩ := hr (by simpa using hne)
      obtain ⟨xs, hvx, hcells, _⟩ := (SRep.flat.1 hS).vals
      rw [show ad.add 0 = ad by unfold Addr.add; simp] at hcells
      rw [flat_eB] at hvx
      have := vals_byV hvx
      subst this
      refine ⟨ad, rfl, fun j v hj => ?_⟩
      rw [← hcells j v hj]
      exact World.cell?_of_block (w := w) (by rw [add_block]; exact hw' ad.block hb fun hu => hM (.inl ((hh'.all _).2 (.inr (hU _ hu)))))
    unfold execOp
    simp only [ho, Sem.run_bind, Sem.run_pure, hv, run_str (sl_tl hT hs).1 (int_tl hT he) (str_tl hT hd) hcells, Result.andThen_ok]
  · rw [act_put]
    exact hk.out trivial w S (put fc o.dst _) Sg ⟨hsat.env.put o.dst mk_v, hsat.ev, hsat.sub⟩ hh
theorem a_bytes (hT : TOk P L) {src dst e : TypeId} {x : Operand} {b : ByteArray} {hh0 : Nat} (h : machA L n fuel s f σ [] = ⟨.op m κ all dec o true rest, f', σ', ob⟩) (hob : ob.map (·.1) = ob.map (·.2)) (ho : o.op = .convert src dst x) (hs : tl L src = .str) (hd : tl L dst = .sl e 1) (he : tl L e = .int .u8)
    (hx : evN n f' x = .v (.string b) hh0) (hb : b.size ≤ lim) (hk : DenA c P n Q (.ops (m.hap true) κ all dec rest) (putA f' o.dst (.d (bytesD b.data.toList))) σ') : DenA c P n Q s f σ := by
  refine a_eff hT (fun a σ1 => a = .d (bytesD b.data.toList) ∧ σ1 = σ') h hob (fun Y Su w fc hdd hY hh henv => ?_) (fun a σ1 ⟨ha, hs⟩ => by subst ha; subst hs; exact hk)
  have hxv := henv.evalN (n := n) x
  rw [hx] at hxv
  have h1 := str_tl hT hs
  have h2 := (sl_tl hT hd).1
  have h3 := int_tl hT he
  unfold lim at hb
  obtain ⟨cap, hcap, hrun⟩ : ∃ cap, b.size ≤ cap ∧ (convert src dst (.string b)).run P w = .ok (.slice (some ⟨w.heap.size, 0, none⟩) b.size cap)
      ((w.drew.alloc (.cells ((b.data.map byV) ++ Array.replicate (cap - b.size) (.int .u8 0)) e)).freeze ⟨w.heap.size, ((b.data.map byV) ++ Array.replicate (cap - b.size) (Value.int .u8 0)).size, none⟩ 1) := by
    refine ⟨Question.cut (.appendCap b.size 0 e) (w.tape w.drawn (.appendCap b.size 0 e)), by simp [Question.cut], ?_⟩
    unfold convert
    simp only [Sem.run_bind, run_underlying h1, run_underlying h2, run_underlying h3, Result.andThen_ok, Conv.stringToBytes, run_choose, Question.forced, Bool.false_eq_true, if_false, newRow, run_newObj, Sem.run_pure, World.alloc_eq, World.drew_eq, markStringish, run_shape]
    have hsh : (w.drew.alloc (.cells ((b.data.map byV) ++ Array.replicate (Question.cut (.appendCap b.size 0 e) (w.tape w.drawn (.appendCap b.size 0 e)) - b.size) (.int .u8 0)) e)).shape? w.heap.size = some (e, ((b.data.map byV) ++ Array.replicate (Question.cut (.appendCap b.size 0 e) (w.tape w.drawn (.appendCap b.size 0 e)) - b.size) (Value.int .u8 0)).size) := by
      unfold World.shape?
      have := heap_alloc_new w.drew (.cells ((b.data.map byV) ++ Array.replicate (Question.cut (.appendCap b.size 0 e) (w.tape w.drawn (.appendCap b.size 0 e)) - b.size) (.int .u8 0)) e)
      rw [show w.drew.heap.size = w.heap.size from rfl] at this
      rw [this]
    have hsz : w.drew.heap.size = w.heap.size := rfl
    simp only [hsz]
    rw [show (b.data.map fun b => Value.int .u8 b.toNat) = b.data.map byV from rfl, hsh]
    rfl
  have hev : Ev no w ((w.drew.alloc (.cells ((b.data.map byV) ++ Array.replicate (cap - b.size) (.int .u8 0)) e)).freeze ⟨w.heap.size, ((b.data.map byV) ++ Array.replicate (cap - b.size) (Value.int .u8 0)).size, none⟩ 1) := by
    refine (((Ev.drew w).trans (Ev.alloc w.drew _)).then (Ev.freeze _ _ _) fun i hi h => ?_)
    simp only [at1] at h
    omega
  have hrun' : (execOp (ev n fc) o).run P w = .ok (.value (.slice (some ⟨w.heap.size, 0, none⟩) b.size cap)) ((w.drew.alloc (.cells ((b.data.map byV) ++ Array.replicate (cap - b.size) (.int .u8 0)) e)).freeze ⟨w.heap.size, ((b.data.map byV) ++ Array.replicate (cap - b.size) (Value.int .u8 0)).size, none⟩ 1) := by
    unfold execOp
    simp only [ho, Sem.run_bind, Sem.run_pure, rep_v hxv, hrun, Result.andThen_ok]
  rw [hrun']
  refine ⟨_, _, Su, ⟨rfl, rfl⟩, ?_, hh.ev hev (fun b _ h => h.elim (fun h => h.elim) id) (fun _ _ h => h), hev.no, fun b hb => .inl hb⟩
  unfold Rep
  unfold bytesD
  unfold DRep
  refine ⟨some ⟨w.heap.size, 0, none⟩, cap, by simp, by simpa using hcap, by simp [eB], fun hne => ⟨_, rfl, ?_, ?_, SRep.flat.2 ?_⟩⟩
  · rintro (h | h)
    · have := hh.lt _ h; simp at this
    · have := hY _ h; simp at this
  · have := hev.size
    simp only [World.freeze]
    split <;> simp
  · rw [flat_eB]
    refine LRep.mk fun j d hj => ?_
    rw [List.getElem?_map] at hj
    obtain ⟨u, hu, rfl⟩ := Option.map_eq_some_iff.1 hj
    have hlt := (List.getElem?_eq_some_iff.1 hu).1
    refine ⟨byV u, ?_, by unfold DRep; exact ⟨rfl, rfl⟩⟩
    rw [Nat.zero_add, cell_freeze, add_plain]
    have hd : w.heap.size = w.drew.heap.size := rfl
    rw [hd, World.cell?_alloc_new]
    rw [Array.getElem?_append_left (by simpa using hlt)]
    rw [Array.getElem?_map]
    rw [Array.getElem?_toList] at hu
    rw [hu]
    rfl
end
end Go.Proofs.YtjcolfogmmjaoaaGreatDoor.A
end

section
set_option linter.unusedVariables false
set_option linter.unusedSimpArgs false
namespace Go.Proofs.YtjcolfogmmjaoaaGreatDoor.A
open V
section
variable {P : Program} {L : List TD} {Z : List (List Value)} {n : Nat} {Q : Exit → Act → World → Prop} {c : Ctx}
variable {s : AMS} {f f' : AEnv} {σ σ' : Store} {ob : Obs} {κ : List Kt} {all : Array Oper} {dec : List Nat} {o : Oper} {al : Bool} {rest : List (Oper × Bool)} {m : Mode}
theorem call_does {Y Su : Nat → Prop} {w : World} {g : FuncId} {args : List AV} {cs : List Chunk} {σr : Store} {R : AV → List Chunk → Prop} {ks ks' : List Nat} {xs : List Value} (spec : FSpec P g args cs R) (hY : ∀ b, Y b → b < w.heap.size) (hd : ∀ b, Su b → ¬ Y b)
    (hh : Holds (or2 Su Y) w σ' Su) (ht : takes σ' ks = some (cs, σr)) (hr : Reps (or2 Su Y) w args xs) :
    Calls P g xs.toArray w fun e w1 => ∃ v, e = .returned v ∧ After Y Su w (fun a σ1 => ∃ cs', R a cs' ∧ σ1 = zipk ks' cs' ++ σr) v w1 := by
  obtain ⟨S1, S2, h1, h2, hS, hdis⟩ := hh.takes ht
  have hM : ∀ b, or2 S1 (or2 S2 Y) b → or2 Su Y b := fun b h => h.elim (fun h => .inl ((hS b).2 (.inl h))) fun h => h.elim (fun h => .inl ((hS b).2 (.inr h))) .inr
  refine (spec.out (or2 S2 Y) S1 w xs (fun b hb h => h.elim (hdis b hb) (hd b ((hS b).2 (.inl hb)))) (fun b h => h.elim (h2.lt b) (hY b)) (Holds.of h1 fun b _ h => hM b h) (hr.of fun b _ h => hM b h)).mono ?_
  rintro e w1 ⟨v, a, cs', S', rfl, hR, hrep, hh', hev, hsub⟩
  have hM2 : ∀ b, or2 (or2 S' S2) Y b → or2 S' (or2 S2 Y) b := fun b h => h.elim (fun h => h.elim .inl fun h => .inr (.inl h)) fun h => .inr (.inr h)
  have hm : ∀ b, b < w.heap.size → S1 b ∨ or2 (or2 S' S2) Y b → or2 Su Y b := fun b hb h => by
    rcases h with h | (h | h) | h
    · exact .inl ((hS b).2 (.inl h))
    · rcases hsub b h with h | h
      · exact .inl ((hS b).2 (.inl h))
      · omega
    · exact .inl ((hS b).2 (.inr h))
    · exact .inr h
  refine ⟨v, rfl, a, zipk ks' cs' ++ σr, or2 S' S2, ⟨cs', hR, rfl⟩, hrep.of fun b _ h => hM2 b h, Holds.append ((hh'.zip ks').of fun b _ h => hM2 b h) (h2.ev hev hm fun b hb h => hdis b h hb) (fun b hb h => ?_) (fun b => Iff.rfl), hev.mono fun b _ h => (hS b).2 (.inl h), fun b hb => ?_⟩
  · rcases hsub b hb with h' | h'
    · exact hdis b h' h
    · have := h2.lt b h; omega
  · rcases hb with h | h
    · exact (hsub b h).imp (fun h => (hS b).2 (.inl h)) id
    · exact .inl ((hS b).2 (.inr h))
theorem a_call (hT : TOk P L) {g : FuncId} {xs : Array Operand} {ts : Array TypeId} {args : List AV} {cs : List Chunk} {σr : Store} {R : AV → List Chunk → Prop} (h : machA L n fuel s f σ [] = ⟨.op m κ all dec o true rest, f', σ', ob⟩) (hob : ob.map (·.1) = ob.map (·.2)) (ho : o.op = .call ⟨.value (.func g), xs, ts⟩) (hb : callOk P g = true)
    (spec : FSpec P g args cs R) (ks ks' : List Nat) (ha : evAs n f' xs.toList = args) (ht : takes σ' ks = some (cs, σr))
    (hk : ∀ a cs', R a cs' → rekK ks' cs' σr fun σ1 => DenA c P n Q (.ops (m.hap true) κ all dec rest) (putA f' o.dst a) σ1) : DenA c P n Q s f σ := by
  refine a_eff hT (fun a σ1 => ∃ cs', R a cs' ∧ σ1 = zipk ks' cs' ++ σr) h hob (fun Y Su w fc hd hY hh he => ?_) (fun a σ1 ⟨cs', hR, hs⟩ => by subst hs; have := hk a cs' hR; rwa [rekK_eq] at this)
  have hr := he.evals (n := n) xs.toList
  rw [ha] at hr
  have hrun : (execOp (ev n fc) o).run P w = .ok (.enter g (xs.toList.map (ev n fc)).toArray) w := by
    have : xs.map (ev n fc) = (xs.toList.map (ev n fc)).toArray := by obtain ⟨xs⟩ := xs; simp
    simp [execOp, ho, resolve, invoke, ev, evK, Deferred.ofValue, run_callFunc hb, this]
  rw [hrun]
  exact call_does spec hY hd hh ht hr
theorem a_callF (hT : TOk P L) {g : FuncId} {xs : Array Operand} {ts : Array TypeId} {args : List AV} {cs cs0 : List Chunk} {σr : Store} {R : AV → List Chunk → Prop} (h : machA L n fuel s f σ [] = ⟨.op m κ all dec o true rest, f', σ', ob⟩) (hob : ob.map (·.1) = ob.map (·.2)) (ho : o.op = .call ⟨.value (.func g), xs, ts⟩) (hb : callOk P g = true)
    (spec : FSpec P g args cs R) (ks ks' : List Nat) (ha : Fits (evAs n f' xs.toList) args) (ht : takes σ' ks = some (cs0, σr)) (hc : CFits cs0 cs)
    (hk : ∀ a cs', R a cs' → rekK ks' cs' σr fun σ1 => DenA c P n Q (.ops (m.hap true) κ all dec rest) (putA f' o.dst a) σ1) : DenA c P n Q s f σ :=
  a_call hT h hob ho hb (spec.fit ha hc) ks ks' rfl ht hk
theorem a_callv (hT : TOk P L) {g : FuncId} {y : Operand} {xs : Array Operand} {ts : Array TypeId} {args cap : List AV} {cs : List Chunk} {σr : Store} {R : AV → List Chunk → Prop} (h : machA L n fuel s f σ [] = ⟨.op m κ all dec o true rest, f', σ', ob⟩) (hob : ob.map (·.1) = ob.map (·.2)) (ho : o.op = .call ⟨.value y, xs, ts⟩) (hy : evA n f' y = .fn g cap) (hb : callOk P g = true)
    (spec : FSpec P g args cs R) (ks ks' : List Nat) (ha : evAs n f' xs.toList ++ cap = args) (ht : takes σ' ks = some (cs, σr))
    (hk : ∀ a cs', R a cs' → rekK ks' cs' σr fun σ1 => DenA c P n Q (.ops (m.hap true) κ all dec rest) (putA f' o.dst a) σ1) : DenA c P n Q s f σ := by
  refine a_eff hT (fun a σ1 => ∃ cs', R a cs' ∧ σ1 = zipk ks' cs' ++ σr) h hob (fun Y Su w fc hd hY hh he => ?_) (fun a σ1 ⟨cs', hR, hs⟩ => by subst hs; have := hk a cs' hR; rwa [rekK_eq] at this)
  have hr := he.evals (n := n) xs.toList
  have hv := he.eval (n := n) y
  rw [hy] at hv
  unfold Rep at hv
  obtain ⟨ys, hv, hrc⟩ := hv
  have hr2 := hr.app hrc
  rw [ha] at hr2
  have hrun : (execOp (ev n fc) o).run P w = .ok (.enter g (xs.toList.map (ev n fc) ++ ys).toArray) w := by
    have : xs.map (ev n fc) ++ ys.toArray = (xs.toList.map (ev n fc) ++ ys).toArray := by obtain ⟨xs⟩ := xs; simp
    simp [execOp, ho, resolve, invoke, hv, Deferred.ofValue, run_callFunc hb, this]
  rw [hrun]
  exact call_does spec hY hd hh ht hr2
def overA : List Nat → List AV → AEnv
  | t :: l, v :: vs => (t, v) :: overA l vs
  | _, _ => []
def InvA (c : Ctx) (n : Nat) {X : Type} (l : List Nat) (vs : X → List AV) (sg : X → Store) (φ : X → Prop) : Act → World → Prop := fun a w => ∃ x fc S, a = act n fc ∧ φ x ∧ Sat c w S (overA l (vs x)) fc ∧ Holds (or2 S c.X) w (sg x) S
theorem fits_over {M : Nat → Prop} {w : World} {f : AEnv} {fc : Env} (he : EnvRep M w f fc) : ∀ {l : List Nat} {vs : List AV}, Fits (l.map (getA f)) vs → EnvRep M w (overA l vs) fc
  | [], vs, h => fun t => by cases vs <;> (show Rep M w .any _; unfold Rep; trivial)
  | x :: l, [], h => fun t => by show Rep M w .any _; unfold Rep; trivial
  | x :: l, v :: vs, h => by
    rw [List.map_cons] at h
    unfold Fits at h
    intro t
    show Rep M w (getA ((x, v) :: overA l vs) t) _
    rw [getA_cons]
    split
    · rename_i e; subst e; exact h.1.rep (he t)
    · exact fits_over he h.2 t
theorem sat_part {w : World} {S : Nat → Prop} {fc : Env} {ks : List Nat} {cs cs' : List Chunk} {σr τ : Store} (hs : Sat c w S f fc) (hh : Holds (or2 S c.X) w σ S) (ht : takes σ ks = some (cs, σr)) (hc : CFits cs cs') (hτ : τ.map (·.2) = cs') :
    ∃ S', Sat c w S' f fc ∧ Holds (or2 S' c.X) w τ S' := by
  obtain ⟨S1, S2, h1, h2, hS, hdis⟩ := hh.takes ht
  have hM : ∀ b, or2 S1 c.X b → or2 S c.X b := fun b h => h.elim (fun h => .inl ((hS b).2 (.inl h))) .inr
  refine ⟨S1, ⟨hs.env.of fun b _ h => hM b h, hs.ev, fun b hb => hs.sub b ((hS b).2 (.inl hb))⟩, ?_⟩
  have := (hc.holds h1).zip (τ.map (·.1))
  refine Holds.keys (this.of fun b _ h => hM b h) ?_
  rw [zipk_snd, hτ]
theorem a_loop (hT : TOk P L) {X : Type} (l : List Nat) (vs : X → List AV) (sg : X → Store) (φ : X → Prop) (μ : X → Nat) {cd : Code} {cs : List Chunk} {σr : Store} (x0 : X) (ks : List Nat) (h : machA L n fuel s f σ [] = ⟨.loop κ cd, f', σ', ob⟩) (hob : ob.map (·.1) = ob.map (·.2)) (h0 : φ x0) (hf : Fits (l.map (getA f')) (vs x0))
    (ht : takes σ' ks = some (cs, σr)) (hc : CFits cs ((sg x0).map (·.2)))
    (hr : ∀ x, φ x → DenA c P n Q (.code (.inv (InvA c n l vs sg fun x' => φ x' ∧ μ x' < μ x) :: κ) cd) (overA l (vs x)) (sg x)) : DenA c P n Q s f σ := by
  refine a_go hT h hob fun hok w S fc Sg hs hh => ?_
  obtain ⟨S', hs', hh'⟩ := sat_part hs hh ht hc rfl
  show (Code.loop cd).wp P (post P Q κ) (act n fc) w
  refine wp_loop_ghost (fun m a w => ∃ x fc S, a = act n fc ∧ φ x ∧ Sat c w S (overA l (vs x)) fc ∧ Holds (or2 S c.X) w (sg x) S ∧ μ x = m) (μ x0) ⟨x0, fc, S', rfl, h0, ⟨fits_over hs'.env hf, hs'.ev, hs'.sub⟩, hh', rfl⟩ ?_
  rintro m a w ⟨x, fc, S, rfl, hx, hs, hh, rfl⟩
  refine wp_mono ((hr x hx).out trivial w S fc (fun _ => True) hs hh) ?_
  intro e a' w' hq
  cases e with
  | normal =>
    obtain ⟨x', fc', S', rfl, ⟨hx', hlt⟩, hs', hh'⟩ := hq
    exact ⟨_, hlt, x', fc', S', rfl, hx', hs', hh', rfl⟩
  | exit id => exact hq
  | goto l => exact hq
  | ret => exact hq
  | panic ch => exact hq
  | outgrown => exact hq
theorem a_next (hT : TOk P L) {X : Type} {l : List Nat} {vs : X → List AV} {sg : X → Store} {φ : X → Prop} {cs : List Chunk} {σr : Store} (x' : X) (ks : List Nat) (h : machA L n fuel s f σ [] = ⟨.nrm (.inv (InvA c n l vs sg φ) :: κ), f', σ', ob⟩) (hob : ob.map (·.1) = ob.map (·.2)) (hx : φ x')
    (hf : Fits (l.map (getA f')) (vs x')) (ht : takes σ' ks = some (cs, σr)) (hc : CFits cs ((sg x').map (·.2))) : DenA c P n Q s f σ := by
  refine a_go hT h hob fun hok w S fc Sg hs hh => ?_
  obtain ⟨S', hs', hh'⟩ := sat_part hs hh ht hc rfl
  show InvA c n l vs sg φ (act n fc) w
  exact ⟨x', fc, S', rfl, hx, ⟨fits_over hs'.env hf, hs'.ev, hs'.sub⟩, hh'⟩
theorem reg_begin {w : World} {S : Nat → Prop} {fc : Env} {us : List Nat} {ex : Ex} {cu : List Chunk} {σp : Store} (hs : Sat c w S f fc) (hh : Holds (or2 S c.X) w σ S) (ht : takes σ us = some (cu, σp)) :
    ∃ Sg : World → Prop, Sg w.drew ∧ Sat c w.drew S f fc ∧ HoldsM (.reg true σp ex) (or2 S c.X) S w.drew (zipk us cu) Sg := by
  obtain ⟨S1, S2, h1, h2, hS, hdis⟩ := hh.takes ht
  have hev : Ev no w w.drew := Ev.drew w
  have hm : ∀ b, b < w.heap.size → no b ∨ or2 S c.X b → or2 S c.X b := fun b _ h => h.elim (fun h => h.elim) id
  refine ⟨SgOf w.drew S1, fun b _ _ => rfl, ⟨hs.env.pass hev hm, hs.ev.to hev, hs.sub⟩, w.drew, S1, S2, S1, rfl, fun b _ _ => rfl, Nat.le_refl _, h2.ev hev hm (fun _ _ h => h), (h1.zip us).ev hev hm (fun _ _ h => h), fun b => (hS b).trans or_comm, fun b h h' => hdis b h' h, fun b h => .inl h, fun b h => ⟨fun h' => hdis b h' h, h2.lt b h⟩, fun _ => ⟨rfl, fun b h => h⟩⟩
theorem a_draw (hT : TOk P L) {fn : Func} {R : Ending → World → Prop} {id : Nat} {ops : Array Oper} {cu : List Chunk} {σp : Store} (us : List Nat) (ex : Bool) (ord : List (Nat × Bool)) (h : machA L n fuel s f σ [] = ⟨.draw κ id ops, f', σ', ob⟩) (hob : ob.map (·.1) = ob.map (·.2)) (hm : P.follows .mixedOrders = true)
    (ho : (Nat.beq ord.length ops.size && Region.noSelect ops && ordOk ops (Array.replicate ops.size false) ord && (!ex || waitsAll .any ops (lastI ord)) && xOk (if ex then lastI ord else ops.size) ord) = true) (ht : takes σ' us = some (cu, σp))
    (hk : DenA c P n (bodyPost P fn R) (.ops (.reg true σp ⟨ex, none⟩) κ ops [] (selK ops.toList ord)) f' (zipk us cu)) : DenA c P n (bodyPost P fn R) s f σ := by
  simp only [Bool.and_eq_true] at ho
  refine a_go hT h hob fun hok w S fc Sg hs hh => ?_
  obtain ⟨Sg', hg, hs', hh'⟩ := reg_begin (ex := ⟨ex, none⟩) hs hh ht
  show (Code.region id ops true).wp P (post P (bodyPost P fn R) κ) (act n fc) w
  refine wp_region_drawn (S := Sg') (ex := ex) ord hm (Nat.eq_of_beq_eq_true ho.1.1.1.1) ho.1.1.1.2 ho.1.1.2 (fun he => by have := ho.1.2; rw [he] at this; simpa using this) ho.2 ?_ hg (hk.out trivial w.drew S fc Sg' hs' hh')
  intro cc a d v w hp
  rw [post_panic] at hp ⊢
  exact ⟨by simpa [Act.put] using (show (a.put d v).defers = [] from hp.1) |> fun h => by cases d <;> simpa [Act.put] using h, hp.2⟩
theorem a_alt (hT : TOk P L) {fn : Func} {R : Ending → World → Prop} {b pre : Bool} {x q : Nat} {listed : Array Bool} {σp : Store} (ts : List (List (Nat × Bool) × Bool)) (h : machA L n fuel s f σ [] = ⟨.st (.ops (.reg pre σp ⟨b, some (x, q, listed)⟩) κ all dec []), f', σ', ob⟩) (hob : ob.map (·.1) = ob.map (·.2))
    (ho : altsOk all x q listed ts = true)
    (hk : AllAlt (fun t => DenA c P n (bodyPost P fn R) (.ops (.reg pre σp (altEx all x q listed t)) κ all dec (selK all.toList t.1)) f' σ') ts) : DenA c P n (bodyPost P fn R) s f σ := by
  refine a_go hT h hob fun hok w S fc Sg hs hh => ?_
  show ClosedL .any all listed → _
  intro hcl
  have hnow : Sg w := by obtain ⟨ws, U, Sp, Su, h⟩ := id hh; exact h.now
  refine OR_alt (S := Sg) ho (fun cc a d v w hp => ?_) hcl hnow fun t ht => (hk.get t ht).out trivial w S fc Sg hs hh
  rw [post_panic] at hp ⊢
  exact ⟨by simpa [Act.put] using (show (a.put d v).defers = [] from hp.1) |> fun h => by cases d <;> simpa [Act.put] using h, hp.2⟩
def resK1 (n : Nat) (f : AEnv) (L : List TD) (σ : Store) : ResultVar → Option (AV × Obs)
  | .tmp t => some (evA n f (.tmp t), [])
  | .cell a t => match evA n f (.tmp a) with
    | .v (.pointer (some ⟨g, off, sp⟩)) h => match look σ h with
      | some (.blk g' _ cs) => loadK L t cs off (fun r => some (r, [(ptrV g sp, ptrV g' none)])) none
      | _ => none
    | _ => none
def resK (n : Nat) (f : AEnv) (L : List TD) (σ : Store) : List ResultVar → Option (List AV × Obs)
  | [] => some ([], [])
  | r :: rs => match resK1 n f L σ r with
    | none => none
    | some (a, o1) => match resK n f L σ rs with
      | none => none
      | some (as, o2) => some (a :: as, o1 ++ o2)
def tupA (vs : List AV) : AV := match vs with | [v] => v | vs => .tup vs
theorem resK1_rep (hT : TOk P L) {M S : Nat → Prop} {w : World} {fc : Env} (he : EnvRep M w f fc) (hh : Holds M w σ S) {r : ResultVar} {a : AV} {o1 : Obs} (h : resK1 n f L σ r = some (a, o1)) (hob : OT o1) : ∃ v, resV P n fc w r v ∧ Rep M w a v := by
  cases r with
  | tmp t =>
    simp [resK1] at h
    obtain ⟨rfl, rfl⟩ := h
    exact ⟨_, rfl, he.eval _⟩
  | cell ad t =>
    have hx := he.eval (n := n) (.tmp ad)
    simp only [resK1] at h
    split at h
    · rename_i g off sp hh' hev
      rw [hev] at hx
      split at h
      · rename_i g' t' cs hl
        obtain ⟨S1, S2, hS, hd, hc, _⟩ := hh.take hl
        obtain ⟨hS1, xs, hb, hr, h1⟩ := hc
        rcases loadK_says (P := P) hT (t := t) (W := fun w' => w' = w) hr h1 off (ad := ⟨g', 0, none⟩) (fun w' e => by rw [e]; exact hb.cells) with hz | ⟨a', ha', v, hv, hrv⟩
        · rw [hz] at h; cases h
        · rw [ha'] at h
          simp at h
          obtain ⟨rfl, rfl⟩ := h
          have e := hob (ptrV g sp, ptrV g' none) (by simp)
          simp only [ptrV, Value.pointer.injEq, Option.some.injEq, Addr.mk.injEq] at e
          obtain ⟨rfl, _, rfl⟩ := e
          have := hv w rfl
          rw [add_plain] at this
          exact ⟨v, ⟨_, rep_v hx, this⟩, hrv⟩
      · cases h
    · cases h
theorem resK_rep (hT : TOk P L) {M S : Nat → Prop} {w : World} {fc : Env} (he : EnvRep M w f fc) (hh : Holds M w σ S) : ∀ {rs : List ResultVar} {as : List AV} {ob : Obs}, resK n f L σ rs = some (as, ob) → OT ob → ∃ vs, resL P n fc w rs vs ∧ Reps M w as vs
  | [], as, ob, h, hob => by simp [resK] at h; obtain ⟨rfl, rfl⟩ := h; exact ⟨[], trivial, Reps.nil⟩
  | r :: rs, as, ob, h, hob => by
    unfold resK at h
    split at h
    · cases h
    · rename_i a o1 h1
      split at h
      · cases h
      · rename_i as' o2 h2
        simp at h
        obtain ⟨rfl, rfl⟩ := h
        obtain ⟨v, k1, k2⟩ := resK1_rep hT he hh h1 fun p hp => hob p (List.mem_append_left _ hp)
        obtain ⟨vs, k3, k4⟩ := resK_rep hT he hh h2 fun p hp => hob p (List.mem_append_right _ hp)
        exact ⟨v :: vs, ⟨k1, k3⟩, Reps.cons k2 k4⟩
theorem tup_rep {M : Nat → Prop} {w : World} {as : List AV} {vs : List Value} (h : Reps M w as vs) : Rep M w (tupA as) (tup vs) := by
  match as, vs, h with
  | [], vs, h => unfold Reps at h; subst h; unfold tupA tup; unfold Rep; exact ⟨[], rfl, Reps.nil⟩
  | [a], vs, h =>
    unfold Reps at h
    obtain ⟨x, r, rfl, h1, h2⟩ := h
    unfold Reps at h2
    subst h2
    exact h1
  | a :: b :: as, vs, h =>
    have h0 := h
    unfold Reps at h
    obtain ⟨x, r, rfl, h1, h2⟩ := h
    unfold Reps at h2
    obtain ⟨y, r', rfl, h3, h4⟩ := h2
    show Rep M w (.tup (a :: b :: as)) (.tuple (x :: y :: r').toArray)
    unfold Rep
    exact ⟨_, rfl, h0⟩
theorem ret_post {fn : Func} {R : AV → List Chunk → Prop} {w : World} {S : Nat → Prop} {fc : Env} {rs : List ResultVar} {vs : List AV} {ob2 : Obs} {ks : List Nat} {cs : List Chunk} {σr : Store} (hT : TOk P L) (hs : Sat c w S f fc) (hh : Holds (or2 S c.X) w σ S) (hr : fn.results = rs.toArray) (hv : resK n f L σ rs = some (vs, ob2)) (hob2 : OT ob2)
    (ht : takes σ ks = some (cs, σr)) (hR : R (tupA vs) cs) : ∃ v, (results fn (act n fc).tmps).run P w = .ok v w ∧ c.post R (.returned v) w := by
  obtain ⟨ys, h1, h2⟩ := resK_rep hT hs.env hh hv hob2
  obtain ⟨S1, S2, k1, k2, hS, hdis⟩ := hh.takes ht
  have hM : ∀ b, or2 S1 c.X b → or2 S c.X b := fun b h => h.elim (fun h => .inl ((hS b).2 (.inl h))) .inr
  exact ⟨_, run_results hr h1, _, _, cs, S1, rfl, hR, (tup_rep h2).of fun b _ h => hM b h, Holds.of k1 fun b _ h => hM b h, hs.ev, fun b hb => hs.sub b ((hS b).2 (.inl hb))⟩
theorem a_ret (hT : TOk P L) {fn : Func} {R : AV → List Chunk → Prop} {rs : List ResultVar} {vs : List AV} {ob2 : Obs} {cs : List Chunk} {σr : Store} (ks : List Nat) (h : machA L n fuel s f σ [] = ⟨.ret κ, f', σ', ob⟩) (hob : ob.map (·.1) = ob.map (·.2)) (hr : fn.results = rs.toArray) (hv : resK n f' L σ' rs = some (vs, ob2)) (hob2 : ob2.map (·.1) = ob2.map (·.2))
    (ht : takes σ' ks = some (cs, σr)) (hR : R (tupA vs) cs) : DenA c P n (bodyPost P fn (c.post R)) s f σ := by
  refine a_go hT h hob fun hok w S fc Sg hs hh => ?_
  show post P (bodyPost P fn (c.post R)) κ .ret (act n fc) w
  rw [post_ret]
  obtain ⟨v, h1, h2⟩ := ret_post (fn := fn) (R := R) hT hs hh hr hv (OT.of hob2) ht hR
  exact ⟨rfl, v, h1, h2⟩
theorem a_end (hT : TOk P L) {fn : Func} {R : AV → List Chunk → Prop} {rs : List ResultVar} {vs : List AV} {ob2 : Obs} {cs : List Chunk} {σr : Store} (ks : List Nat) (h : machA L n fuel s f σ [] = ⟨.nrm [], f', σ', ob⟩) (hob : ob.map (·.1) = ob.map (·.2)) (hr : fn.results = rs.toArray) (hv : resK n f' L σ' rs = some (vs, ob2)) (hob2 : ob2.map (·.1) = ob2.map (·.2))
    (ht : takes σ' ks = some (cs, σr)) (hR : R (tupA vs) cs) : DenA c P n (bodyPost P fn (c.post R)) s f σ := by
  refine a_go hT h hob fun hok w S fc Sg hs hh => ?_
  obtain ⟨v, h1, h2⟩ := ret_post (fn := fn) (R := R) hT hs hh hr hv (OT.of hob2) ht hR
  exact ⟨rfl, v, h1, h2⟩
def AMS.still : AMS → Bool
  | .ops (.reg _ _ _) _ _ _ _ => false
  | _ => true
theorem a_ghost {σ1 : Store} {f1 : AEnv} (hst : s.still = true) (hg : ∀ (Y S : Nat → Prop) (w : World) (fc : Env), (∀ b, S b → ¬ Y b) → Holds (or2 S Y) w σ S → EnvRep (or2 S Y) w f fc → ∃ S', Holds (or2 S' Y) w σ1 S' ∧ EnvRep (or2 S' Y) w f1 fc ∧ ∀ b, S' b → S b)
    (hk : DenA c P n Q s f1 σ1) : DenA c P n Q s f σ := by
  refine ⟨fun hok w S fc Sg hs hh => ?_⟩
  have hp : s.mode = .plain ∨ s.mode = .rest ∨ ∃ ex, s.mode = .last ex := by
    cases s with
    | ops m κ all dec rest => cases m <;> first | exact .inl rfl | exact .inr (.inl rfl) | exact .inr (.inr ⟨_, rfl⟩) | cases hst
    | _ => exact .inl rfl
  have hh0 : Holds (or2 S c.X) w σ S := by rcases hp with e | e | ⟨ex, e⟩ <;> (rw [e] at hh; exact hh)
  have hdisX : ∀ b, S b → ¬ c.X b := fun b hb hx => (hs.sub b hb).elim (fun h => c.dis b h hx) fun h => Nat.lt_irrefl _ (Nat.lt_of_le_of_lt h (c.old b hx))
  obtain ⟨S', h1, h2, h3⟩ := hg c.X S w fc hdisX hh0 hs.env
  refine hk.out hok w S' fc Sg ⟨h2, hs.ev, fun b hb => hs.sub b (h3 b hb)⟩ ?_
  rcases hp with e | e | ⟨ex, e⟩ <;> (rw [e]; exact h1)
theorem a_as (t : Nat) {a b : AV} (ha : getA f t = a) (hfit : Fit a b) (hk : DenA c P n Q s ((t, b) :: f) σ) : DenA c P n Q s f σ := by
  refine ⟨fun hok w S fc Sg hs hh => hk.out hok w S fc Sg ⟨fun t' => ?_, hs.ev, hs.sub⟩ hh⟩
  rw [getA_cons]
  split
  · rename_i e
    subst e
    have := hs.env t'
    rw [ha] at this
    exact hfit.rep this
  · exact hs.env t'
theorem row_frozen {Y S1 S2 S : Nat → Prop} {w : World} {x : Value} {e k : Nat} {es : List (List Dat)} (hc : CRep (or2 S Y) w (.row x e k es) S1) (hS : ∀ b, S b ↔ S1 b ∨ S2 b) (hd : ∀ b, S1 b → ¬ S2 b) (hdY : ∀ b, S b → ¬ Y b) : DRep (or2 S2 Y) w (.sl k es) x := by
  obtain ⟨hS1, hk, xs, ho, hv⟩ := hc
  have hlen := hv.len
  unfold DRep
  rcases ho.2 with ⟨rfl, h0⟩ | ⟨g, cap, cur, rfl, hb, hh, hn, hcl, hs, ht⟩
  · have : es = [] := List.eq_nil_of_length_eq_zero h0
    subst this
    exact ⟨none, 0, rfl, by simp, by simp, by simp⟩
  · have hg : S1 g := (hS1 g).2 rfl
    refine ⟨_, cap, rfl, hn, hk, fun hne => ⟨_, rfl, ?_, (Array.getElem?_eq_some_iff.1 hh).1, SRep.flat.2 (LRep.mk fun j d hj => ?_)⟩⟩
    · rintro (h | h)
      · exact hd g hg h
      · exact hdY g ((hS g).2 (.inl hg)) h
    · obtain ⟨y, hy, hr⟩ := hv.get j d hj
      rw [Nat.zero_add]
      exact ⟨y, ho.cells (g := g) rfl j y hy, hr.ev (Ev.refl no w) fun b _ h => h.elim (fun h => h.elim) fun h => h.elim (fun h => .inl ((hS b).2 (.inr h))) .inr⟩
theorem a_freeze (t h : Nat) {x x' : Value} {e k : Nat} {es : List (List Dat)} (hst : s.still = true) (ht : getA f t = .row x h) (hl : look σ h = some (.row x' e k es)) (hx : x = x') (hk : DenA c P n Q s ((t, .d (.sl k es)) :: f) (del σ h)) : DenA c P n Q s f σ := by
  subst hx
  refine a_ghost hst (fun Y S w fc hdY hh he => ?_) hk
  obtain ⟨S1, S2, hS, hd, hc, hr⟩ := hh.take hl
  have hM : ∀ b, or2 S2 Y b → or2 S Y b := fun b h => h.elim (fun h => .inl ((hS b).2 (.inr h))) .inr
  have hfz := row_frozen hc hS hd hdY
  refine ⟨S2, hr.of fun b _ h => hM b h, fun t' => ?_, fun b h => (hS b).2 (.inr h)⟩
  rw [getA_cons]
  split
  · rename_i e
    subst e
    have := he t'
    rw [ht] at this
    unfold Rep at this ⊢
    rw [this.1]
    exact hfz
  · exact (he t').of fun b _ h => hM b h
theorem a_freezeB (kb off h : Nat) {g : Nat} {tb : TypeId} {cs : List AV} {x x' : Value} {hx0 e k : Nat} {es : List (List Dat)} (hst : s.still = true) (hb : look σ kb = some (.blk g tb cs)) (ht : cs[off]? = some (.row x hx0)) (hl : look (del σ kb) h = some (.row x' e k es)) (hx : x = x')
    (hk : DenA c P n Q s f ((kb, .blk g tb (cs.set off (.d (.sl k es)))) :: del (del σ kb) h)) : DenA c P n Q s f σ := by
  subst hx
  refine a_ghost hst (fun Y S w fc hdY hh he => ?_) hk
  obtain ⟨B1, B2, hB, hdB, hcB, hrB⟩ := hh.take hb
  obtain ⟨S1, S2, hS, hd, hc, hr⟩ := hrB.take hl
  have hS' : ∀ b, S b ↔ S1 b ∨ or2 B1 S2 b := fun b => by
    rw [hB b, hS b]
    constructor
    · rintro (h | h | h)
      · exact .inr (.inl h)
      · exact .inl h
      · exact .inr (.inr h)
    · rintro (h | h | h)
      · exact .inr (.inl h)
      · exact .inl h
      · exact .inr (.inr h)
  have hd' : ∀ b, S1 b → ¬ or2 B1 S2 b := fun b hb h => h.elim (fun h => hdB b h ((hS b).2 (.inl hb))) (hd b hb)
  have hM : ∀ b, or2 (or2 B1 S2) Y b → or2 S Y b := fun b h => h.elim (fun h => .inl ((hS' b).2 (.inr h))) .inr
  have hfz := row_frozen hc hS' hd' hdY
  obtain ⟨hB1, xs, hblk, hrx, h1⟩ := hcB
  refine ⟨or2 B1 S2, ⟨B1, S2, fun b => Iff.rfl, fun b hb h => hdB b hb ((hS b).2 (.inr h)), ⟨hB1, xs, hblk, ?_, h1⟩, hr.of fun b _ h => hM b h⟩, fun t' => (he t').of fun b _ h => hM b h, fun b h => (hS' b).2 (.inr h)⟩
  have hrx' := hrx.of (M' := or2 (or2 B1 S2) Y) fun b _ h => hM b h
  obtain ⟨y, hy, hry⟩ := hrx'.get _ _ ht
  have hlt := (List.getElem?_eq_some_iff.1 hy).1
  have := hrx'.set off (.d (.sl k es)) y (by unfold Rep at hry ⊢; rw [hry.1]; exact hfz)
  have e : xs.set off y = xs := by
    apply List.ext_getElem?
    intro j
    rw [List.getElem?_set]
    split
    · rename_i e; subst e; exact hy.symm
    · rfl
  rwa [e] at this
end
end Go.Proofs.YtjcolfogmmjaoaaGreatDoor.A
end

section
set_option linter.unusedVariables false
set_option linter.unusedSimpArgs false
namespace Go.Proofs.YtjcolfogmmjaoaaGreatDoor.A
open V
def mapE {κ : Type} (kv : κ → Value) (l : List (κ × AV)) : List (Value × AV) := l.map fun p => (kv p.1, p.2)
def aget {κ β : Type} [DecidableEq κ] : List (κ × β) → κ → Option β
  | [], _ => none
  | (j, v) :: l, k => if j = k then some v else aget l k
def aput {κ β : Type} [DecidableEq κ] : List (κ × β) → κ → β → List (κ × β)
  | [], k, v => [(k, v)]
  | (j, u) :: l, k, v => if j = k then (j, v) :: l else (j, u) :: aput l k v
def adel {κ β : Type} [DecidableEq κ] : List (κ × β) → κ → List (κ × β)
  | [], _ => []
  | (j, u) :: l, k => if j = k then l else (j, u) :: adel l k
def aidx {κ : Type} [DecidableEq κ] : List κ → κ → Option Nat
  | [], _ => none
  | j :: l, k => if j = k then some 0 else (aidx l k).map (· + 1)
structure KeyOk (P : Program) (kt : TypeId) {κ : Type} [DecidableEq κ] (kv : κ → Value) : Prop where
  fnd : ∀ (w : World) (k : κ) (ks : List κ) (es : List MapEntry), es.map (·.key) = ks.map kv → (Instr.findKey kt (kv k) es).run P w = .ok ((aidx ks k).bind fun i => (es[i]?).map fun e => (i, e.val)) w
  chk : ∀ (w : World) (b : Bool) (k : κ), (Instr.checkKey b 10000 kt (kv k)).run P w = .ok () w
  bits : ∀ k, Instr.sameBits 10000 (kv k) (kv k) = true
theorem fnd_now {P : Program} {kt : TypeId} {κ : Type} [DecidableEq κ] {kv : κ → Value} {d : TypeDesc} (hu : P.underlying kt = some d) (hs : ∀ a b, Instr.sameNow d (kv a) (kv b) = some (decide (a = b))) (w : World) (k : κ) (ks : List κ) (es : List MapEntry) (h : es.map (·.key) = ks.map kv) :
    (Instr.findKey kt (kv k) es).run P w = .ok ((aidx ks k).bind fun i => (es[i]?).map fun e => (i, e.val)) w := by
  have key : ∀ (ks : List κ) (es : List MapEntry) (i : Nat), es.map (·.key) = ks.map kv → Instr.findNow d (kv k) es i = some ((aidx ks k).bind fun j => (es[j]?).map fun e => (i + j, e.val)) := by
    intro ks
    induction ks with
    | nil => intro es i h; simp at h; subst h; rfl
    | cons j ks ih =>
      intro es i h
      cases es with
      | nil => simp at h
      | cons e es =>
        simp only [List.map_cons, List.cons.injEq] at h
        unfold Instr.findNow
        rw [h.1, hs]
        unfold aidx
        by_cases hk : k = j
        · subst hk; simp
        · have hk' : ¬ j = k := fun e => hk e.symm
          simp only [hk, hk', decide_false, if_false]
          rw [ih es (i + 1) h.2]
          cases aidx ks k with
          | none => rfl
          | some m => simp [show i + 1 + m = i + (m + 1) by omega]
  unfold Instr.findKey
  simp only [Sem.run_bind, run_underlying hu, Result.andThen_ok]
  rw [key ks es 0 h]
  simp
theorem key_int {P : Program} {kt : TypeId} {ik : IntKind} (hu : P.underlying kt = some (.int ik)) : KeyOk P kt (fun n : Int => Value.int ik n) where
  fnd := fnd_now hu fun a b => by unfold Instr.sameNow; by_cases h : a = b <;> simp [h]
  chk := fun w b k => by unfold Instr.checkKey; simp [underlying, hu]
  bits := fun k => by unfold Instr.sameBits; simp
theorem ba_beq (a b : ByteArray) : (a == b) = decide (a = b) := by
  obtain ⟨a⟩ := a
  obtain ⟨b⟩ := b
  have h1 : ((⟨a⟩ : ByteArray) == ⟨b⟩) = (a == b) := rfl
  rw [h1]
  by_cases h : a = b
  · subst h; simp
  · have : ¬ (⟨a⟩ : ByteArray) = ⟨b⟩ := fun e => h (by injection e)
    simp [h]
theorem key_str {P : Program} {kt : TypeId} (hu : P.underlying kt = some .string) : KeyOk P kt (fun s : ByteArray => Value.string s) where
  fnd := fnd_now hu fun a b => by unfold Instr.sameNow; simp only [ba_beq]
  chk := fun w b k => by unfold Instr.checkKey; simp [underlying, hu]
  bits := fun k => by unfold Instr.sameBits; simp [ba_beq]
theorem ents_keys {M : Nat → Prop} {w : World} {κ : Type} {kv : κ → Value} : ∀ {l : List (κ × AV)} {es : List MapEntry}, EntsRep M w (mapE kv l) es → es.map (·.key) = (l.map (·.1)).map kv
  | [], es, h => by unfold mapE EntsRep at h; simp at h; subst h; rfl
  | p :: l, es, h => by
    unfold mapE at h
    rw [List.map_cons] at h
    unfold EntsRep at h
    obtain ⟨e, r, rfl, h1, h2⟩ := h
    simp [h1.1, ents_keys (l := l) h2]
theorem ents_get {M : Nat → Prop} {w : World} : ∀ {l : List (Value × AV)} {es : List MapEntry}, EntsRep M w l es → ∀ (i : Nat) p, l[i]? = some p → ∃ e, es[i]? = some e ∧ EntRep M w p e
  | [], es, h, i, p, hp => by simp at hp
  | q :: l, es, h, i, p, hp => by
    unfold EntsRep at h
    obtain ⟨e, r, rfl, h1, h2⟩ := h
    cases i with
    | zero => simp at hp; subst hp; exact ⟨e, rfl, h1⟩
    | succ i => simpa using ents_get h2 i p (by simpa using hp)
theorem ents_app {M : Nat → Prop} {w : World} : ∀ {l : List (Value × AV)} {es : List MapEntry} {p : Value × AV} {e : MapEntry}, EntsRep M w l es → EntRep M w p e → EntsRep M w (l ++ [p]) (es ++ [e])
  | [], es, p, e, h, hp => by unfold EntsRep at h; subst h; exact ⟨e, [], rfl, hp, rfl⟩
  | q :: l, es, p, e, h, hp => by unfold EntsRep at h; obtain ⟨e', r, rfl, h1, h2⟩ := h; exact ⟨e', r ++ [e], rfl, h1, ents_app h2 hp⟩
theorem ents_set {M : Nat → Prop} {w : World} : ∀ {l : List (Value × AV)} {es : List MapEntry} {p : Value × AV} {e : MapEntry} (i : Nat), EntsRep M w l es → EntRep M w p e → EntsRep M w (l.set i p) (es.set i e)
  | [], es, p, e, i, h, hp => by unfold EntsRep at h; subst h; rfl
  | q :: l, es, p, e, i, h, hp => by
    unfold EntsRep at h
    obtain ⟨e', r, rfl, h1, h2⟩ := h
    cases i with
    | zero => exact ⟨e, r, rfl, hp, h2⟩
    | succ i => exact ⟨e', r.set i e, rfl, h1, ents_set i h2 hp⟩
theorem aget_idx {κ β : Type} [DecidableEq κ] : ∀ (l : List (κ × β)) (k : κ), match aidx (l.map (·.1)) k with
    | none => aget l k = none ∧ (∀ v, aput l k v = l ++ [(k, v)]) ∧ adel l k = l
    | some i => (∃ v, l[i]? = some (k, v) ∧ aget l k = some v) ∧ (∀ v, aput l k v = l.set i (k, v)) ∧ adel l k = l.eraseIdx i
  | [], k => ⟨rfl, fun v => rfl, rfl⟩
  | (j, u) :: l, k => by
    have ih := aget_idx l k
    simp only [List.map_cons, aidx]
    by_cases h : j = k
    · subst h
      simp [aget, aput, adel]
    · simp only [h, if_false, aget, aput, adel]
      cases hi : aidx (l.map (·.1)) k with
      | none => rw [hi] at ih; exact ⟨ih.1, fun v => by rw [ih.2.1]; rfl, by rw [ih.2.2]⟩
      | some i => rw [hi] at ih; exact ⟨ih.1, fun v => by rw [ih.2.1]; rfl, by rw [ih.2.2]; rfl⟩
section
variable {P : Program} {L : List TD} {Z : List (List Value)} {n : Nat} {Q : Exit → Act → World → Prop} {c : Ctx}
variable {s : AMS} {f f' : AEnv} {σ σ' : Store} {ob : Obs} {κ : List Kt} {all : Array Oper} {dec : List Nat} {o : Oper} {al : Bool} {rest : List (Oper × Bool)} {m : Mode}
def mapT (P : Program) (t kt et : TypeId) : Bool := match P.underlying t with | some (.map a b) => Nat.beq a kt && Nat.beq b et | _ => false
theorem mapT_spec {t kt et : TypeId} (h : mapT P t kt et = true) : P.underlying t = some (.map kt et) := by
  unfold mapT at h
  split at h
  · rename_i a b hu
    simp only [Bool.and_eq_true] at h
    rw [hu, Nat.eq_of_beq_eq_true h.1, Nat.eq_of_beq_eq_true h.2]
  · cases h
theorem a_look (hT : TOk P L) {t kt et : TypeId} {κ' : Type} [DecidableEq κ'] {kv : κ' → Value} {x y : Operand} {r r' h0 : Nat} {hk0 : Nat} {es : List (Value × AV)} {z : Value} (l : List (κ' × AV)) (k : κ') (res : Option AV) {ok : Bool} (h : machA L n fuel s f σ [] = ⟨.op m κ all dec o true rest, f', σ', ob⟩) (hob : ob.map (·.1) = ob.map (·.2)) (ho : o.op = .lookup t x y ok) (ht : mapT P t kt et = true) (hko : KeyOk P kt kv) (hz : (P.info? et).map (·.zero) = some (some z))
    (hx : evA n f' x = .v (.map (some r)) h0) (hl : look σ' h0 = some (.map r' es)) (hrr : r = r') (hes : es = mapE kv l) (hy : evN n f' y = .v (kv k) hk0) (hres : aget l k = res)
    (hk : DenA c P n Q (.ops (m.hap true) κ all dec rest) (putA f' o.dst (if ok then .tup [res.getD (cAV z), .v (.bool res.isSome) 0] else res.getD (cAV z))) σ') : DenA c P n Q s f σ := by
  subst hrr
  subst hes
  refine a_eff hT (fun a σ1 => a = (if ok then .tup [res.getD (cAV z), .v (.bool res.isSome) 0] else res.getD (cAV z)) ∧ σ1 = σ') h hob (fun Y Su w fc hd hY hh he => ?_) (fun a σ1 ⟨ha, hs⟩ => by subst ha; subst hs; exact hk)
  obtain ⟨S1, S2, hS, hdis, hc, hrest⟩ := hh.take hl
  obtain ⟨hS1, ents, clock, hheap, hents, hnd, hcl⟩ := hc
  have h1 := he.eval (n := n) x
  have h2 := he.evalN (n := n) y
  rw [hx] at h1
  rw [hy] at h2
  obtain ⟨i, hi, hiz⟩ := Option.map_eq_some_iff.1 hz
  have hfnd := hko.fnd w k (l.map (·.1)) ents.toList (ents_keys hents)
  have hidx := aget_idx l k
  have fin : ∀ v a, Rep (or2 Su Y) w a v → a = res.getD (cAV z) → (execOp (ev n fc) o).run P w = .ok (.value (if ok then .tuple #[v, .bool res.isSome] else v)) w → Does P Y Su w (fun a σ1 => a = (if ok then .tup [res.getD (cAV z), .v (.bool res.isSome) 0] else res.getD (cAV z)) ∧ σ1 = σ') ((execOp (ev n fc) o).run P w) := by
    intro v a hr ha hrun
    rw [hrun]
    refine ⟨_, _, Su, ⟨rfl, rfl⟩, ?_, hh, Ev.refl _ _, fun b hb => .inl hb⟩
    subst ha
    cases ok
    · exact hr
    · simp only [if_true]
      unfold Rep
      exact ⟨[v, .bool res.isSome], rfl, Reps.cons hr (Reps.cons mk_v Reps.nil)⟩
  cases hi' : aidx (l.map (·.1)) k with
  | none =>
    rw [hi'] at hidx hfnd
    have hres' : res = none := by rw [← hres]; exact hidx.1
    subst hres'
    refine fin z (cAV z) (cAV_rep z) rfl ?_
    unfold execOp
    simp only [ho, Sem.run_bind, Sem.run_pure, rep_v h1, rep_v h2, Instr.lookup, run_underlying (mapT_spec ht), Result.andThen_ok, run_get hheap (by simp), hko.chk, hfnd, Option.bind_none, zeroValue, typeInfo, run_program, hi, hiz]
    first | done | (cases ok <;> rfl)
  | some j =>
    rw [hi'] at hidx hfnd
    obtain ⟨⟨v, hv, hg⟩, _⟩ := hidx
    have hres' : res = some v := by rw [← hres]; exact hg
    subst hres'
    obtain ⟨e, he', hke, hrep⟩ := ents_get hents j (kv k, v) (by unfold mapE; rw [List.getElem?_map, hv]; rfl)
    refine fin e.val v hrep rfl ?_
    unfold execOp
    simp only [ho, Sem.run_bind, Sem.run_pure, rep_v h1, rep_v h2, Instr.lookup, run_underlying (mapT_spec ht), Result.andThen_ok, run_get hheap (by simp), hko.chk, hfnd, Option.bind_some, he', Option.map_some]
    first | done | (cases ok <;> rfl)
theorem a_mkmap (hT : TOk P L) (kn : Nat) {t : TypeId} (h : machA L n fuel s f σ [] = ⟨.op m κ all dec o true rest, f', σ', ob⟩) (hob : ob.map (·.1) = ob.map (·.2)) (ho : o.op = .makeMap t none)
    (hk : ∀ r, DenA c P n Q (.ops (m.hap true) κ all dec rest) (putA f' o.dst (.v (.map (some r)) kn)) ((kn, .map r []) :: σ')) : DenA c P n Q s f σ := by
  refine a_eff hT (fun a σ1 => ∃ r, a = .v (.map (some r)) kn ∧ σ1 = (kn, .map r []) :: σ') h hob (fun Y Su w fc hd hY hh he => ?_) (fun a σ1 ⟨g, ha, hs⟩ => by subst ha; subst hs; exact hk g)
  have hrun : (execOp (ev n fc) o).run P w = .ok (.value (.map (some w.heap.size))) (w.alloc (.map #[] 0)) := by
    unfold execOp
    simp [ho, Instr.makeMap]
  rw [hrun]
  have hev : Ev no w (w.alloc (.map #[] 0)) := Ev.alloc w _
  have hm : ∀ b, b < w.heap.size → no b ∨ or2 (or2 (at1 w.heap.size) Su) Y b → or2 Su Y b := fun b hb h => by
    rcases h with h | (h | h) | h
    · exact h.elim
    · simp only [at1] at h; omega
    · exact .inl h
    · exact .inr h
  refine ⟨_, _, or2 (at1 w.heap.size) Su, ⟨_, rfl, rfl⟩, mk_v, ⟨at1 w.heap.size, Su, fun b => Iff.rfl, fun b hb h => ?_, ⟨fun b => Iff.rfl, #[], 0, heap_alloc_new w _, rfl, by simp, by simp⟩, hh.ev hev hm fun _ _ h => h⟩, hev.no, fun b h => h.elim (fun h => .inr (by simp only [at1] at h; omega)) .inl⟩
  simp only [at1] at hb
  have := hh.lt b h
  omega
theorem map_turned {Y Su : Nat → Prop} {w : World} {h0 r : Nat} {es es' : List (Value × AV)} {ents ents' : Array MapEntry} {clock clock' : Nat} {S1 S2 : Nat → Prop} (hh : Holds (or2 Su Y) w σ Su) (hl : look σ h0 = some (.map r es)) (hS : ∀ b, Su b ↔ S1 b ∨ S2 b) (hdis : ∀ b, S1 b → ¬ S2 b) (hS1 : ∀ b, S1 b ↔ b = r) (hheap : w.heap[r]? = some (.map ents clock)) (hrest : Holds (or2 Su Y) w (del σ h0) S2)
    (hents : EntsRep (or2 Su Y) w es' ents'.toList) (hnd : (ents'.toList.map (·.born)).Nodup) (hcl : ∀ e ∈ ents'.toList, e.born < clock') : After Y Su w (fun a σ1 => a = .v (.tuple #[]) 0 ∧ σ1 = upd σ h0 (.map r es')) (.tuple #[]) (setB w r (.map ents' clock')) := by
  have hlt : r < w.heap.size := (Array.getElem?_eq_some_iff.1 hheap).1
  have hev : Ev (at1 r) w (setB w r (.map ents' clock')) := Ev.setB w r _
  have hm : ∀ b, b < w.heap.size → at1 r b ∨ or2 Su Y b → or2 Su Y b := fun b _ h => h.elim (fun h => .inl ((hS b).2 (.inl ((hS1 b).2 h)))) id
  refine ⟨_, _, Su, ⟨rfl, rfl⟩, mk_v, ?_, hev.mono fun b _ h => (hS b).2 (.inl ((hS1 b).2 h)), fun b hb => .inl hb⟩
  refine (Holds.upd (S1 := S1) (c' := .map r es') hev hm hh hl hrest (fun b hb hg => hdis b ((hS1 b).2 hg) hb) hdis ⟨hS1, ents', clock', setB_at hlt _, hents.ev hev hm, hnd, hcl⟩).iff hS
theorem a_mput (hT : TOk P L) {t kt et : TypeId} {κ' : Type} [DecidableEq κ'] {kv : κ' → Value} {x y u : Operand} {r r' h0 : Nat} {hk0 : Nat} {es : List (Value × AV)} (l : List (κ' × AV)) (k : κ') (h : machA L n fuel s f σ [] = ⟨.op m κ all dec o true rest, f', σ', ob⟩) (hob : ob.map (·.1) = ob.map (·.2)) (ho : o.op = .mapUpdate t x y u) (ht : mapT P t kt et = true) (hko : KeyOk P kt kv)
    (hx : evA n f' x = .v (.map (some r)) h0) (hl : look σ' h0 = some (.map r' es)) (hrr : r = r') (hes : es = mapE kv l) (hy : evN n f' y = .v (kv k) hk0)
    (hk : DenA c P n Q (.ops (m.hap true) κ all dec rest) (putA f' o.dst (.v undef 0)) (upd σ' h0 (.map r' (mapE kv (aput l k (evA n f' u)))))) : DenA c P n Q s f σ := by
  subst hrr
  subst hes
  refine a_eff hT (fun a σ1 => a = .v undef 0 ∧ σ1 = upd σ' h0 (.map r (mapE kv (aput l k (evA n f' u))))) h hob (fun Y Su w fc hd hY hh he => ?_) (fun a σ1 ⟨ha, hs⟩ => by subst ha; subst hs; exact hk)
  obtain ⟨S1, S2, hS, hdis, hc, hrest⟩ := hh.take hl
  obtain ⟨hS1, ents, clock, hheap, hents, hnd, hcl⟩ := hc
  have h1 := he.eval (n := n) x
  have h2 := he.evalN (n := n) y
  have h3 := he.eval (n := n) u
  rw [hx] at h1
  rw [hy] at h2
  have hfnd := hko.fnd w k (l.map (·.1)) ents.toList (ents_keys hents)
  have hidx := aget_idx l k
  cases hi' : aidx (l.map (·.1)) k with
  | none =>
    rw [hi'] at hidx hfnd
    have hrun : (execOp (ev n fc) o).run P w = .ok .skip (setB w r (.map (ents.push { key := kv k, val := ev n fc u, born := clock }) (clock + 1))) := by
      unfold execOp
      simp only [ho, Sem.run_bind, Sem.run_pure, rep_v h1, rep_v h2, Instr.mapUpdate, run_underlying (mapT_spec ht), Result.andThen_ok, run_get hheap (by simp), hko.chk, hfnd, Option.bind_none, run_set hheap (by simp)]
    rw [hrun, hidx.2.1]
    refine map_turned hh hl hS hdis hS1 hheap hrest ?_ ?_ ?_
    · unfold mapE at hents ⊢
      rw [List.map_append, Array.toList_push]
      exact ents_app hents ⟨rfl, h3⟩
    · rw [Array.toList_push, List.map_append, List.nodup_append]
      refine ⟨hnd, by simp, ?_⟩
      intro a ha b hb e
      simp at hb
      obtain ⟨e', he', rfl⟩ := List.mem_map.1 ha
      have := hcl e' he'
      omega
    · intro e he'
      rw [Array.toList_push, List.mem_append] at he'
      rcases he' with he' | he'
      · have := hcl e he'; omega
      · simp at he'; subst he'; simp
  | some j =>
    rw [hi'] at hidx hfnd
    obtain ⟨⟨v, hv, hg⟩, hput, _⟩ := hidx
    obtain ⟨e, he', hke, hrep⟩ := ents_get hents j (kv k, v) (by unfold mapE; rw [List.getElem?_map, hv]; rfl)
    have hje : ents[j]? = some e := by rw [← Array.getElem?_toList]; exact he'
    have hrun : (execOp (ev n fc) o).run P w = .ok .skip (setB w r (.map (ents.modify j fun e => { e with key := kv k, val := ev n fc u }) clock)) := by
      unfold execOp
      simp only [ho, Sem.run_bind, Sem.run_pure, rep_v h1, rep_v h2, Instr.mapUpdate, run_underlying (mapT_spec ht), Result.andThen_ok, run_get hheap (by simp), hko.chk, hfnd, Option.bind_some, he', Option.map_some, hje, Option.getD_some, Instr.keyThatStays, hke, hko.bits, if_true, run_set hheap (by simp)]
    rw [hrun, hput]
    have hmod : (ents.modify j fun e => { e with key := kv k, val := ev n fc u }).toList = ents.toList.set j { e with key := kv k, val := ev n fc u } := by
      apply List.ext_getElem?
      intro i
      rw [Array.getElem?_toList, Array.getElem?_modify, List.getElem?_set]
      by_cases hij : j = i
      · subst hij
        obtain ⟨h5, h6⟩ := Array.getElem?_eq_some_iff.1 hje
        simp [h5, h6]
      · simp [hij]
    have hborn : ∀ e' ∈ ents.toList.set j { e with key := kv k, val := ev n fc u }, ∃ e'' ∈ ents.toList, e''.born = e'.born := fun e' h' => by
      rcases List.mem_or_eq_of_mem_set h' with h' | rfl
      · exact ⟨e', h', rfl⟩
      · exact ⟨e, List.mem_of_getElem? he', rfl⟩
    refine map_turned hh hl hS hdis hS1 hheap hrest ?_ ?_ ?_
    · rw [hmod]
      unfold mapE at hents ⊢
      rw [List.map_set]
      exact ents_set j hents ⟨rfl, h3⟩
    · rw [hmod, List.map_set]
      have : (ents.toList.map (·.born)).set j e.born = ents.toList.map (·.born) := by
        apply List.ext_getElem?
        intro i
        rw [List.getElem?_set]
        split
        · rename_i h; subst h; rw [List.getElem?_map, he']; have := (List.getElem?_eq_some_iff.1 he').1; rw [List.length_map, if_pos this]; rfl
        · rfl
      rw [this]
      exact hnd
    · intro e' h'
      rw [hmod] at h'
      obtain ⟨e'', h1, h2⟩ := hborn e' h'
      rw [← h2]
      exact hcl e'' h1
end
end Go.Proofs.YtjcolfogmmjaoaaGreatDoor.A
end

section
set_option linter.unusedVariables false
set_option linter.unusedSimpArgs false
namespace Go.Proofs.YtjcolfogmmjaoaaGreatDoor.A
open V
def parts (k : Nat) (l : List Dat) : List (List Dat) := if h : k = 0 ∨ l = [] then [] else l.take k :: parts k (l.drop k)
termination_by l.length
decreasing_by
  have : 0 < l.length := by cases l with | nil => exact absurd (.inr rfl) h | cons x l => simp
  simp
  omega
mutual
def pos : V.Dat → Prop
  | .v _ => True
  | .sl k ds => 0 < k ∧ poss ds
  | .ifc _ _ ds => poss ds
def poss : List V.Dat → Prop
  | [] => True
  | d :: ds => pos d ∧ poss ds
end
end Go.Proofs.YtjcolfogmmjaoaaGreatDoor.A
end

section
set_option linter.unusedVariables false
set_option linter.unusedSimpArgs false
namespace Go.Proofs.YtjcolfogmmjaoaaGreatDoor.A
open V
theorem HoldsL.ev {M M' N : Nat → Prop} {w w' : World} (he : Ev N w w') (hm : ∀ b, b < w.heap.size → N b ∨ M' b → M b) {cs : List Chunk} {S : Nat → Prop} (h : HoldsL M w cs S) (hN : ∀ b, S b → ¬ N b) : HoldsL M' w' cs S := Holds.ev he hm h hN
theorem HoldsL.append {M : Nat → Prop} {w : World} {a b : List Chunk} {S T U : Nat → Prop} (h1 : HoldsL M w a S) (h2 : HoldsL M w b T) (hd : ∀ b, S b → ¬ T b) (hU : ∀ b, U b ↔ S b ∨ T b) : HoldsL M w (a ++ b) U := by
  unfold HoldsL
  rw [List.map_append]
  exact Holds.append h1 h2 hd hU
theorem HoldsL.parts {M : Nat → Prop} {w : World} {a b : List Chunk} {U : Nat → Prop} (h : HoldsL M w (a ++ b) U) : ∃ S T : Nat → Prop, HoldsL M w a S ∧ HoldsL M w b T ∧ (∀ b, S b → ¬ T b) ∧ ∀ b, U b ↔ S b ∨ T b := by
  unfold HoldsL at h
  rw [List.map_append] at h
  exact Holds.parts h
theorem HoldsL.perm {M : Nat → Prop} {w : World} {a b : List Chunk} (hp : a.Perm b) : ∀ {S : Nat → Prop}, HoldsL M w a S → HoldsL M w b S := by
  induction hp with
  | nil => exact fun h => h
  | cons x _ ih => rintro S ⟨S1, S2, h1, h2, h3, h4⟩; exact ⟨S1, S2, h1, h2, h3, ih h4⟩
  | swap x y l =>
    rintro S ⟨S1, S2, h1, h2, h3, T1, T2, k1, k2, k3, k4⟩
    refine ⟨T1, fun b => S1 b ∨ T2 b, fun b => ?_, fun b hb h => h.elim (fun h => h2 b h ((k1 b).2 (.inl hb))) (k2 b hb), k3, S1, T2, fun b => Iff.rfl, fun b hb h => h2 b hb ((k1 b).2 (.inr h)), h3, k4⟩
    rw [h1 b, k1 b]
    constructor
    · rintro (h | h | h)
      · exact .inr (.inl h)
      · exact .inl h
      · exact .inr (.inr h)
    · rintro (h | h | h)
      · exact .inr (.inl h)
      · exact .inl h
      · exact .inr (.inr h)
  | trans _ _ ih1 ih2 => exact fun h => ih2 (ih1 h)
def listA (cs : List Chunk) : Asrt where
  h := fun M S w => HoldsL M w cs S
  ev := fun h he hN hm => HoldsL.ev he hm h hN
  lt := fun h => Holds.lt h
def Ent (cs cs' : List Chunk) : Prop := ∀ M w S, HoldsL M w cs S → HoldsL M w cs' S
theorem Ent.refl (cs : List Chunk) : Ent cs cs := fun _ _ _ h => h
theorem Ent.trans {a b c : List Chunk} (h1 : Ent a b) (h2 : Ent b c) : Ent a c := fun M w S h => h2 M w S (h1 M w S h)
theorem Ent.perm {a b : List Chunk} (h : a.Perm b) : Ent a b := fun _ _ _ k => k.perm h
theorem Ent.cons (c : Chunk) {a b : List Chunk} (h : Ent a b) : Ent (c :: a) (c :: b) := fun M w S ⟨S1, S2, h1, h2, h3, h4⟩ => ⟨S1, S2, h1, h2, h3, h M w S2 h4⟩
theorem holds_one {M : Nat → Prop} {w : World} {c : Chunk} {S : Nat → Prop} : HoldsL M w [c] S ↔ CRep M w c S := by
  constructor
  · rintro ⟨S1, S2, h1, h2, h3, h4⟩
    exact h3.iff fun b => (h1 b).trans ⟨fun h => h.elim id fun h => absurd h (h4 b), .inl⟩
  · intro h
    exact ⟨S, no, fun b => ⟨.inl, fun h => h.elim id fun h => h.elim⟩, fun _ _ h => h, h, fun _ h => h⟩
theorem Ent.app {a a' b b' : List Chunk} (h1 : Ent a a') (h2 : Ent b b') : Ent (a ++ b) (a' ++ b') := fun M w S h => by
  obtain ⟨S1, S2, k1, k2, k3, k4⟩ := h.parts
  exact (h1 _ _ _ k1).append (h2 _ _ _ k2) k3 k4
theorem ent_open (cs : List Chunk) : Ent [.ext (listA cs)] cs := fun M w S h => holds_one.1 h
theorem ent_shut (cs : List Chunk) : Ent cs [.ext (listA cs)] := fun M w S h => holds_one.2 h
theorem ent_focus (a c b : List Chunk) : Ent [.ext (listA (a ++ (c ++ b)))] (c ++ [.ext (listA (a ++ b))]) :=
  (ent_open _).trans ((Ent.perm ((List.perm_append_comm_assoc a c b))).trans (Ent.app (Ent.refl c) (ent_shut _)))
theorem ent_unfocus (a c b : List Chunk) : Ent (c ++ [.ext (listA (a ++ b))]) [.ext (listA (a ++ (c ++ b)))] :=
  (Ent.app (Ent.refl c) (ent_open _)).trans ((Ent.perm (List.perm_append_comm_assoc a c b).symm).trans (ent_shut _))
section
variable {P : Program} {n : Nat} {Q : Exit → Act → World → Prop} {c : Ctx} {s : AMS} {f : AEnv} {σ : Store}
theorem a_ent (ks ks' : List Nat) {cs : List Chunk} {σr : Store} (cs' : List Chunk) (hst : s.still = true) (ht : takes σ ks = some (cs, σr)) (he : Ent cs cs') (hk : rekK ks' cs' σr fun σ1 => DenA c P n Q s f σ1) : DenA c P n Q s f σ := by
  rw [rekK_eq] at hk
  refine a_ghost hst (fun Y S w fc hdY hh henv => ?_) hk
  obtain ⟨S1, S2, h1, h2, hS, hdis⟩ := hh.takes ht
  exact ⟨S, ((he _ _ _ h1).zip ks').append h2 hdis hS, henv, fun b h => h⟩
end
end Go.Proofs.YtjcolfogmmjaoaaGreatDoor.A
end

section
set_option linter.unusedVariables false
set_option linter.unusedSectionVars false
set_option linter.unusedSimpArgs false
namespace Go.Proofs.YtjcolfogmmjaoaaGreatDoor.A
open V
def mapG {κ β : Type} (kv : κ → Value) (va : β → AV) (l : List (κ × β)) : List (Value × AV) := l.map fun p => (kv p.1, va p.2)
theorem mapE_map {κ β : Type} (kv : κ → Value) (va : β → AV) (l : List (κ × β)) : mapE kv (l.map fun p => (p.1, va p.2)) = mapG kv va l := by unfold mapE mapG; rw [List.map_map]; rfl
theorem aget_map {κ β γ : Type} [DecidableEq κ] (g : β → γ) : ∀ (l : List (κ × β)) (k : κ), aget (l.map fun p => (p.1, g p.2)) k = (aget l k).map g
  | [], k => rfl
  | p :: l, k => by
    obtain ⟨j, v⟩ := p
    simp only [List.map_cons, aget]
    split
    · rfl
    · exact aget_map g l k
theorem aput_map {κ β γ : Type} [DecidableEq κ] (g : β → γ) : ∀ (l : List (κ × β)) (k : κ) (v : β), aput (l.map fun p => (p.1, g p.2)) k (g v) = (aput l k v).map fun p => (p.1, g p.2)
  | [], k, v => rfl
  | p :: l, k, v => by
    obtain ⟨j, u⟩ := p
    simp only [List.map_cons, aput]
    split
    · rfl
    · rw [List.map_cons, aput_map g l k v]
section
variable {P : Program} {L : List TD} {n : Nat} {Q : Exit → Act → World → Prop} {c : Ctx}
variable {s : AMS} {f f' : AEnv} {σ σ' : Store} {ob : Obs} {κ : List Kt} {all : Array Oper} {dec : List Nat} {o : Oper} {al : Bool} {rest : List (Oper × Bool)} {m : Mode}
variable {κ' β : Type} [DecidableEq κ'] {kv : κ' → Value} {va : β → AV}
theorem a_lookG (hT : TOk P L) {t kt et : TypeId} {x y : Operand} {r r' h0 hk0 : Nat} {es : List (Value × AV)} {z : Value} (l : List (κ' × β)) (k : κ') (res : Option β) {ok : Bool} (h : machA L n fuel s f σ [] = ⟨.op m κ all dec o true rest, f', σ', ob⟩) (hob : ob.map (·.1) = ob.map (·.2)) (ho : o.op = .lookup t x y ok) (ht : mapT P t kt et = true) (hko : KeyOk P kt kv) (hz : (P.info? et).map (·.zero) = some (some z))
    (hx : evA n f' x = .v (.map (some r)) h0) (hl : look σ' h0 = some (.map r' es)) (hrr : r = r') (hes : es = mapG kv va l) (hy : evN n f' y = .v (kv k) hk0) (hres : aget l k = res)
    (hk : DenA c P n Q (.ops (m.hap true) κ all dec rest) (putA f' o.dst (if ok then .tup [(res.map va).getD (cAV z), .v (.bool res.isSome) 0] else (res.map va).getD (cAV z))) σ') : DenA c P n Q s f σ := by
  have := a_look (Q := Q) (c := c) hT (l.map fun p => (p.1, va p.2)) k (res.map va) h hob ho ht hko hz hx hl hrr (by rw [mapE_map]; exact hes) hy (by rw [aget_map, hres])
  refine this ?_
  have e : (res.map va).isSome = res.isSome := by cases res <;> rfl
  rw [e]
  exact hk
theorem a_mputG (hT : TOk P L) {t kt et : TypeId} {x y u : Operand} {r r' h0 hk0 : Nat} {es : List (Value × AV)} (l : List (κ' × β)) (k : κ') (b : β) (h : machA L n fuel s f σ [] = ⟨.op m κ all dec o true rest, f', σ', ob⟩) (hob : ob.map (·.1) = ob.map (·.2)) (ho : o.op = .mapUpdate t x y u) (ht : mapT P t kt et = true) (hko : KeyOk P kt kv)
    (hx : evA n f' x = .v (.map (some r)) h0) (hl : look σ' h0 = some (.map r' es)) (hrr : r = r') (hes : es = mapG kv va l) (hy : evN n f' y = .v (kv k) hk0) (hv : evA n f' u = va b)
    (hk : DenA c P n Q (.ops (m.hap true) κ all dec rest) (putA f' o.dst (.v undef 0)) (upd σ' h0 (.map r' (mapG kv va (aput l k b))))) : DenA c P n Q s f σ := by
  refine a_mput hT (l.map fun p => (p.1, va p.2)) k h hob ho ht hko hx hl hrr (by rw [mapE_map]; exact hes) hy ?_
  rw [hv, aput_map, mapE_map]
  exact hk
end
def left {α : Type} (l : List (Bool × α)) : Nat := (l.filter fun q => !q.1).length
end Go.Proofs.YtjcolfogmmjaoaaGreatDoor.A
end

section
set_option linter.unusedVariables false
set_option linter.unusedSimpArgs false
namespace Go.Proofs.YtjcolfogmmjaoaaGreatDoor.A
open V
mutual
theorem Fit.refl : ∀ a : AV, Fit a a
  | .v x _ => by unfold Fit; rfl
  | .d x => by unfold Fit; rfl
  | .row x _ => by unfold Fit; rfl
  | .agg xs => by unfold Fit; exact Fits.refl xs
  | .tup xs => by unfold Fit; exact Fits.refl xs
  | .ifc t a => by unfold Fit; exact ⟨rfl, Fit.refl a⟩
  | .fn g xs => by unfold Fit; exact ⟨rfl, Fits.refl xs⟩
  | .any => by unfold Fit; trivial
theorem Fits.refl : ∀ axs : List AV, Fits axs axs
  | [] => by unfold Fits; trivial
  | a :: axs => by unfold Fits; exact ⟨Fit.refl a, Fits.refl axs⟩
end
theorem FSpec.frame {P : Program} {g : FuncId} {args : List AV} {cs : List Chunk} {R : AV → List Chunk → Prop} (h : FSpec P g args cs R) (F : List Chunk) : FSpec P g args (cs ++ F) fun a cs' => ∃ cs1, cs' = cs1 ++ F ∧ R a cs1 :=
  ⟨fun X S w xs h1 h2 h3 h4 => by
    obtain ⟨S1, S2, k1, k2, k3, k4⟩ := h3.parts
    have hM : ∀ b, or2 S1 (or2 S2 X) b → or2 S X b := fun b h => h.elim (fun h => .inl ((k4 b).2 (.inl h))) fun h => h.elim (fun h => .inl ((k4 b).2 (.inr h))) .inr
    have hlt : ∀ b, S2 b → b < w.heap.size := fun b hb => Holds.lt k2 b hb
    refine (h.out (or2 S2 X) S1 w xs (fun b hb h => h.elim (k3 b hb) (h1 b ((k4 b).2 (.inl hb)))) (fun b hb => hb.elim (hlt b) (h2 b)) (Holds.of k1 fun b _ h => hM b h) (h4.of fun b _ h => hM b h)).mono ?_
    rintro e w' ⟨v, a, cs', S', rfl, q1, q2, q3, q4, q5⟩
    have hN : ∀ b, or2 (or2 S' S2) X b → or2 S' (or2 S2 X) b := fun b h => h.elim (fun h => h.elim .inl fun h => .inr (.inl h)) fun h => .inr (.inr h)
    refine ⟨v, a, cs' ++ F, or2 S' S2, rfl, ⟨cs', rfl, q1⟩, q2.of fun b _ h => hN b h, HoldsL.append (Holds.of q3 fun b _ h => hN b h) (HoldsL.ev q4 (fun b hb h => ?_) k2 fun b hb h => k3 b h hb) (fun b hb h => ?_) (fun b => Iff.rfl), q4.mono fun b _ h => (k4 b).2 (.inl h), fun b hb => ?_⟩
    · rcases h with h | h | h
      · exact .inl ((k4 b).2 (.inl h))
      · rcases h with h | h
        · rcases q5 b h with h | h
          · exact .inl ((k4 b).2 (.inl h))
          · omega
        · exact .inl ((k4 b).2 (.inr h))
      · exact .inr h
    · rcases q5 b hb with h' | h'
      · exact k3 b h' h
      · have := hlt b h; omega
    · rcases hb with hb | hb
      · exact (q5 b hb).imp (fun h => (k4 b).2 (.inl h)) id
      · exact .inl ((k4 b).2 (.inr hb))⟩
theorem FSpec.freeze {P : Program} {g : FuncId} {args : List AV} {cs : List Chunk} {e k hh : Nat} {es : List (List Dat)} (h : FSpec P g args cs fun a cs' => ∃ x, a = .row x hh ∧ cs' = [.row x e k es]) : FSpec P g args cs fun a cs' => a = .d (.sl k es) ∧ cs' = [] :=
  ⟨fun X S w xs h1 h2 h3 h4 => (h.out X S w xs h1 h2 h3 h4).mono fun en w' hp => by
    obtain ⟨v, a, cs', S', rfl, ⟨x, rfl, rfl⟩, q2, q3, q4, q5⟩ := hp
    have hc := holds_one.1 q3
    have hx : v = x := by unfold Rep at q2; exact q2.1
    subst hx
    have hd : ∀ b, S' b → ¬ X b := fun b hb hx => by
      rcases q5 b hb with h | h
      · exact h1 b h hx
      · have := h2 b hx; omega
    have hf := row_frozen (S1 := S') (S2 := no) (S := S') (Y := X) hc (fun b => ⟨.inl, fun h => h.elim id fun h => h.elim⟩) (fun _ _ h => h.elim) hd
    exact ⟨v, .d (.sl k es), [], no, rfl, ⟨rfl, rfl⟩, by unfold Rep; exact hf, fun b h => h, q4, fun b h => h.elim⟩⟩
section
variable {P : Program} {L : List TD} {n : Nat} {Q : Exit → Act → World → Prop} {c : Ctx}
variable {s : AMS} {f f' : AEnv} {σ σ' : Store} {ob : Obs} {κ : List Kt} {all : Array Oper} {dec : List Nat} {o : Oper} {al : Bool} {rest : List (Oper × Bool)} {m : Mode}
theorem exec_sl_nil {P : Program} {L : List TD} (hT : TOk P L) {n : Nat} {fc : Env} {o : Oper} {t yt e : TypeId} {k : Nat} {x y : Operand} {A : Option Addr} {l cap : Nat} (ho : o.op = .binOp .eql t x y yt) (hx : ev n fc x = .slice A l cap) (hy : ev n fc y = .slice none 0 0) (ht : tl L t = .sl e k) (w : World) :
    (execOp (ev n fc) o).run P w = .ok (.value (.bool A.isNone)) w := by
  rw [run_binOp ho, hx, hy, guard_int (by simp)]
  have hu := (sl_tl hT ht).1
  have he : (Op.equal t (.slice A l cap) (.slice none 0 0)).run P w = .ok A.isNone w := by
    show (Op.equalIn (9999 + 1) t _ _).run P w = _
    unfold Op.equalIn
    cases A <;> simp [underlying, hu]
  show (Result.ok () w).andThen _ = _
  simp [binOp, he]
theorem a_isnil (hT : TOk P L) {t yt e : TypeId} {k k2 h1 : Nat} {x y : Operand} {es : List (List Dat)} (h : machA L n fuel s f σ [] = ⟨.op m κ all dec o true rest, f', σ', ob⟩) (hob : ob.map (·.1) = ob.map (·.2)) (ho : o.op = .binOp .eql t x y yt) (ht : tl L t = .sl e k)
    (hx : evA n f' x = .d (.sl k2 es)) (hy : evA n f' y = .v (.slice none 0 0) h1)
    (hk : ∀ b, (b = true → es = []) → DenA c P n Q (.ops (m.hap true) κ all dec rest) (putA f' o.dst (.v (.bool b) 0)) σ') : DenA c P n Q s f σ := by
  refine a_eff hT (fun a σ1 => ∃ b : Bool, (b = true → es = []) ∧ a = .v (.bool b) 0 ∧ σ1 = σ') h hob (fun Y Su w fc hd hY hh he => ?_) (fun a σ1 ⟨b, hb, ha, hs⟩ => by subst ha; subst hs; exact hk b hb)
  have h1 := he.eval (n := n) x
  have h2 := he.eval (n := n) y
  rw [hx] at h1
  rw [hy] at h2
  unfold Rep at h1 h2
  unfold DRep at h1
  obtain ⟨A, cap, e1, _, _, h3⟩ := h1
  rw [exec_sl_nil hT ho e1 h2 ht]
  refine ⟨_, _, Su, ⟨A.isNone, fun hn => ?_, rfl, rfl⟩, mk_v, hh, Ev.refl _ w, fun b hb => .inl hb⟩
  cases A with
  | none =>
    apply Classical.byContradiction
    intro hne
    obtain ⟨ad, hc, _⟩ := h3 hne
    cases hc
  | some a => cases hn
theorem row_nil {M : Nat → Prop} {w : World} (e k : Nat) : CRep M w (.row (.slice none 0 0) e k []) no :=
  ⟨fun b => ⟨fun h => h.elim, fun h => by cases h⟩, by simp, [], World.ownsRow_nil w 0 e k, VRep.nil⟩
theorem a_nextE (hT : TOk P L) {X : Type} {l : List Nat} {vs : X → List AV} {sg : X → Store} {φ : X → Prop} {cs : List Chunk} {σr : Store} (x' : X) (ks : List Nat) (h : machA L n fuel s f σ [] = ⟨.nrm (.inv (InvA c n l vs sg φ) :: κ), f', σ', ob⟩) (hob : ob.map (·.1) = ob.map (·.2)) (hx : φ x')
    (hf : Fits (l.map (getA f')) (vs x')) (ht : takes σ' ks = some (cs, σr)) (hc : Ent cs ((sg x').map (·.2))) : DenA c P n Q s f σ := by
  refine a_go hT h hob fun hok w S fc Sg hs hh => ?_
  show InvA c n l vs sg φ (act n fc) w
  obtain ⟨S1, S2, h1, h2, hS, hdis⟩ := hh.takes ht
  have hM : ∀ b, or2 S1 c.X b → or2 S c.X b := fun b h => h.elim (fun h => .inl ((hS b).2 (.inl h))) .inr
  refine ⟨x', fc, S1, rfl, hx, ⟨fits_over (hs.env.of fun b _ h => hM b h) hf, hs.ev, fun b hb => hs.sub b ((hS b).2 (.inl hb))⟩, ?_⟩
  have := (hc _ _ _ h1).zip ((sg x').map (·.1))
  refine Holds.keys (this.of fun b _ h => hM b h) ?_
  rw [zipk_snd]
theorem a_run (hT : TOk P L) (q : Nat) {s' : AMS} (h : machA L n q s f σ [] = ⟨.st s', f', σ', ob⟩) (hob : ob.map (·.1) = ob.map (·.2)) (hk : DenA c P n Q s' f' σ') : DenA c P n Q s f σ :=
  ⟨machA_sound hT q s f σ [] (by rw [h]; exact OT.of hob) (by rw [h]; exact hk.out)⟩
theorem a_nilrow (t kn e k : Nat) {hh : Nat} (hst : s.still = true) (ht : getA f t = .v (.slice none 0 0) hh) (hk : DenA c P n Q s ((t, .row (.slice none 0 0) kn) :: f) ((kn, .row (.slice none 0 0) e k []) :: σ)) : DenA c P n Q s f σ := by
  refine a_ghost hst (fun Y S w fc hdY hh henv => ?_) hk
  refine ⟨S, ⟨no, S, fun b => ⟨.inr, fun h => h.elim (fun h => h.elim) id⟩, fun _ h => h.elim, row_nil e k, hh⟩, fun t' => ?_, fun b h => h⟩
  rw [getA_cons]
  split
  · rename_i e
    subst e
    have := henv t'
    rw [ht] at this
    unfold Rep at this ⊢
    exact ⟨this, rfl⟩
  · exact henv t'
end
end Go.Proofs.YtjcolfogmmjaoaaGreatDoor.A
end

section
set_option linter.unusedVariables false
set_option linter.unusedSectionVars false
set_option linter.unusedSimpArgs false
namespace Go.Proofs.YtjcolfogmmjaoaaGreatDoor.A
open V
section
variable {P : Program} {L : List TD} {n : Nat} {Q : Exit → Act → World → Prop} {c : Ctx}
variable {s : AMS} {f f' : AEnv} {σ σ' : Store} {ob : Obs} {κ : List Kt} {all : Array Oper} {dec : List Nat} {o : Oper} {al : Bool} {rest : List (Oper × Bool)} {m : Mode}
theorem a_rowfact (h0 : Nat) {x : Value} {e k : Nat} {es : List (List Dat)} (hst : s.still = true) (hl : look σ h0 = some (.row x e k es))
    (hk : (x = .slice none 0 0 ∧ es = []) ∨ (∃ g cap, x = .slice (some ⟨g, 0, none⟩) es.length cap) → DenA c P n Q s f σ) : DenA c P n Q s f σ := by
  refine ⟨fun hok w S fc Sg hs hh => ?_⟩
  have hp : s.mode = .plain ∨ s.mode = .rest ∨ ∃ ex, s.mode = .last ex := by
    cases s with
    | ops m κ all dec rest => cases m <;> first | exact .inl rfl | exact .inr (.inl rfl) | exact .inr (.inr ⟨_, rfl⟩) | cases hst
    | _ => exact .inl rfl
  have hh0 : Holds (or2 S c.X) w σ S := by rcases hp with e | e | ⟨ex, e⟩ <;> (rw [e] at hh; exact hh)
  obtain ⟨S1, S2, hS, hd, hc, _⟩ := hh0.take hl
  obtain ⟨_, _, xs, ho, _⟩ := hc
  refine (hk ?_).out hok w S fc Sg hs hh
  rcases ho.2 with ⟨h1, h2⟩ | ⟨g, cap, cur, h1, _⟩
  · exact .inl ⟨h1, List.eq_nil_of_length_eq_zero h2⟩
  · exact .inr ⟨g, cap, h1⟩
theorem a_rix (hT : TOk P L) {t e : TypeId} {k hh h2 l cap g : Nat} {x y : Operand} {ki : IntKind} {i : Int} (j : Nat) (h : machA L n fuel s f σ [] = ⟨.op m κ all dec o al rest, f', σ', ob⟩) (hob : ob.map (·.1) = ob.map (·.2)) (ho : o.op = .indexAddr t x y) (ht : tl L t = .sl e k)
    (hx : evA n f' x = .row (.slice (some ⟨g, 0, none⟩) l cap) hh) (hy : evN n f' y = .v (.int ki i) h2) (hi : i = (j : Int)) (hj : j < l) (hk : DenA c P n Q (.ops m κ all dec rest) (putA f' o.dst (.v (.pointer (some ⟨g, j * k, none⟩)) hh)) σ') : DenA c P n Q s f σ := by
  subst hi
  refine a_pure hT (.v (.pointer (some ⟨g, j * k, none⟩)) hh) h hob (fun M w fc he => ?_) hk
  obtain ⟨hu, hi, hm⟩ := sl_tl hT ht
  have h1 := he.eval (n := n) x
  have h2 := he.evalN (n := n) y
  rw [hx] at h1
  rw [hy] at h2
  unfold Rep at h1
  refine ⟨.pointer (some ⟨g, j * k, none⟩), fun w' => ?_, mk_v⟩
  simp [execOp, ho, Instr.indexAt, h1.1, rep_v h2, asIntOf, underlying, hu, hj, run_sizeOf' hi, hm, Addr.add]
  intro h0
  rw [h0]
theorem add_off (g a j : Nat) : (⟨g, a, none⟩ : Addr).add j = ⟨g, a + j, none⟩ := by
  unfold Addr.add
  by_cases h : j = 0
  · subst h; simp
  · simp [h]
theorem flat_part {k : Nat} : ∀ {es : List (List Dat)} {i : Nat} {d : List Dat}, (∀ e ∈ es, e.length = k) → es[i]? = some d → (es.flatten.drop (i * k)).take k = d
  | [], i, d, hl, h => by simp at h
  | e :: es, 0, d, hl, h => by
    simp at h
    subst h
    have := hl e (by simp)
    rw [Nat.zero_mul, List.drop_zero, List.flatten_cons, List.take_append_of_le_length (by omega), List.take_of_length_le (by omega)]
  | e :: es, i + 1, d, hl, h => by
    have he := hl e (by simp)
    have := flat_part (es := es) (i := i) (d := d) (fun e' h' => hl e' (by simp [h'])) (by simpa using h)
    rw [List.flatten_cons, List.drop_append, List.drop_eq_nil_of_le (by rw [he, Nat.succ_mul]; omega), he, List.nil_append, show (i + 1) * k - k = i * k by rw [Nat.succ_mul]; omega]
    exact this
theorem row_elem {M : Nat → Prop} {w : World} {S1 : Nat → Prop} {g l cap e k i : Nat} {es : List (List Dat)} {d : List Dat} (hc : CRep M w (.row (.slice (some ⟨g, 0, none⟩) l cap) e k es) S1) (hd : es[i]? = some d) :
    S1 g ∧ ∃ ys, Reps M w (dcells d) ys ∧ (∀ u ∈ ys, u.oneCell' = true) ∧ Cells w ⟨g, i * k, none⟩ ys := by
  obtain ⟨hS1, hk, xs, ho, hv⟩ := hc
  refine ⟨(hS1 g).2 rfl, (xs.drop (i * k)).take k, ?_, fun u hu => hv.one u (List.mem_of_mem_drop (List.mem_of_mem_take hu)), fun j v hj => ?_⟩
  · have := ((Reps.ofV hv).drop (i * k)).take k
    rw [← List.map_drop, ← List.map_take, flat_part hk hd] at this
    rw [dcells_eq]
    exact this
  · have hjk : j < k := by have := (List.getElem?_eq_some_iff.1 hj).1; simp at this; omega
    rw [List.getElem?_take_of_lt hjk, List.getElem?_drop] at hj
    have := ho.cells (g := g) rfl _ _ hj
    rw [add_off] at this ⊢
    rwa [Nat.zero_add] at this
theorem a_rld (hT : TOk P L) {t e : TypeId} {x : Operand} {g k hh l cap off : Nat} {es : List (List Dat)} {v' : Value} (i j : Nat) (d : List Dat) (a : AV) (h : machA L n fuel s f σ [] = ⟨.op m κ all dec o true rest, f', σ', ob⟩) (hob : ob.map (·.1) = ob.map (·.2)) (ho : o.op = .load t x)
    (hx : evA n f' x = .v (.pointer (some ⟨g, off, none⟩)) hh) (hl : look σ' hh = some (.row v' e k es)) (hv' : v' = .slice (some ⟨g, 0, none⟩) l cap) (hoff : off = i * k + j) (hd : es[i]? = some d) (hld : loadK L t (dcells d) j some none = some a)
    (hk : DenA c P n Q (.ops (m.hap true) κ all dec rest) (putA f' o.dst a) σ') : DenA c P n Q s f σ := by
  subst hv'
  subst hoff
  refine a_eff hT (fun a1 σ1 => a1 = a ∧ σ1 = σ') h hob (fun Y Su w fc hdd hY hhd henv => ?_) (fun a1 σ1 ⟨ha, hs⟩ => by subst ha; subst hs; exact hk)
  obtain ⟨S1, S2, hS, hdis, hc, _⟩ := hhd.take hl
  obtain ⟨_, ys, hr, h1, hcl⟩ := row_elem hc hd
  have hxv := henv.eval (n := n) x
  rw [hx] at hxv
  rcases loadK_says (P := P) hT (t := t) hr h1 j (W := fun w' => w' = w) (ad := ⟨g, i * k, none⟩) (fun w' e => by subst e; exact hcl) with hz | ⟨a', ha', v, hv, hrv⟩
  · rw [hz] at hld; cases hld
  · rw [ha'] at hld
    cases hld
    have hv := hv w rfl
    rw [add_off] at hv
    rw [exec_load ho (rep_v hxv) hv]
    exact ⟨_, _, Su, ⟨rfl, rfl⟩, hrv, hhd, Ev.refl _ _, fun b hb => .inl hb⟩
theorem a_treeN (hT : TOk P L) {fn : Func} {R : Ending → World → Prop} {id : Nat} {ops : Array Oper} {cu : List Chunk} {σp : Store} {X : Type} (l : List Nat) (vs : X → List AV) (sg : X → Store) (φ : X → Prop) (us : List Nat) (x : Nat) (ord : List (Nat × Bool)) (h : machA L n fuel s f σ [] = ⟨.draw κ id ops, f', σ', ob⟩) (hob : ob.map (·.1) = ob.map (·.2)) (hm : P.follows .mixedOrders = true)
    (ho : (Nat.ble ord.length ops.size && Region.noSelect ops && (ordTo ops (Array.replicate ops.size false) ord).isSome && (!(Nat.blt x ops.size) || waitsAll .any ops x) && xOk x ord) = true) (ht : takes σ' us = some (cu, σp))
    (hk : DenA c P n (bodyPost P fn R) (.ops (.reg true σp ⟨false, some (x, ops.size - ord.length, (ordTo ops (Array.replicate ops.size false) ord).getD #[])⟩) (.inv (InvA c n l vs sg φ) :: κ) ops [] (selK ops.toList ord)) f' (zipk us cu))
    (h2 : ∀ x, φ x → DenA c P n (bodyPost P fn R) (.nrm κ) (overA l (vs x)) (sg x)) : DenA c P n (bodyPost P fn R) s f σ := by
  simp only [Bool.and_eq_true] at ho
  refine a_go hT h hob fun hok w S fc Sg hs hh => ?_
  obtain ⟨Sg', hg, hs', hh'⟩ := reg_begin (ex := ⟨false, some (x, ops.size - ord.length, (ordTo ops (Array.replicate ops.size false) ord).getD #[])⟩) hs hh ht
  show (Code.region id ops true).wp P (post P (bodyPost P fn R) κ) (act n fc) w
  have h1 : (Code.region id ops true).wp P (post P (bodyPost P fn R) (.inv (InvA c n l vs sg φ) :: κ)) (act n fc) w := by
    refine wp_region_tree (S := Sg') (x := x) ord hm (Nat.le_of_ble_eq_true ho.1.1.1.1) ho.1.1.1.2 ho.1.1.2 (fun hlt => ?_) ho.2 ?_ hg false (fun h => by cases h) (hk.out trivial w.drew S fc Sg' hs' hh')
    · have h2 := ho.1.2
      rw [Bool.or_eq_true, Bool.not_eq_true'] at h2
      rcases h2 with h2 | h2
      · rw [show Nat.blt x ops.size = true by simpa [Nat.blt_eq] using hlt] at h2; cases h2
      · exact h2
    · intro cc a d v w hp
      rw [post_panic] at hp ⊢
      exact ⟨by simpa [Act.put] using (show (a.put d v).defers = [] from hp.1) |> fun h => by cases d <;> simpa [Act.put] using h, hp.2⟩
  refine wp_mono h1 ?_
  intro e a' w' he
  cases e with
  | normal =>
    obtain ⟨x', fc', S', rfl, hx', hs', hh'⟩ := he
    exact (h2 x' hx').out trivial w' S' fc' (fun _ => True) hs' hh'
  | _ => exact he
end
end Go.Proofs.YtjcolfogmmjaoaaGreatDoor.A
end

section
set_option linter.unusedVariables false
set_option linter.unusedSectionVars false
set_option linter.unusedSimpArgs false
namespace Go.Proofs.YtjcolfogmmjaoaaGreatDoor.A
open V
section
variable {P : Program} {L : List TD} {n : Nat} {Q : Exit → Act → World → Prop} {c : Ctx}
variable {s : AMS} {f f' : AEnv} {σ σ' : Store} {ob : Obs} {κ : List Kt} {all : Array Oper} {dec : List Nat} {o : Oper} {al : Bool} {rest : List (Oper × Bool)} {m : Mode}
theorem flat_set {k : Nat} : ∀ {es : List (List Dat)} {i j : Nat} {ds : List Dat} (d : Dat), (∀ e ∈ es, e.length = k) → es[i]? = some ds → j < k → (es.set i (ds.set j d)).flatten = es.flatten.set (i * k + j) d
  | [], i, j, ds, d, hl, h, hj => by simp at h
  | e :: es, 0, j, ds, d, hl, h, hj => by
    simp at h
    subst h
    have := hl e (by simp)
    rw [List.set_cons_zero, List.flatten_cons, List.flatten_cons, Nat.zero_mul, Nat.zero_add, List.set_append_left _ _ (by omega)]
  | e :: es, i + 1, j, ds, d, hl, h, hj => by
    have he := hl e (by simp)
    have := flat_set (es := es) (i := i) (j := j) (ds := ds) d (fun e' h' => hl e' (by simp [h'])) (by simpa using h) hj
    rw [List.set_cons_succ, List.flatten_cons, List.flatten_cons, this, List.set_append_right _ _ (by rw [he, Nat.succ_mul]; omega), he, show (i + 1) * k + j - k = i * k + j by rw [Nat.succ_mul]; omega]
theorem vrep_set {M : Nat → Prop} {w : World} : ∀ {ds : List Dat} {xs : List Value} (i : Nat) {d : Dat} {u : Value}, VRep M w ds xs → DRep M w d u → VRep M w (ds.set i d) (xs.set i u)
  | [], xs, i, d, u, h, hd => by unfold VRep at h; subst h; simp; exact VRep.nil
  | d0 :: ds, xs, 0, d, u, h, hd => by
    unfold VRep at h
    obtain ⟨x, r, rfl, h1, h2⟩ := h
    rw [List.set_cons_zero, List.set_cons_zero]
    unfold VRep
    exact ⟨u, r, rfl, hd, h2⟩
  | d0 :: ds, xs, i + 1, d, u, h, hd => by
    unfold VRep at h
    obtain ⟨x, r, rfl, h1, h2⟩ := h
    rw [List.set_cons_succ, List.set_cons_succ]
    unfold VRep
    exact ⟨x, r.set i u, rfl, h1, vrep_set i h2 hd⟩
theorem VRep.split' {M : Nat → Prop} {w : World} : ∀ {ds : List Dat} {xs : List Value}, VRep M w ds xs → ∀ n, VRep M w (ds.take n) (xs.take n)
  | [], xs, h, n => by unfold VRep at h; subst h; simp; exact VRep.nil
  | d :: ds, xs, h, 0 => by simp; exact VRep.nil
  | d :: ds, xs, h, n + 1 => by
    unfold VRep at h
    obtain ⟨x, r, rfl, h1, h3⟩ := h
    exact VRep.cons h1 (h3.split' n)
theorem a_rst (hT : TOk P L) {t e : TypeId} {x y : Operand} {g k hh l cap off : Nat} {es : List (List Dat)} {v' : Value} (i j : Nat) (ds : List Dat) (d : Dat) (h : machA L n fuel s f σ [] = ⟨.op m κ all dec o true rest, f', σ', ob⟩) (hob : ob.map (·.1) = ob.map (·.2)) (ho : o.op = .store t x y) (ht : oneT (tl L t) = true)
    (hx : evA n f' x = .v (.pointer (some ⟨g, off, none⟩)) hh) (hl : look σ' hh = some (.row v' e k es)) (hv' : v' = .slice (some ⟨g, 0, none⟩) l cap) (hoff : off = i * k + j) (hd : es[i]? = some ds) (hj : j < k) (hy : datK (evA n f' y) = some d)
    (hk : DenA c P n Q (.ops (m.hap true) κ all dec rest) (putA f' o.dst (.v undef 0)) (upd σ' hh (.row v' e k (es.set i (ds.set j d))))) : DenA c P n Q s f σ := by
  subst hv'
  subst hoff
  refine a_eff hT (fun a1 σ1 => a1 = .v undef 0 ∧ σ1 = upd σ' hh (.row (.slice (some ⟨g, 0, none⟩) l cap) e k (es.set i (ds.set j d)))) h hob (fun Y Su w fc hdd hY hhd henv => ?_) (fun a1 σ1 ⟨ha, hs⟩ => by subst ha; subst hs; exact hk)
  obtain ⟨S1, S2, hS, hdis, hc, hrest⟩ := hhd.take hl
  obtain ⟨hS1, hkl, xs, ho', hv⟩ := hc
  have hxv := henv.eval (n := n) x
  rw [hx] at hxv
  have hyv := datK_rep hy (henv.eval (n := n) y)
  generalize hu : ev n fc y = u at hyv
  have h1 := hyv.one
  have hlt := (List.getElem?_eq_some_iff.1 hd).1
  have hlen : i * k + j < es.length * k := by
    have : (i + 1) * k ≤ es.length * k := Nat.mul_le_mul_right _ hlt
    rw [Nat.succ_mul] at this
    omega
  rcases ho'.2 with ⟨hbad, _⟩ | ⟨g', cap', cur, hvv, hb0, hgg, hn, hcap, hsz, htk⟩
  · cases hbad
  simp only [Value.slice.injEq, Option.some.injEq, Addr.mk.injEq, and_true] at hvv
  obtain ⟨rfl, rfl, rfl⟩ := hvv
  have hblk : Blk w g e cur.toList := by unfold Blk; simpa using hgg
  have hoff : i * k + j < cur.toList.length := by
    have : es.length * k ≤ cap * k := Nat.mul_le_mul_right _ hn
    simp
    omega
  have hone := one_tl hT ht
  obtain ⟨td, htd, _, hsz1⟩ := hone
  have hrun : (execOp (ev n fc) o).run P w = .ok .skip (w.setCell ⟨g, i * k + j, none⟩ u) := by
    have := exec_store (P := P) (n := n) (f := fc) (w := w) (vs := [u]) hT ho (rep_v hxv) (by rw [hu]; exact cells_one h1) hsz1 (some_of_one htd) (by simpa using h1) (fun q hq => by
      obtain rfl : q = 0 := by simpa using hq
      simp [Addr.add, hblk.cell (i * k + j) (List.getElem?_eq_getElem hoff), hblk.free])
    simpa [setAll, Addr.add] using this
  rw [hrun]
  have hSg : S1 g := (hS1 g).2 rfl
  have hev : Ev (at1 g) w (w.setCell ⟨g, i * k + j, none⟩ u) := Ev.setCell w ⟨g, i * k + j, none⟩ u
  have hm : ∀ b, b < w.heap.size → at1 g b ∨ or2 Su Y b → or2 Su Y b := fun b _ h => h.elim (fun h => by rw [show b = g from h]; exact .inl ((hS g).2 (.inl hSg))) id
  refine ⟨_, _, Su, ⟨rfl, rfl⟩, mk_v, ?_, hev.mono fun b _ h => by rw [show b = g from h]; exact (hS g).2 (.inl hSg), fun b hb => .inl hb⟩
  refine (Holds.upd (S1 := S1) (c' := .row (.slice (some ⟨g, 0, none⟩) es.length cap) e k (es.set i (ds.set j d))) hev hm hhd hl hrest (fun b hb hg => hdis b (by rw [show b = g from hg]; exact hSg) hb) hdis ⟨hS1, ?_, xs.set (i * k + j) u, ?_, ?_⟩).iff hS
  · intro e' he'
    rcases List.mem_or_eq_of_mem_set he' with h | rfl
    · exact hkl e' h
    · rw [List.length_set]; exact hkl ds (List.mem_of_getElem? hd)
  · refine ⟨?_, .inr ⟨g, cap, (cur.toList.set (i * k + j) u).toArray, by simp, hb0, by simpa [Blk] using hblk.set (i * k + j) u, by simpa using hn, hcap, by simpa using hsz, ?_⟩⟩
    · rw [List.length_set, List.length_set]; exact ho'.1
    · rw [List.length_set, ← htk]
      simp [List.take_set]
  · rw [flat_set d hkl hd hj]
    exact (vrep_set _ hv hyv).ev hev hm
theorem take_flat {k : Nat} : ∀ {es : List (List Dat)} (r : Nat), (∀ e ∈ es, e.length = k) → (es.take r).flatten = es.flatten.take (r * k)
  | [], r, h => by simp
  | e :: es, 0, h => by simp
  | e :: es, r + 1, h => by
    have he := h e (by simp)
    have h5 : e.take ((r + 1) * k) = e := List.take_of_length_le (by rw [he, Nat.succ_mul]; omega)
    rw [List.take_succ_cons, List.flatten_cons, List.flatten_cons, take_flat r fun e' h' => h e' (by simp [h']), List.take_append, h5, he, show (r + 1) * k - k = r * k by rw [Nat.succ_mul]; omega]
theorem a_rsl (hT : TOk P L) {t e : TypeId} {x y : Operand} {q : IntKind} {i : Int} {g k hh h2 l cap : Nat} {es : List (List Dat)} {v' : Value} (r : Nat) (h : machA L n fuel s f σ [] = ⟨.op m κ all dec o true rest, f', σ', ob⟩) (hob : ob.map (·.1) = ob.map (·.2)) (ho : o.op = .slice t x none (some y) none) (ht : tl L t = .sl e k)
    (hx : evA n f' x = .row (.slice (some ⟨g, 0, none⟩) l cap) hh) (hl : look σ' hh = some (.row v' e k es)) (hv' : v' = .slice (some ⟨g, 0, none⟩) l cap) (hy : evN n f' y = .v (.int q i) h2) (hi : i = (r : Int)) (hr : r ≤ es.length)
    (hk : DenA c P n Q (.ops (m.hap true) κ all dec rest) (putA f' o.dst (.row (.slice (some ⟨g, 0, none⟩) r cap) hh)) (upd σ' hh (.row (.slice (some ⟨g, 0, none⟩) r cap) e k (es.take r)))) : DenA c P n Q s f σ := by
  subst hv'
  subst hi
  refine a_eff hT (fun a1 σ1 => a1 = .row (.slice (some ⟨g, 0, none⟩) r cap) hh ∧ σ1 = upd σ' hh (.row (.slice (some ⟨g, 0, none⟩) r cap) e k (es.take r))) h hob (fun Y Su w fc hdd hY hhd henv => ?_) (fun a1 σ1 ⟨ha, hs⟩ => by subst ha; subst hs; exact hk)
  obtain ⟨S1, S2, hS, hdis, hc, hrest⟩ := hhd.take hl
  obtain ⟨hS1, hkl, xs, ho', hv⟩ := hc
  obtain ⟨hu, hinf, hm⟩ := sl_tl hT ht
  have hxv := henv.eval (n := n) x
  rw [hx] at hxv
  unfold Rep at hxv
  have hyv := rep_v (by have := henv.evalN (n := n) y; rw [hy] at this; exact this : Rep (or2 Su Y) w (.v (.int q (r : Int)) h2) (ev n fc y))
  rcases ho'.2 with ⟨hbad, _⟩ | ⟨g', cap', cur, hvv, hb0, hgg, hn, hcap, hsz, htk⟩
  · cases hbad
  simp only [Value.slice.injEq, Option.some.injEq, Addr.mk.injEq, and_true] at hvv
  obtain ⟨rfl, rfl, rfl⟩ := hvv
  have hrc : r ≤ cap := by omega
  have hrun : (execOp (ev n fc) o).run P w = .ok (.value (.slice (some ⟨g, 0, none⟩) r cap)) w := by
    simp [execOp, ho, Instr.sliceAt, Instr.slice, hxv.1, hyv, underlying, hu, Instr.sliceBounds, Instr.sliceBound, asIntOf, hrc, run_sizeOf' hinf, Addr.add]
  rw [hrun]
  have hev : Ev no w w := Ev.refl no w
  have hm' : ∀ b, b < w.heap.size → no b ∨ or2 Su Y b → or2 Su Y b := fun b _ h => h.elim (fun h => h.elim) id
  refine ⟨_, _, Su, ⟨rfl, rfl⟩, by unfold Rep; exact ⟨rfl, rfl⟩, ?_, Ev.refl _ _, fun b hb => .inl hb⟩
  refine (Holds.upd (S1 := S1) (c' := .row (.slice (some ⟨g, 0, none⟩) r cap) e k (es.take r)) hev hm' hhd hl hrest (fun b hb hg => hg.elim) hdis ⟨hS1, fun e' he' => hkl e' (List.mem_of_mem_take he'), xs.take (r * k), ?_, ?_⟩).iff hS
  · have hlr : (es.take r).length = r := by simp; omega
    rw [hlr]
    refine ⟨?_, .inr ⟨g, cap, cur, rfl, hb0, hgg, hrc, hcap, hsz, ?_⟩⟩
    · rw [List.length_take, ho'.1]
      exact Nat.min_eq_left (Nat.mul_le_mul_right _ hr)
    · rw [← htk, List.take_take]
      congr 1
      exact (Nat.min_eq_left (Nat.mul_le_mul_right _ hr)).symm
  · rw [take_flat r hkl]
    have h3 := hv.split' (r * k)
    exact h3
end
end Go.Proofs.YtjcolfogmmjaoaaGreatDoor.A
end
