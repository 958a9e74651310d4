/- The steps of a walk, operation by operation. They hold of any program. -/
import Derived.Test.YtepjnmocepkfjaaF
set_option linter.unusedVariables false
set_option linter.unusedSimpArgs false
namespace Go.Proofs.Ytepjnmocepkfjaa.A
open V

/-! ### Zero values -/
def zeroOf (P : Program) (t : TypeId) : List Value := match P.info? t with
  | some i => match i.zero with
    | some z => match Nat.ble z.cells.size 40 && ones z.cells.toList with | true => z.cells.toList | false => []
    | none => []
  | none => []
def zt (Z : List (List Value)) (t : TypeId) : List Value := Z.getD t []
def ZOk (P : Program) (Z : List (List Value)) : Prop := ∀ t, zt Z t = [] ∨ zt Z t = zeroOf P t
theorem ZOk.of {P : Program} {Z : List (List Value)} (h : (List.range Z.length).map (zeroOf P) = Z) : ZOk P Z := by
  intro t
  by_cases ht : t < Z.length
  · right
    unfold zt
    rw [List.getD_eq_getElem?_getD, List.getElem?_eq_getElem ht, Option.getD_some]
    have : ((List.range Z.length).map (zeroOf P))[t]? = Z[t]? := by rw [h]
    rw [List.getElem?_eq_getElem ht, List.getElem?_map, List.getElem?_range ht] at this
    simpa using this.symm
  · left
    unfold zt
    rw [List.getD_eq_getElem?_getD, List.getElem?_eq_none (Nat.le_of_not_lt ht)]
    rfl
theorem ZOk.spec {P : Program} {Z : List (List Value)} (hZ : ZOk P Z) {t : TypeId} {z : Value} {zs : List Value} (h : zt Z t = z :: zs) : ∃ i v, P.info? t = some i ∧ i.zero = some v ∧ v.cells.toList = z :: zs ∧ ones (z :: zs) = true := by
  rcases hZ t with e | e
  · rw [e] at h; cases h
  · rw [e] at h
    unfold zeroOf at h
    split at h
    · rename_i i hi
      split at h
      · rename_i v hv
        split at h
        · rename_i h1; rw [Bool.and_eq_true] at h1; have h1 := h1.2; rw [h] at h1; exact ⟨i, v, hi, hv, h, h1⟩
        · cases h
      · cases h
    · cases h
def avs (l : List Value) : List AV := l.map fun x => .v x 0
/-- A value's cells. -/
def cellsOf1 : AV → Option (List AV)
  | .agg cs => some cs
  | a => match one1 a with | true => some [a] | false => none
theorem cellsOf1_rep {M : Nat → Prop} {w : World} {a : AV} {cs : List AV} {v : Value} (h : cellsOf1 a = some cs) (hr : Rep M w a v) : Reps M w cs v.cells.toList ∧ ∀ u ∈ v.cells.toList, u.oneCell' = true := by
  have single : ∀ {a : AV}, one1 a = true → Rep M w a v → Reps M w [a] v.cells.toList ∧ ∀ u ∈ v.cells.toList, u.oneCell' = true := fun h1 hr => by
    have hx := one1_one h1 hr
    rw [cells_one hx]
    exact ⟨Reps.cons hr Reps.nil, by simpa using hx⟩
  cases a with
  | agg cs' =>
    simp [cellsOf1] at h
    subst h
    unfold Rep at hr
    obtain ⟨ys, rfl, hr, h1⟩ := hr
    exact ⟨by simpa [Value.cells] using hr, by simpa [Value.cells] using h1⟩
  | _ =>
    simp only [cellsOf1] at h
    split at h
    · rename_i h1
      simp at h
      subst h
      exact single h1 hr
    · cases h
/-- Cells that lie in frozen data. -/
def datK : AV → Option Dat
  | .d x => some x
  | .v x _ => match one1 (.v x 0) with | true => some (.v x) | false => none
  | .ifc t (.agg cs) => none
  | _ => none
def datsK : List AV → Option (List Dat)
  | [] => some []
  | a :: as => match datK a with
    | none => none
    | some d => match datsK as with
      | none => none
      | some ds => some (d :: ds)
theorem datK_rep {M : Nat → Prop} {w : World} {a : AV} {d : Dat} {v : Value} (h : datK a = some d) (hr : Rep M w a v) : DRep M w d v := by
  cases a with
  | d x => simp [datK] at h; subst h; unfold Rep at hr; exact hr
  | v x hh =>
    simp only [datK] at h
    split at h
    · rename_i h1
      simp at h
      subst h
      have h2 := one1_one (M := M) (w := w) h1 (x := x) mk_v
      unfold Rep at hr
      unfold DRep
      exact ⟨hr, h2⟩
    · cases h
  | ifc t a => cases a <;> simp [datK] at h
  | _ => simp [datK] at h
theorem datsK_rep {M : Nat → Prop} {w : World} : ∀ {as : List AV} {ds : List Dat} {vs : List Value}, datsK as = some ds → Reps M w as vs → VRep M w ds vs
  | [], ds, vs, h, hr => by simp [datsK] at h; subst h; unfold Reps at hr; unfold VRep; exact hr
  | a :: as, ds, vs, h, hr => by
    unfold datsK at h
    split at h
    · cases h
    · rename_i d hd
      split at h
      · cases h
      · rename_i ds' hds
        simp at h
        subst h
        unfold Reps at hr
        obtain ⟨y, r, rfl, h1, h2⟩ := hr
        exact VRep.cons (datK_rep hd h1) (datsK_rep hds h2)

section
variable {P : Program} {L : List TD} {Z : List (List Value)} {n : Nat} {Q : Exit → Act → World → Prop} {c : Ctx}
variable {s : AMS} {f f' : AEnv} {σ σ' : Store} {ob : Obs} {κ : List Kt} {all : Array Oper} {dec : List Nat} {o : Oper} {al : Bool} {rest : List (Oper × Bool)} {m : Mode}

/-! ### What doesn't hang on memory -/
theorem a_pure (hT : TOk P L) (a : AV) (h : machA L n fuel s f σ [] = ⟨.op m κ all dec o al rest, f', σ', ob⟩) (hob : ob.map (·.1) = ob.map (·.2))
    (he : ∀ M w fc, EnvRep M w f' fc → ∃ v, (∀ w', (execOp (ev n fc) o).run P w' = .ok (.value v) w') ∧ Rep M w a v) (hk : DenA c P n Q (.ops m κ all dec rest) (putA f' o.dst a) σ') : DenA c P n Q s f σ := by
  refine a_go hT h hob fun hok w S fc Sg hs hh => ?_
  obtain ⟨v, hv, hr⟩ := he _ _ _ hs.env
  have haa : (act n fc).eval = ev n fc := funext (act_eval n fc)
  refine .inl ⟨v, fun w' _ => by rw [haa]; exact hv w', ?_⟩
  rw [act_put]
  refine hk.out ?_ w S (put fc o.dst v) Sg ⟨hs.env.put o.dst hr, hs.ev, hs.sub⟩ hh
  cases m with
  | last ex => obtain ⟨h1, h2, h3⟩ := hok; exact ⟨h1, .inr h3⟩
  | _ => trivial
/-- 'pick': one of two values. -/
theorem a_pick (hT : TOk P L) {cn x y : Operand} {b : Bool} {hh : Nat} (h : machA L n fuel s f σ [] = ⟨.op m κ all dec o al rest, f', σ', ob⟩) (hob : ob.map (·.1) = ob.map (·.2)) (ho : o.op = .pick cn x y) (hc : evA n f' cn = .v (.bool b) hh)
    (h1 : b = true → DenA c P n Q (.ops m κ all dec rest) (putA f' o.dst (evA n f' x)) σ') (h2 : b = false → DenA c P n Q (.ops m κ all dec rest) (putA f' o.dst (evA n f' y)) σ') : DenA c P n Q s f σ := by
  refine a_pure hT (if b then evA n f' x else evA n f' y) h hob (fun M w fc he => ⟨if b then ev n fc x else ev n fc y, fun w' => ?_, ?_⟩) (by cases b; exact h2 rfl; exact h1 rfl)
  · have := he.eval (n := n) cn
    rw [hc] at this
    simp [execOp, ho, rep_v this, asBool]
  · cases b
    · exact he.eval y
    · exact he.eval x
/-- .. where both are numbers or truths: one value of its own. -/
theorem a_pickv (hT : TOk P L) {cn x y : Operand} {b : Bool} {hh h1 h2 : Nat} {vx vy : Value} (v : Value) (h : machA L n fuel s f σ [] = ⟨.op m κ all dec o al rest, f', σ', ob⟩) (hob : ob.map (·.1) = ob.map (·.2)) (ho : o.op = .pick cn x y) (hc : evA n f' cn = .v (.bool b) hh)
    (hx : evN n f' x = .v vx h1) (hy : evN n f' y = .v vy h2) (hv : (if b then vx else vy) = v) (hk : DenA c P n Q (.ops m κ all dec rest) (putA f' o.dst (.v v 0)) σ') : DenA c P n Q s f σ := by
  refine a_pure hT (.v v 0) h hob (fun M w fc he => ⟨v, fun w' => ?_, mk_v⟩) hk
  have h0 := he.eval (n := n) cn
  have h3 := he.evalN (n := n) x
  have h4 := he.evalN (n := n) y
  rw [hc] at h0
  rw [hx] at h3
  rw [hy] at h4
  cases b <;> simp [execOp, ho, rep_v h0, asBool, rep_v h3, rep_v h4, ← hv]
/-- An operation on numbers, or texts. -/
theorem a_bin (hT : TOk P L) {op : BinOp} {t yt : TypeId} {x y : Operand} {p q : Value} {h1 h2 : Nat} (r : Value) (h : machA L n fuel s f σ [] = ⟨.op m κ all dec o al rest, f', σ', ob⟩) (hob : ob.map (·.1) = ob.map (·.2)) (ho : o.op = .binOp op t x y yt) (hop : op.ctorIdx ≠ BinOp.eql.ctorIdx ∧ op.ctorIdx ≠ BinOp.neq.ctorIdx)
    (hx : evN n f' x = .v p h1) (hy : evN n f' y = .v q h2) (hr : ∀ w, (binOp op t p q).run P w = .ok r w) (hk : DenA c P n Q (.ops m κ all dec rest) (putA f' o.dst (.v r 0)) σ') : DenA c P n Q s f σ := by
  refine a_pure hT (.v r 0) h hob (fun M w fc he => ⟨r, fun w' => ?_, mk_v⟩) hk
  have h3 := he.evalN (n := n) x
  have h4 := he.evalN (n := n) y
  rw [hx] at h3
  rw [hy] at h4
  exact run_bin hop ho (rep_v h3) (rep_v h4) (hr w')
theorem bin_rem {t : TypeId} {k : IntKind} {a b : Int} (hb : b ≠ 0) (w : World) : (binOp .rem t (.int k a) (.int k b)).run P w = .ok (.int k (a.tmod b)) w := by simp [binOp, Op.intDiv, hb]
theorem bin_quo {t : TypeId} {k : IntKind} {a b : Int} (hb : b ≠ 0) (w : World) : (binOp .quo t (.int k a) (.int k b)).run P w = .ok (.int k (k.wrap (a.tdiv b))) w := by simp [binOp, Op.intDiv, hb]
theorem bin_xor {t : TypeId} {k : IntKind} {a b : Int} (w : World) : (binOp .xor t (.int k a) (.int k b)).run P w = .ok (.int k (k.wrap (BitVec.ofInt k.bits a ^^^ BitVec.ofInt k.bits b).toNat)) w := by simp only [binOp, ne_eq, not_true_eq_false, if_false, Op.intBits]; rfl
theorem bin_and {t : TypeId} {k : IntKind} {a b : Int} (w : World) : (binOp .and t (.int k a) (.int k b)).run P w = .ok (.int k (k.wrap (BitVec.ofInt k.bits a &&& BitVec.ofInt k.bits b).toNat)) w := by simp only [binOp, ne_eq, not_true_eq_false, if_false, Op.intBits]; rfl
theorem bin_or {t : TypeId} {k : IntKind} {a b : Int} (w : World) : (binOp .or t (.int k a) (.int k b)).run P w = .ok (.int k (k.wrap (BitVec.ofInt k.bits a ||| BitVec.ofInt k.bits b).toNat)) w := by simp only [binOp, ne_eq, not_true_eq_false, if_false, Op.intBits]; rfl
theorem bin_shl {t : TypeId} {k k2 : IntKind} {a b : Int} (hb : 0 ≤ b) (w : World) : (binOp .shl t (.int k a) (.int k2 b)).run P w = .ok (.int k (k.wrap (a * 2 ^ (min b.toNat k.bits)))) w := by simp only [binOp, Op.shift, if_neg (show ¬ b < 0 by omega)]; rfl
theorem bin_shr {t : TypeId} {k k2 : IntKind} {a b : Int} (hb : 0 ≤ b) (w : World) : (binOp .shr t (.int k a) (.int k2 b)).run P w = .ok (.int k (a.fdiv (2 ^ (min b.toNat k.bits)))) w := by simp only [binOp, Op.shift, if_neg (show ¬ b < 0 by omega)]; rfl
theorem bin_cat {t : TypeId} {a b : ByteArray} (h : a.size + b.size ≤ 9223372036854775807) (w : World) : (binOp .add t (.string a) (.string b)).run P w = .ok (.string (a ++ b)) w := by
  have : ¬ ((a.size + b.size : Nat) : Int) > IntKind.i64.max := by simp only [IntKind.max, IntKind.bits, IntKind.signed]; omega
  simp only [binOp, Op.stringOp]
  rw [if_neg this]; rfl
/-- A struct is built. -/
def bldA (zs : List AV) (fs : List (Nat × Nat × Bool)) : List (Nat × AV) → Option (List AV)
  | [] => some zs
  | (i, a) :: l => match fs[i]?, cellsOf1 a with
    | some (off, size, _), some cs => match Nat.beq cs.length size && Nat.ble (off + cs.length) zs.length with
      | true => bldA (setA zs off cs) fs l
      | false => none
    | _, _ => none
theorem bld_fold (off : Nat) (vs : List Value) (z : List Value) (h : off + vs.length ≤ z.length) : (vs.toArray.zipIdx.foldl (fun cs (x : Value × Nat) => cs.setIfInBounds (off + x.2) x.1) z.toArray) = (z.take off ++ vs ++ z.drop (off + vs.length)).toArray := by
  apply Array.ext_getElem?
  intro j
  have := foldl_set off vs 0 z.toArray (by simpa using h) j
  rw [← Array.foldl_toList, Array.toList_zipIdx, this]
  simp only [Nat.add_zero, List.getElem?_toArray]
  by_cases h1 : off ≤ j ∧ j < off + vs.length
  · rw [if_pos h1, List.append_assoc, List.getElem?_append_right (by simp; omega), List.getElem?_append_left (by simp; omega)]
    simp [show min off z.length = off by omega]
  · rw [if_neg h1]
    rcases Nat.lt_or_ge j off with h2 | h2
    · rw [List.append_assoc, List.getElem?_append_left (by simp; omega), List.getElem?_take_of_lt h2]
    · rw [List.append_assoc, List.getElem?_append_right (by simp; omega), List.getElem?_append_right (by simp; omega), List.getElem?_drop]
      congr 1
      simp
      omega
theorem bldA_rep {M : Nat → Prop} {w : World} {fs : List (Nat × Nat × Bool)} : ∀ {ps : List (Nat × AV)} {vs : List (Nat × Value)} {zs cs : List AV} {z : List Value}, bldA zs fs ps = some cs → Reps M w zs z → (∀ u ∈ z, u.oneCell' = true) → ps.map (·.1) = vs.map (·.1) → Reps M w (ps.map (·.2)) (vs.map (·.2)) →
    ∃ xs, V.bld z.toArray fs vs = some xs.toArray ∧ Reps M w cs xs ∧ ∀ u ∈ xs, u.oneCell' = true
  | [], vs, zs, cs, z, h, hz, h1, hi, hr => by
    simp [bldA] at h
    subst h
    simp at hi
    subst hi
    exact ⟨z, rfl, hz, h1⟩
  | (i, a) :: ps, [], zs, cs, z, h, hz, h1, hi, hr => by simp at hi
  | (i, a) :: ps, (j, v) :: vs, zs, cs, z, h, hz, h1, hi, hr => by
    simp only [List.map_cons, List.cons.injEq] at hi
    obtain ⟨rfl, hi⟩ := hi
    simp only [List.map_cons] at hr
    unfold Reps at hr
    obtain ⟨y, r, e, hra, hr⟩ := hr
    simp only [List.cons.injEq] at e
    obtain ⟨rfl, rfl⟩ := e
    unfold bldA at h
    split at h
    · rename_i off size ag cs' hf hc
      split at h
      · rename_i hb
        simp only [Bool.and_eq_true] at hb
        have hb1 := Nat.eq_of_beq_eq_true hb.1
        have hb2 := Nat.le_of_ble_eq_true hb.2
        obtain ⟨hrc, h1c⟩ := cellsOf1_rep hc hra
        have hlc := hrc.len
        have hlz := hz.len
        rw [setA_eq zs off cs' hb2] at h
        obtain ⟨xs, hx1, hx2, hx3⟩ := bldA_rep (z := z.take off ++ v.cells.toList ++ z.drop (off + v.cells.toList.length)) h (by rw [← hlc]; exact ((hz.take off).app hrc).app (hz.drop _)) (by
          intro u hu
          rw [List.mem_append, List.mem_append] at hu
          rcases hu with (hu | hu) | hu
          · exact h1 u (List.mem_of_mem_take hu)
          · exact h1c u hu
          · exact h1 u (List.mem_of_mem_drop hu)) hi hr
        refine ⟨xs, ?_, hx2, hx3⟩
        unfold V.bld at hx1 ⊢
        unfold Instr.fill
        simp only [hf, Option.map_some]
        rw [if_neg (by simp; simp at hlc; omega)]
        have := bld_fold off v.cells.toList z (by omega)
        simp only [Array.toArray_toList] at this
        rw [this]
        exact hx1
      · cases h
    · cases h
theorem a_build (hT : TOk P L) (hZ : ZOk P Z) {t : TypeId} {k : Nat} {fs : List (Nat × Nat × Bool)} {ps : Array (Nat × Operand)} {z : Value} {zs : List Value} (cs : List AV) (h : machA L n fuel s f σ [] = ⟨.op m κ all dec o al rest, f', σ', ob⟩) (hob : ob.map (·.1) = ob.map (·.2)) (ho : o.op = .build t ps) (ht : tl L t = .agg k fs) (hz : zt Z t = z :: zs)
    (hf : bldA (avs (z :: zs)) fs (ps.toList.map fun p => (p.1, evA n f' p.2)) = some cs) (hk : DenA c P n Q (.ops m κ all dec rest) (putA f' o.dst (.agg cs)) σ') : DenA c P n Q s f σ := by
  refine a_pure hT (.agg cs) h hob (fun M w fc he => ?_) hk
  obtain ⟨i, v, hi, hiz, hcs, h1⟩ := hZ.spec hz
  obtain ⟨Fs, inf, hu, hi', hm, hall, rfl⟩ := agg_fields hT ht
  have hrep : ∀ l : List (Nat × Operand), Reps M w (l.map fun p => evA n f' p.2) (l.map fun p => ev n fc p.2) := fun l => by
    induction l with
    | nil => exact Reps.nil
    | cons p l ih => exact Reps.cons (he.eval p.2) ih
  obtain ⟨xs, hx1, hx2, hx3⟩ := bldA_rep (M := M) (w := w) (vs := ps.toList.map fun p => (p.1, ev n fc p.2)) (z := z :: zs) hf (reps_vs _) (ones_spec h1) (by simp) (by rw [List.map_map, List.map_map]; exact hrep ps.toList)
  refine ⟨.agg xs.toArray, fun w' => ?_, by unfold Rep; exact ⟨xs, rfl, hx2, hx3⟩⟩
  have hmap : (Fs.mapM fun (f : Field) => (do pure (f.offset, ← sizeOf f.type) : Sem (Nat × Nat))).run P w' = .ok (Fs.map fun f => (f.offset, P.cellsOf f.type)) w' := by
    obtain ⟨Fs⟩ := Fs
    rw [List.mapM_toArray]
    have : ∀ l : List Field, (∀ f ∈ l, (P.info? f.type).isSome = true) → (l.mapM fun (f : Field) => (do pure (f.offset, ← sizeOf f.type) : Sem (Nat × Nat))).run P w' = .ok (l.map fun f => (f.offset, P.cellsOf f.type)) w' := by
      intro l
      induction l with
      | nil => intro _; simp
      | cons f l ih =>
        intro h
        have h1 := ih fun g hg => h g (by simp [hg])
        simp only [List.mapM_cons, Sem.run_bind, run_sizeOf' (h f (by simp)), Result.andThen_ok, Sem.run_pure] at h1 ⊢
        rw [h1]
        simp
    have := this Fs fun f hf => (hall f (by simpa using hf)).1
    simp only [Sem.run_map, Sem.run_bind, Sem.run_pure] at this ⊢
    rw [this]
    simp
  have hfill : Instr.fill (fun i => (Fs.map fun f => (f.offset, P.cellsOf f.type))[i]?) v.cells ((ps.map fun (i, x) => (i, ev n fc x)).toList) = some xs.toArray := by
    rw [← hx1]
    unfold V.bld
    congr 1
    · funext i
      rw [List.getElem?_map, Option.map_map, Array.getElem?_map, Array.getElem?_toList]
      rfl
    · rw [← hcs]
    · simp
  unfold execOp
  simp only [ho, Instr.build, Sem.run_bind, zeroValue, typeInfo, run_program, Result.andThen_ok, hi, hiz, Sem.run_pure, run_underlying hu, hmap]
  rw [hfill]
  rfl
/-- An element of frozen data. -/
theorem a_ix (hT : TOk P L) {t e : TypeId} {k hh : Nat} {x y : Operand} {es : List (List Dat)} {ki : IntKind} {i : Int} (d : List Dat) (h : machA L n fuel s f σ [] = ⟨.op m κ all dec o al rest, f', σ', ob⟩) (hob : ob.map (·.1) = ob.map (·.2)) (ho : o.op = .indexAddr t x y) (ht : tl L t = .sl e k)
    (hx : evA n f' x = .d (.sl k es)) (hy : evN n f' y = .v (.int ki i) hh) (h0 : 0 ≤ i) (hd : es[i.toNat]? = some d) (hk : DenA c P n Q (.ops m κ all dec rest) (putA f' o.dst (.d (.p d))) σ') : DenA c P n Q s f σ := by
  refine a_pure hT (.d (.p d)) h hob (fun M w fc he => ?_) hk
  obtain ⟨hu, hi, hm⟩ := sl_tl hT ht
  have h1 := he.eval (n := n) x
  have h2 := he.evalN (n := n) y
  rw [hx] at h1
  rw [hy] at h2
  unfold Rep at h1
  unfold DRep at h1
  obtain ⟨A, cap, e, hc, hlen, hr⟩ := h1
  have hlt := (List.getElem?_eq_some_iff.1 hd).1
  obtain ⟨ad, rfl, hM, hb, hS⟩ := hr (by intro e; rw [e] at hlt; simp at hlt)
  refine ⟨.pointer (some (ad.add (i.toNat * k))), fun w' => ?_, ?_⟩
  · simp [execOp, ho, Instr.indexAt, e, rep_v h2, asIntOf, underlying, hu, h0, show i < (es.length : Int) by omega, run_sizeOf' hi, hm]
  · unfold Rep
    unfold DRep
    refine ⟨_, rfl, by rwa [add_block], by rwa [add_block], LRep.mk fun j x hj => ?_⟩
    rw [Nat.zero_add, add_add]
    have := (SRep.flat.1 hS).get (i.toNat * k + j) x ?_
    · rwa [Nat.zero_add] at this
    · -- the place in the row
      have key : ∀ (es : List (List Dat)) (i : Nat), (∀ e ∈ es, e.length = k) → es[i]? = some d → es.flatten[i * k + j]? = some x := by
        intro es
        induction es with
        | nil => intro i _ h; simp at h
        | cons e es ih =>
          intro i hl h
          cases i with
          | zero =>
            simp at h
            subst h
            rw [List.flatten_cons, Nat.zero_mul, Nat.zero_add, List.getElem?_append_left (List.getElem?_eq_some_iff.1 hj).1]
            exact hj
          | succ i =>
            have he := hl e (by simp)
            rw [List.flatten_cons, List.getElem?_append_right (by rw [he, Nat.succ_mul]; omega), he]
            rw [show (i + 1) * k + j - k = i * k + j by rw [Nat.succ_mul]; omega]
            exact ih i (fun e' h' => hl e' (by simp [h'])) (by simpa using h)
      exact key es i.toNat hlen hd
/-- A text's byte. -/
theorem a_sx (hT : TOk P L) {t : TypeId} {hh h2 : Nat} {x y : Operand} {b : ByteArray} {ki : IntKind} {i : Int} (h : machA L n fuel s f σ [] = ⟨.op m κ all dec o al rest, f', σ', ob⟩) (hob : ob.map (·.1) = ob.map (·.2)) (ho : o.op = .index t x y) (ht : tl L t = .str)
    (hx : evN n f' x = .v (.string b) hh) (hy : evN n f' y = .v (.int ki i) h2) (h0 : 0 ≤ i) (h1 : i.toNat < b.size) (hk : DenA c P n Q (.ops m κ all dec rest) (putA f' o.dst (.v (.int .u8 b[i.toNat].toNat) 0)) σ') : DenA c P n Q s f σ := by
  refine a_pure hT _ h hob (fun M w fc he => ⟨.int .u8 b[i.toNat].toNat, fun w' => ?_, mk_v⟩) hk
  have h3 := he.evalN (n := n) x
  have h4 := he.evalN (n := n) y
  rw [hx] at h3
  rw [hy] at h4
  simp [execOp, ho, Instr.index, rep_v h3, rep_v h4, asIntOf, underlying, str_tl hT ht, h0, h1]
/-- A part of frozen data. -/
theorem a_sl (hT : TOk P L) {t e : TypeId} {k : Nat} {x : Operand} {lo hi : Option Operand} {es : List (List Dat)} (l r : Nat) (es' : List (List Dat)) (h : machA L n fuel s f σ [] = ⟨.op m κ all dec o al rest, f', σ', ob⟩) (hob : ob.map (·.1) = ob.map (·.2)) (ho : o.op = .slice t x lo hi none) (ht : tl L t = .sl e k) (hx : evA n f' x = .d (.sl k es))
    (hlo : match lo with | none => l = 0 | some y => ∃ (q : IntKind) (hh : Nat), evN n f' y = .v (.int q l) hh) (hhi : match hi with | none => r = es.length | some y => ∃ (q : IntKind) (hh : Nat), evN n f' y = .v (.int q r) hh) (h0 : l ≤ r) (h1 : r ≤ es.length)
    (hes : (es.drop l).take (r - l) = es') (hk : DenA c P n Q (.ops m κ all dec rest) (putA f' o.dst (.d (.sl k es'))) σ') : DenA c P n Q s f σ := by
  refine a_pure hT (.d (.sl k es')) h hob (fun M w fc he => ?_) hk
  subst hes
  obtain ⟨hu, hinf, hm⟩ := sl_tl hT ht
  have h3 := he.eval (n := n) x
  rw [hx] at h3
  unfold Rep at h3
  unfold DRep at h3
  obtain ⟨A, cap, hv, hc, hlen, hr⟩ := h3
  have hlo' : ∀ y, lo = some y → ∃ q : IntKind, ev n fc y = .int q l := fun y e => by
    subst e; obtain ⟨q, hh, e⟩ := hlo; have := he.evalN (n := n) y; rw [e] at this; exact ⟨q, rep_v this⟩
  have hhi' : ∀ y, hi = some y → ∃ q : IntKind, ev n fc y = .int q r := fun y e => by
    subst e; obtain ⟨q, hh, e⟩ := hhi; have := he.evalN (n := n) y; rw [e] at this; exact ⟨q, rep_v this⟩
  have hrc : r ≤ cap := by omega
  refine ⟨.slice (if cap = l then A else A.map (·.add (l * k))) (r - l) (cap - l), fun w' => ?_, ?_⟩
  · have hbd : (Instr.sliceBounds true es.length cap (lo.map (ev n fc)) (hi.map (ev n fc)) none).run P w' = .ok (l, r, cap) w' := by
      cases hi with
      | none =>
        simp at hhi; subst hhi
        cases lo with
        | none => simp at hlo; subst hlo; simp [Instr.sliceBounds]
        | some y => obtain ⟨q, hy⟩ := hlo' y rfl; simp [Instr.sliceBounds, hy, Instr.sliceBound, asIntOf, h0]
      | some z =>
        obtain ⟨q', hz⟩ := hhi' z rfl
        cases lo with
        | none => simp at hlo; subst hlo; simp [Instr.sliceBounds, hz, Instr.sliceBound, asIntOf, hrc]
        | some y => obtain ⟨q, hy⟩ := hlo' y rfl; simp [Instr.sliceBounds, hy, hz, Instr.sliceBound, asIntOf, h0, hrc]
    simp [execOp, ho, Instr.sliceAt, Instr.slice, hv, underlying, hu, hbd, run_sizeOf' hinf, hm]
  · unfold Rep
    unfold DRep
    have hl' : ((es.drop l).take (r - l)).length = r - l := by simp; omega
    refine ⟨_, cap - l, by rw [hl'], by rw [hl']; omega, fun e' he' => hlen e' (List.mem_of_mem_drop (List.mem_of_mem_take he')), fun hne => ?_⟩
    have hne' : es ≠ [] := by intro e; subst e; simp at hne
    obtain ⟨ad, rfl, hM, hb, hS⟩ := hr hne'
    have hlt : l < r := by
      rcases Nat.lt_or_ge l r with h | h
      · exact h
      · exfalso; apply hne; rw [show r - l = 0 by omega]; simp
    refine ⟨ad.add (l * k), by rw [if_neg (by omega)]; rfl, by rwa [add_block], by rwa [add_block], SRep.flat.2 (LRep.mk fun j d hj => ?_)⟩
    rw [Nat.zero_add, add_add]
    have hf := SRep.flat.1 hS
    have key : ∀ (es : List (List Dat)) (l : Nat), (∀ e ∈ es, e.length = k) → l ≤ es.length → es.flatten.drop (l * k) = (es.drop l).flatten := by
      intro es
      induction es with
      | nil => intro l _ _; simp
      | cons e es ih =>
        intro l hl hle
        cases l with
        | zero => simp
        | succ l =>
          have he := hl e (by simp)
          rw [List.flatten_cons, List.drop_append, he, show (l + 1) * k - k = l * k by rw [Nat.succ_mul]; omega, ih l (fun e' h' => hl e' (by simp [h'])) (by simpa using hle), List.drop_eq_nil_of_le (by rw [he, Nat.succ_mul]; omega)]
          simp
    have pre : ∀ (es : List (List Dat)) (m : Nat) (j : Nat) (d : Dat), (es.take m).flatten[j]? = some d → es.flatten[j]? = some d := by
      intro es m j d hj
      have : es.flatten = (es.take m).flatten ++ (es.drop m).flatten := by rw [← List.flatten_append, List.take_append_drop]
      rw [this, List.getElem?_append_left (List.getElem?_eq_some_iff.1 hj).1]
      exact hj
    have := hf.get (l * k + j) d (by rw [← List.getElem?_drop, key es l hlen (by omega)]; exact pre _ _ _ _ hj)
    rwa [Nat.zero_add] at this
/-- A part of a text. -/
theorem a_ssl (hT : TOk P L) {t : TypeId} {hh : Nat} {x : Operand} {lo hi : Option Operand} {b : ByteArray} (l r : Nat) (b' : ByteArray) (h : machA L n fuel s f σ [] = ⟨.op m κ all dec o al rest, f', σ', ob⟩) (hob : ob.map (·.1) = ob.map (·.2)) (ho : o.op = .slice t x lo hi none) (ht : tl L t = .str) (hx : evN n f' x = .v (.string b) hh)
    (hlo : match lo with | none => l = 0 | some y => ∃ (q : IntKind) (hh : Nat), evN n f' y = .v (.int q l) hh) (hhi : match hi with | none => r = b.size | some y => ∃ (q : IntKind) (hh : Nat), evN n f' y = .v (.int q r) hh) (h0 : l ≤ r) (h1 : r ≤ b.size)
    (hes : b.extract l r = b') (hk : DenA c P n Q (.ops m κ all dec rest) (putA f' o.dst (.v (.string b') 0)) σ') : DenA c P n Q s f σ := by
  refine a_pure hT _ h hob (fun M w fc he => ⟨.string b', fun w' => ?_, mk_v⟩) hk
  subst hes
  have h3 := he.evalN (n := n) x
  rw [hx] at h3
  have hlo' : ∀ y, lo = some y → ∃ q : IntKind, ev n fc y = .int q l := fun y e => by
    subst e; obtain ⟨q, hh, e⟩ := hlo; have := he.evalN (n := n) y; rw [e] at this; exact ⟨q, rep_v this⟩
  have hhi' : ∀ y, hi = some y → ∃ q : IntKind, ev n fc y = .int q r := fun y e => by
    subst e; obtain ⟨q, hh, e⟩ := hhi; have := he.evalN (n := n) y; rw [e] at this; exact ⟨q, rep_v this⟩
  have hbd : (Instr.sliceBounds false b.size b.size (lo.map (ev n fc)) (hi.map (ev n fc)) none).run P w' = .ok (l, r, b.size) w' := by
    cases hi with
    | none =>
      simp at hhi; subst hhi
      cases lo with
      | none => simp at hlo; subst hlo; simp [Instr.sliceBounds]
      | some y => obtain ⟨q, hy⟩ := hlo' y rfl; simp [Instr.sliceBounds, hy, Instr.sliceBound, asIntOf, h0]
    | some z =>
      obtain ⟨q', hz⟩ := hhi' z rfl
      cases lo with
      | none => simp at hlo; subst hlo; simp [Instr.sliceBounds, hz, Instr.sliceBound, asIntOf, h1]
      | some y => obtain ⟨q, hy⟩ := hlo' y rfl; simp [Instr.sliceBounds, hy, hz, Instr.sliceBound, asIntOf, h0, h1]
  simp [execOp, ho, Instr.sliceAt, Instr.slice, rep_v h3, underlying, str_tl hT ht, hbd]
end
end Go.Proofs.Ytepjnmocepkfjaa.A
