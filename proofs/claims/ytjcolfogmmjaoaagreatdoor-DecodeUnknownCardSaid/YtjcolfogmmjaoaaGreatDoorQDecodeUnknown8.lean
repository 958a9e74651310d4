import Derived.WideKeyRuns
import Derived.Test.YtjcolfogmmjaoaaGreatDoorQDecodeUnknown7
section
set_option linter.unusedVariables false
set_option linter.unusedSimpArgs false
namespace Go.Proofs.YtjcolfogmmjaoaaGreatDoor.A
open V
def kSS (p : ByteArray × ByteArray) : Value := .agg #[.string p.1, .string p.2]
theorem str_eq {P : Program} {e : TypeId} (he : P.underlying e = some .string) (d : Nat) (a b : ByteArray) (w : World) : (Op.equalIn (d + 1) e (.string a) (.string b)).run P w = .ok (decide (a = b)) w := by
  simp only [Op.equalIn, Sem.run_bind, run_underlying he, Result.andThen_ok, Sem.run_pure, ba_beq]
theorem two_eq {P : Program} {kt e : TypeId} {i : TypeInfo} (hu : P.underlying kt = some (.array 2 e)) (he : P.underlying e = some .string) (hi : P.info? e = some i) (hc : P.cellsOf e = 1) (a b : ByteArray × ByteArray) (w : World) : (Op.equal kt (kSS a) (kSS b)).run P w = .ok (decide (a = b)) w := by
  have hp : P.plainKey e = true := by unfold Program.plainKey; rw [he]
  unfold Op.equal Op.maxDepth kSS
  rw [show (10000 : Nat) = 9998 + 1 + 1 from rfl, run_equalIn_array w (9998 + 1) _ _ hu hi, hc]
  rw [show List.range 2 = [0, 1] from rfl]
  simp only [Op.eqItems, Sem.run_bind]
  rw [run_part_plain w hp (v := .string a.1) (by simp), Result.andThen_ok, run_part_plain w hp (v := .string b.1) (by simp), Result.andThen_ok, str_eq he, Result.andThen_ok]
  by_cases h1 : a.1 = b.1
  · rw [if_neg (by simp [h1])]
    simp only [Sem.run_bind]
    rw [run_part_plain w hp (v := .string a.2) (by simp), Result.andThen_ok, run_part_plain w hp (v := .string b.2) (by simp), Result.andThen_ok, str_eq he, Result.andThen_ok]
    by_cases h2 : a.2 = b.2
    · rw [if_neg (by simp [h2]), Sem.run_pure]
      have : a = b := Prod.ext h1 h2
      simp [this]
    · rw [if_pos (by simp [h2]), Sem.run_pure]
      have : ¬ a = b := fun h => h2 (congrArg Prod.snd h)
      simp [this]
  · rw [if_pos (by simp [h1]), Sem.run_pure]
    have : ¬ a = b := fun h => h1 (congrArg Prod.fst h)
    simp [this]
theorem key_two {P : Program} {kt e : TypeId} {i : TypeInfo} (hu : P.underlying kt = some (.array 2 e)) (he : P.underlying e = some .string) (hi : P.info? e = some i) (hc : P.cellsOf e = 1) : KeyOk P kt kSS where
  fnd := fun w k ks es h => by
    rw [run_findKey_eq w (by rw [hu])]
    have key : ∀ (ks : List (ByteArray × ByteArray)) (es : List MapEntry) (j : Nat), es.map (·.key) = ks.map kSS → (Instr.findAsking kt (kSS k) es j).run P w = .ok ((aidx ks k).bind fun i => (es[i]?).map fun e => (j + i, e.val)) w := by
      intro ks
      induction ks with
      | nil => intro es j h; simp at h; subst h; rfl
      | cons x ks ih =>
        intro es j h
        cases es with
        | nil => simp at h
        | cons e es =>
          simp only [List.map_cons, List.cons.injEq] at h
          unfold Instr.findAsking
          simp only [Sem.run_bind]
          rw [h.1, two_eq hu he hi hc, Result.andThen_ok]
          unfold aidx
          by_cases hk : k = x
          · subst hk; simp
          · have hk' : ¬ x = k := fun e => hk e.symm
            simp only [hk, hk', decide_false, if_false, Bool.false_eq_true]
            rw [ih es (j + 1) h.2]
            cases aidx ks k with
            | none => rfl
            | some m => simp [show j + 1 + m = j + (m + 1) by omega]
    rw [key ks es 0 h]
    simp
  chk := fun w b k => by
    have hp : P.plainKey e = true := by unfold Program.plainKey; rw [he]
    unfold kSS
    rw [show (10000 : Nat) = 9998 + 1 + 1 from rfl]
    unfold Instr.checkKey
    simp only [Sem.run_bind, run_underlying hu, Result.andThen_ok]
    simp only [Std.Legacy.Range.forIn_eq_forIn_range', Std.Legacy.Range.size, Nat.sub_zero, Nat.add_one_sub_one, Nat.div_one]
    rw [show List.range' 0 2 = [0, 1] from rfl]
    simp only [List.forIn_cons, List.forIn_nil, Sem.run_bind, run_sizeOf w hi, Result.andThen_ok, hc]
    rw [run_part_plain w hp (v := .string k.1) (by simp), Result.andThen_ok]
    unfold Instr.checkKey
    simp only [Sem.run_bind, run_underlying he, Result.andThen_ok, Sem.run_pure, run_sizeOf w hi, hc]
    rw [run_part_plain w hp (v := .string k.2) (by simp), Result.andThen_ok]
    simp only [Sem.run_bind, run_underlying he, Result.andThen_ok, Sem.run_pure]
  bits := fun k => by
    unfold kSS
    rw [show (10000 : Nat) = 9999 + 1 from rfl]
    simp [Instr.sameBits, ba_beq]
theorem fill_more {p q : Nat → Option (Nat × Nat)} (hpq : ∀ i x, p i = some x → q i = some x) : ∀ (l : List (Nat × Value)) (z r : Array Value), Instr.fill p z l = some r → Instr.fill q z l = some r
  | [], z, r, h => h
  | (i, v) :: l, z, r, h => by
    unfold Instr.fill at h ⊢
    cases hp : p i with
    | none => rw [hp] at h; cases h
    | some x =>
      rw [hp] at h
      rw [hpq i x hp]
      obtain ⟨off, size⟩ := x
      dsimp only at h ⊢
      split at h
      · cases h
      · rename_i hc
        rw [if_neg hc]
        exact fill_more hpq l _ r h
section
variable {P : Program} {L : List TD} {Z : List (List Value)} {n : Nat} {Q : Exit → Act → World → Prop} {c : Ctx}
variable {s : AMS} {f f' : AEnv} {σ σ' : Store} {ob : Obs} {κ : List Kt} {all : Array Oper} {dec : List Nat} {o : Oper} {al : Bool} {rest : List (Oper × Bool)} {m : Mode}
def arrFs (m k : Nat) : List (Nat × Nat × Bool) := (List.range m).map fun i => (i * k, k, false)
theorem a_buildR (hT : TOk P L) (hZ : ZOk P Z) {t : TypeId} {N k : Nat} {e : TypeId} {ps : Array (Nat × Operand)} {z : Value} {zs : List Value} (cs : List AV) (h : machA L n fuel s f σ [] = ⟨.op m κ all dec o al rest, f', σ', ob⟩) (hob : ob.map (·.1) = ob.map (·.2)) (ho : o.op = .build t ps) (ht : tl L t = .arr N e k) (hz : zt Z t = z :: zs)
    (hf : bldA (avs (z :: zs)) (arrFs N k) (ps.toList.map fun p => (p.1, evA n f' p.2)) = some cs) (hk : DenA c P n Q (.ops m κ all dec rest) (putA f' o.dst (.agg cs)) σ') : DenA c P n Q s f σ := by
  refine a_pure hT (.agg cs) h hob (fun M w fc he => ?_) hk
  obtain ⟨i, v, hi, hiz, hcs, h1⟩ := hZ.spec hz
  obtain ⟨inf, hu, hi', hsm, hm, hck⟩ := arr_tl hT ht
  have hrep : ∀ l : List (Nat × Operand), Reps M w (l.map fun p => evA n f' p.2) (l.map fun p => ev n fc p.2) := fun l => by
    induction l with
    | nil => exact Reps.nil
    | cons p l ih => exact Reps.cons (he.eval p.2) ih
  obtain ⟨xs, hx1, hx2, hx3⟩ := bldA_rep (M := M) (w := w) (vs := ps.toList.map fun p => (p.1, ev n fc p.2)) (z := z :: zs) hf (reps_vs _) (ones_spec h1) (by simp) (by rw [List.map_map, List.map_map]; exact hrep ps.toList)
  refine ⟨.agg xs.toArray, fun w' => ?_, by unfold Rep; exact ⟨xs, rfl, hx2, hx3⟩⟩
  have hfill : Instr.fill (fun i => some (i * k, k)) v.cells ((ps.map fun (i, x) => (i, ev n fc x)).toList) = some xs.toArray := by
    unfold V.bld at hx1
    refine fill_more (p := fun i => ((arrFs N k)[i]?).map fun f => (f.1, f.2.1)) ?_ _ _ _ ?_
    · intro j x hj
      unfold arrFs at hj
      rw [List.getElem?_map] at hj
      cases hr : (List.range N)[j]? with
      | none => rw [hr] at hj; cases hj
      | some q =>
        rw [hr] at hj
        have := List.getElem?_eq_some_iff.1 hr
        obtain ⟨h1, h2⟩ := this
        simp at h2
        subst h2
        simpa using hj
    · rw [← hx1]
      congr 1
      · rw [← hcs]
      · simp
  unfold execOp
  simp only [ho, Instr.build, Sem.run_bind, zeroValue, typeInfo, run_program, Result.andThen_ok, hi, hiz, Sem.run_pure, run_underlying hu, run_sizeOf' hsm, hck]
  rw [hfill]
  rfl
end
end Go.Proofs.YtjcolfogmmjaoaaGreatDoor.A
end
