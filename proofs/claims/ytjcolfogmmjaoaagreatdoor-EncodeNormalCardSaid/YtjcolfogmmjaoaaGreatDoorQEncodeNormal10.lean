import Derived.WideKeyRuns
import Derived.Test.YtjcolfogmmjaoaaGreatDoorQEncodeNormal9
import Derived.Test.YtjcolfogmmjaoaaGreatDoorQEncodeNormal8
section
/- Keys of two strings. -/
set_option linter.unusedVariables false
set_option linter.unusedSimpArgs false
namespace Go.Proofs.YtjcolfogmmjaoaaGreatDoor.A
open V
def kSS (p : ByteArray × ByteArray) : Value := .agg #[.string p.1, .string p.2]
theorem str_eq {P : Program} {e : TypeId} (he : P.underlying e = some .string) (d : Nat) (a b : ByteArray) (w : World) : (Op.equalIn (d + 1) e (.string a) (.string b)).run P w = .ok (decide (a = b)) w := by
  simp only [Op.equalIn, Sem.run_bind, run_underlying he, Result.andThen_ok, Sem.run_pure, ba_beq]
theorem two_eq {P : Program} {kt e : TypeId} {i : TypeInfo} (hu : P.underlying kt = some (.array 2 e)) (he : P.underlying e = some .string) (hi : P.info? e = some i) (hc : P.cellsOf e = 1) (a b : ByteArray × ByteArray) (w : World) : (Op.equal kt (kSS a) (kSS b)).run P w = .ok (decide (a = b)) w := by
  have hp : P.plainKey e = true := by unfold Program.plainKey; rw [he]
  unfold Op.equal Op.maxDepth kSS
  rw [show (10000 : Nat) = 9998 + 1 + 1 from rfl, run_equalIn_array w (9998 + 1) _ _ hu hi, hc]
  rw [show List.range 2 = [0, 1] from rfl]
  simp only [Op.eqItems, Sem.run_bind]
  rw [run_part_plain w hp (v := .string a.1) (by simp), Result.andThen_ok, run_part_plain w hp (v := .string b.1) (by simp), Result.andThen_ok, str_eq he, Result.andThen_ok]
  by_cases h1 : a.1 = b.1
  · rw [if_neg (by simp [h1])]
    simp only [Sem.run_bind]
    rw [run_part_plain w hp (v := .string a.2) (by simp), Result.andThen_ok, run_part_plain w hp (v := .string b.2) (by simp), Result.andThen_ok, str_eq he, Result.andThen_ok]
    by_cases h2 : a.2 = b.2
    · rw [if_neg (by simp [h2]), Sem.run_pure]
      have : a = b := Prod.ext h1 h2
      simp [this]
    · rw [if_pos (by simp [h2]), Sem.run_pure]
      have : ¬ a = b := fun h => h2 (congrArg Prod.snd h)
      simp [this]
  · rw [if_pos (by simp [h1]), Sem.run_pure]
    have : ¬ a = b := fun h => h1 (congrArg Prod.fst h)
    simp [this]
theorem key_two {P : Program} {kt e : TypeId} {i : TypeInfo} (hu : P.underlying kt = some (.array 2 e)) (he : P.underlying e = some .string) (hi : P.info? e = some i) (hc : P.cellsOf e = 1) : KeyOk P kt kSS where
  fnd := fun w k ks es h => by
    rw [run_findKey_eq w (by rw [hu])]
    have key : ∀ (ks : List (ByteArray × ByteArray)) (es : List MapEntry) (j : Nat), es.map (·.key) = ks.map kSS → (Instr.findAsking kt (kSS k) es j).run P w = .ok ((aidx ks k).bind fun i => (es[i]?).map fun e => (j + i, e.val)) w := by
      intro ks
      induction ks with
      | nil => intro es j h; simp at h; subst h; rfl
      | cons x ks ih =>
        intro es j h
        cases es with
        | nil => simp at h
        | cons e es =>
          simp only [List.map_cons, List.cons.injEq] at h
          unfold Instr.findAsking
          simp only [Sem.run_bind]
          rw [h.1, two_eq hu he hi hc, Result.andThen_ok]
          unfold aidx
          by_cases hk : k = x
          · subst hk; simp
          · have hk' : ¬ x = k := fun e => hk e.symm
            simp only [hk, hk', decide_false, if_false, Bool.false_eq_true]
            rw [ih es (j + 1) h.2]
            cases aidx ks k with
            | none => rfl
            | some m => simp [show j + 1 + m = j + (m + 1) by omega]
    rw [key ks es 0 h]
    simp
  chk := fun w b k => by
    have hp : P.plainKey e = true := by unfold Program.plainKey; rw [he]
    unfold kSS
    rw [show (10000 : Nat) = 9998 + 1 + 1 from rfl]
    unfold Instr.checkKey
    simp only [Sem.run_bind, run_underlying hu, Result.andThen_ok]
    simp only [Std.Legacy.Range.forIn_eq_forIn_range', Std.Legacy.Range.size, Nat.sub_zero, Nat.add_one_sub_one, Nat.div_one]
    rw [show List.range' 0 2 = [0, 1] from rfl]
    simp only [List.forIn_cons, List.forIn_nil, Sem.run_bind, run_sizeOf w hi, Result.andThen_ok, hc]
    rw [run_part_plain w hp (v := .string k.1) (by simp), Result.andThen_ok]
    unfold Instr.checkKey
    simp only [Sem.run_bind, run_underlying he, Result.andThen_ok, Sem.run_pure, run_sizeOf w hi, hc]
    rw [run_part_plain w hp (v := .string k.2) (by simp), Result.andThen_ok]
    simp only [Sem.run_bind, run_underlying he, Result.andThen_ok, Sem.run_pure]
  bits := fun k => by
    unfold kSS
    rw [show (10000 : Nat) = 9999 + 1 from rfl]
    simp [Instr.sameBits, ba_beq]
theorem fill_more {p q : Nat → Option (Nat × Nat)} (hpq : ∀ i x, p i = some x → q i = some x) : ∀ (l : List (Nat × Value)) (z r : Array Value), Instr.fill p z l = some r → Instr.fill q z l = some r
  | [], z, r, h => h
  | (i, v) :: l, z, r, h => by
    unfold Instr.fill at h ⊢
    cases hp : p i with
    | none => rw [hp] at h; cases h
    | some x =>
      rw [hp] at h
      rw [hpq i x hp]
      obtain ⟨off, size⟩ := x
      dsimp only at h ⊢
      split at h
      · cases h
      · rename_i hc
        rw [if_neg hc]
        exact fill_more hpq l _ r h
section
variable {P : Program} {L : List TD} {Z : List (List Value)} {n : Nat} {Q : Exit → Act → World → Prop} {c : Ctx}
variable {s : AMS} {f f' : AEnv} {σ σ' : Store} {ob : Obs} {κ : List Kt} {all : Array Oper} {dec : List Nat} {o : Oper} {al : Bool} {rest : List (Oper × Bool)} {m : Mode}
def arrFs (m k : Nat) : List (Nat × Nat × Bool) := (List.range m).map fun i => (i * k, k, false)
/-- An array is built. -/
theorem a_buildR (hT : TOk P L) (hZ : ZOk P Z) {t : TypeId} {N k : Nat} {e : TypeId} {ps : Array (Nat × Operand)} {z : Value} {zs : List Value} (cs : List AV) (h : machA L n fuel s f σ [] = ⟨.op m κ all dec o al rest, f', σ', ob⟩) (hob : ob.map (·.1) = ob.map (·.2)) (ho : o.op = .build t ps) (ht : tl L t = .arr N e k) (hz : zt Z t = z :: zs)
    (hf : bldA (avs (z :: zs)) (arrFs N k) (ps.toList.map fun p => (p.1, evA n f' p.2)) = some cs) (hk : DenA c P n Q (.ops m κ all dec rest) (putA f' o.dst (.agg cs)) σ') : DenA c P n Q s f σ := by
  refine a_pure hT (.agg cs) h hob (fun M w fc he => ?_) hk
  obtain ⟨i, v, hi, hiz, hcs, h1⟩ := hZ.spec hz
  obtain ⟨inf, hu, hi', hsm, hm, hck⟩ := arr_tl hT ht
  have hrep : ∀ l : List (Nat × Operand), Reps M w (l.map fun p => evA n f' p.2) (l.map fun p => ev n fc p.2) := fun l => by
    induction l with
    | nil => exact Reps.nil
    | cons p l ih => exact Reps.cons (he.eval p.2) ih
  obtain ⟨xs, hx1, hx2, hx3⟩ := bldA_rep (M := M) (w := w) (vs := ps.toList.map fun p => (p.1, ev n fc p.2)) (z := z :: zs) hf (reps_vs _) (ones_spec h1) (by simp) (by rw [List.map_map, List.map_map]; exact hrep ps.toList)
  refine ⟨.agg xs.toArray, fun w' => ?_, by unfold Rep; exact ⟨xs, rfl, hx2, hx3⟩⟩
  have hfill : Instr.fill (fun i => some (i * k, k)) v.cells ((ps.map fun (i, x) => (i, ev n fc x)).toList) = some xs.toArray := by
    unfold V.bld at hx1
    refine fill_more (p := fun i => ((arrFs N k)[i]?).map fun f => (f.1, f.2.1)) ?_ _ _ _ ?_
    · intro j x hj
      unfold arrFs at hj
      rw [List.getElem?_map] at hj
      cases hr : (List.range N)[j]? with
      | none => rw [hr] at hj; cases hj
      | some q =>
        rw [hr] at hj
        have := List.getElem?_eq_some_iff.1 hr
        obtain ⟨h1, h2⟩ := this
        simp at h2
        subst h2
        simpa using hj
    · rw [← hx1]
      congr 1
      · rw [← hcs]
      · simp
  unfold execOp
  simp only [ho, Instr.build, Sem.run_bind, zeroValue, typeInfo, run_program, Result.andThen_ok, hi, hiz, Sem.run_pure, run_underlying hu, run_sizeOf' hsm, hck]
  rw [hfill]
  rfl
end
end Go.Proofs.YtjcolfogmmjaoaaGreatDoor.A
end

section
/- Layer 8: methods' names are unlike; a table of numbers and names is formed. -/
set_option linter.unusedVariables false
set_option linter.unusedSimpArgs false
set_option maxRecDepth 100000
namespace Go.Proofs.YtjcolfogmmjaoaaGreatDoor
open V A
theorem mt2B : mapT Tryz.prog 173 132 4 = true := by kernel_rfl
theorem und2 : Tryz.prog.underlying 132 = some (.array 2 9) := by kernel_rfl
theorem kSS_ok : KeyOk Tryz.prog 132 kSS := by
  obtain ⟨i, hi⟩ := info_of_underlying (show Tryz.prog.underlying 9 = some .string by kernel_rfl)
  exact key_two und2 (by kernel_rfl) hi (by kernel_rfl)
theorem le_two {a b : ByteArray} : Le (.agg [.v (.string a) 0, .v (.string b) 0]) (.v (kSS (a, b)) 0) := by
  intro M w v hr
  unfold Rep at hr
  obtain ⟨ys, rfl, hr, _⟩ := hr
  unfold Reps at hr
  obtain ⟨y, r, rfl, h1, hr⟩ := hr
  unfold Reps at hr
  obtain ⟨y2, r, rfl, h2, hr⟩ := hr
  unfold Reps at hr
  subst hr
  rw [rep_v h1, rep_v h2]
  unfold Rep
  rfl
theorem UTP_spec {l : List MtP} {key : MtP → (ByteArray × ByteArray)} {f : FuncId} {cap : List AV} (hl : l.length < 4611686018427387904) (hb : callOk Tryz.prog f = true) (hf : ∀ x ∈ l, FSpec Tryz.prog f (.agg ((eT x).map nd) :: cap) [] fun a cs => a = .v (kSS (key x)) 0 ∧ cs = []) :
    FSpec Tryz.prog 71 [.d (.sl 5 (l.map eT)), .fn f cap] [] fun a cs => a = bA (uniqM (l.map key) []) ∧ cs = [] := by
  refine a_enter hT [.d (.sl 5 (l.map eT)), .fn f cap] [] Tryz.func71 rfl rfl rfl ⟨rfl, Fit.refl _, trivial⟩ fun c' => ?_
  have hlen : (l.map eT).length = l.length := List.length_map _
  refine a_mkmap hT 40 rfl rfl rfl fun r => ?_
  refine a_loop hT [1, 5, 9, 10, 11] (fun x : Nat × List ((ByteArray × ByteArray) × Bool) => [.fn f cap, .v (.map (some r)) 40, .d (.sl 5 (l.map eT)), .v (kI l.length) 0, .v (kI x.1) 0]) (fun x => [(40, .map r (mapG kSS bA x.2))]) (fun x => uniqM ((l.drop x.1).map key) x.2 = uniqM (l.map key) [] ∧ x.1 ≤ l.length) (fun x => l.length - x.1) (0, []) [40] rfl rfl ⟨rfl, Nat.zero_le _⟩ ⟨Fit.refl _, rfl, rfl, by rw [← hlen]; rfl, rfl, trivial⟩ rfl ⟨⟨rfl, rfl⟩, trivial⟩ ?_
  rintro ⟨i, M⟩ ⟨i1, i2⟩
  dsimp only at i1 i2
  have hw := wN i (by omega)
  rcases Nat.lt_or_ge i l.length with hil | hil
  · have hat : (l.map eT)[(i : Int).toNat]? = some (eT l[i]) := by simp [hil]
    have hF := hf l[i] (List.getElem_mem hil)
    rw [drop_at hil, List.map_cons, uniqM_cons] at i1
    refine a_t hT rfl rfl (decide_eq_true (by show (i : Int) < (l.length : Int); omega)) ?_
    refine a_ix hT _ rfl rfl rfl rfl rfl rfl (by omega) hat ?_
    refine a_new hT hZ 20 rfl rfl rfl rfl fun g => ?_
    refine a_callv hT rfl rfl rfl rfl hb hF [] [] rfl rfl ?_
    rintro _ _ ⟨rfl, rfl⟩
    cases hg : aget M (key l[i]) with
    | none =>
      rw [hg] at i1
      refine a_lookG hT (kv := kSS) (va := bA) M (key l[i]) _ rfl rfl rfl mt2B kSS_ok zeroB rfl rfl rfl rfl rfl hg ?_
      refine a_f hT rfl rfl rfl ?_
      refine a_callv hT rfl rfl rfl rfl hb hF [] [] rfl rfl ?_
      rintro _ _ ⟨rfl, rfl⟩
      refine a_mputG hT (kv := kSS) (va := bA) M (key l[i]) true rfl rfl rfl mt2B kSS_ok rfl rfl rfl rfl rfl rfl ?_
      exact a_next hT (i + 1, aput M (key l[i]) true) [40] rfl rfl ⟨⟨i1, by dsimp only; omega⟩, by dsimp only; omega⟩ ⟨Fit.refl _, rfl, rfl, rfl, by show Value.int .i64 _ = Value.int .i64 _; rw [hw], trivial⟩ rfl ⟨⟨rfl, rfl⟩, trivial⟩
    | some b =>
      rw [hg] at i1
      cases b with
      | true =>
        refine a_lookG hT (kv := kSS) (va := bA) M (key l[i]) _ rfl rfl rfl mt2B kSS_ok zeroB rfl rfl rfl rfl rfl hg ?_
        refine a_t hT rfl rfl rfl ?_
        exact a_ret hT [] rfl rfl rfl rfl rfl rfl ⟨by rw [← i1]; rfl, rfl⟩
      | false =>
        refine a_lookG hT (kv := kSS) (va := bA) M (key l[i]) _ rfl rfl rfl mt2B kSS_ok zeroB rfl rfl rfl rfl rfl hg ?_
        refine a_f hT rfl rfl rfl ?_
        refine a_callv hT rfl rfl rfl rfl hb hF [] [] rfl rfl ?_
        rintro _ _ ⟨rfl, rfl⟩
        refine a_mputG hT (kv := kSS) (va := bA) M (key l[i]) true rfl rfl rfl mt2B kSS_ok rfl rfl rfl rfl rfl rfl ?_
        exact a_next hT (i + 1, aput M (key l[i]) true) [40] rfl rfl ⟨⟨i1, by dsimp only; omega⟩, by dsimp only; omega⟩ ⟨Fit.refl _, rfl, rfl, rfl, by show Value.int .i64 _ = Value.int .i64 _; rw [hw], trivial⟩ rfl ⟨⟨rfl, rfl⟩, trivial⟩
  · have hnil : l.drop i = [] := List.drop_eq_nil_of_le hil
    rw [hnil] at i1
    refine a_if hT rfl rfl (fun h => ?_) (fun h => ?_)
    · have h := of_decide_eq_true h
      (exfalso; first | omega | contradiction)
    · have h := of_decide_eq_false h
      refine a_ret hT [] rfl rfl rfl rfl rfl rfl ?_
      exact ⟨by rw [← i1]; rfl, rfl⟩
theorem form5_spec {t : MtP} : FSpec Tryz.prog 72 [.agg ((eT t).map nd)] [] fun a cs => a = .v (kSS (t.svc, t.name)) 0 ∧ cs = [] := by
  refine FSpec.le ?_
  refine a_enter hT [.agg ((eT t).map nd)] [] Tryz.func72 rfl rfl rfl ⟨Fit.refl _, trivial⟩ fun c' => ?_
  refine a_box hT 20 rfl rfl rfl rfl fun g => ?_
  refine a_new hT hZ 21 rfl rfl rfl rfl fun g1 => ?_
  refine a_buildR hT hZ [.v (.string t.svc) 0, .v (.string t.name) 0] rfl rfl rfl rfl rfl rfl ?_
  refine a_ret hT [] rfl rfl rfl rfl rfl rfl ?_
  exact ⟨_, le_two, rfl, rfl⟩
def badV (v : VDP) : Bool := !plainP v.name || decide (v.num < 0) || decide (v.num > 2147483647)
def enumP (e : EDP) : Bool := e.vs.all (fun v => !badV v) && ((match e.vs with | [] => false | v :: _ => v.num == 0) && (uniqM (e.vs.map (·.name)) [] && uniqM (e.vs.map (·.num)) []))
theorem enum1_spec {v : VDP} : FSpec Tryz.prog 111 [.agg ((eVd v).map nd)] [] fun a cs => a = .v (kS v.name) 0 ∧ cs = [] := by
  refine a_enter hT [.agg ((eVd v).map nd)] [] Tryz.func111 rfl rfl rfl ⟨Fit.refl _, trivial⟩ fun c' => ?_
  refine a_box hT 20 rfl rfl rfl rfl fun g => ?_
  refine a_ret hT [] rfl rfl rfl rfl rfl rfl ?_
  exact ⟨rfl, rfl⟩
theorem enum2_spec {v : VDP} : FSpec Tryz.prog 113 [.agg ((eVd v).map nd)] [] fun a cs => a = .v (kI v.num) 0 ∧ cs = [] := by
  refine a_enter hT [.agg ((eVd v).map nd)] [] Tryz.func113 rfl rfl rfl ⟨Fit.refl _, trivial⟩ fun c' => ?_
  refine a_box hT 20 rfl rfl rfl rfl fun g => ?_
  refine a_ret hT [] rfl rfl rfl rfl rfl rfl ?_
  exact ⟨rfl, rfl⟩
theorem enum_spec {e : EDP} (hl : e.vs.length < 4611686018427387904) (hn : ∀ v ∈ e.vs, v.name.size ≤ 4611686018427387904) : FSpec Tryz.prog 69 [.agg ((eE e).map nd)] [] fun a cs => a = bA (enumP e) ∧ cs = [] := by
  refine a_enter hT [.agg ((eE e).map nd)] [] Tryz.func69 rfl rfl rfl ⟨Fit.refl _, trivial⟩ fun c' => ?_
  have hlen : (e.vs.map eVd).length = e.vs.length := List.length_map _
  refine a_box hT 20 rfl rfl rfl rfl fun g1 => ?_
  refine a_freezeK 1 20 rfl rfl rfl rfl rfl ?_
  refine a_loop hT [1, 6, 7, 8] (fun i : Nat => [.d (.p (eE e)), .d (.sl 2 (e.vs.map eVd)), .v (kI e.vs.length) 0, .v (kI i) 0]) (fun _ => []) (fun i => (e.vs.drop i).all (fun v => !badV v) = e.vs.all (fun v => !badV v) ∧ i ≤ e.vs.length) (fun i => e.vs.length - i) 0 [] rfl rfl ⟨rfl, Nat.zero_le _⟩ ⟨rfl, rfl, by rw [← hlen]; rfl, rfl, trivial⟩ rfl trivial ?_
  rintro i ⟨i1, i2⟩
  have hw := wN i (by omega)
  rcases Nat.lt_or_ge i e.vs.length with hil | hil
  · have hat : (e.vs.map eVd)[(i : Int).toNat]? = some (eVd e.vs[i]) := by simp [hil]
    have hnm := hn e.vs[i] (List.getElem_mem hil)
    rw [drop_at hil, List.all_cons] at i1
    generalize e.vs[i] = x at hat hnm i1
    refine a_if hT rfl rfl (fun h => ?_) (fun h => ?_)
    · have h := of_decide_eq_true h
      refine a_ix hT _ rfl rfl rfl rfl rfl rfl (by first | omega | assumption) (by first | assumption | rfl) ?_
      refine a_new hT hZ 20 rfl rfl rfl rfl fun g => ?_
      refine a_call hT rfl rfl rfl (by kernel_rfl) (Plain_spec (by first | assumption | rfl | decide | omega | (dsimp only; omega))) [] [] rfl rfl ?_
      rintro _ _ ⟨rfl, rfl⟩
      refine a_g hT rfl rfl rfl (fun h1 => ?_) (fun h1 => ?_)
      · simp at h1
        refine a_gt hT rfl rfl rfl rfl ?_
        refine a_t hT rfl rfl rfl ?_
        refine a_ret hT [] rfl rfl rfl rfl rfl rfl ?_
        exact b_eq (by unfold enumP; rw [← i1, show badV x = true by (simp [badV]; first | omega | simp_all)]; simp)
      · simp at h1
        refine a_g hT rfl rfl rfl (fun h2 => ?_) (fun h2 => ?_)
        · have h2 := of_decide_eq_true h2
          refine a_t hT rfl rfl rfl ?_
          refine a_ret hT [] rfl rfl rfl rfl rfl rfl ?_
          exact b_eq (by unfold enumP; rw [← i1, show badV x = true by (simp [badV]; first | omega | simp_all)]; simp)
        · have h2 := of_decide_eq_false h2
          refine a_if hT rfl rfl (fun h3 => ?_) (fun h3 => ?_)
          · have h3 := of_decide_eq_true h3
            refine a_ret hT [] rfl rfl rfl rfl rfl rfl ?_
            exact b_eq (by unfold enumP; rw [← i1, show badV x = true by (simp [badV]; first | omega | simp_all)]; simp)
          · have h3 := of_decide_eq_false h3
            exact a_next hT (i + 1) [] rfl rfl ⟨⟨by rw [← i1, show badV x = false by (simp [badV]; first | omega | simp_all)]; simp, by omega⟩, by omega⟩ ⟨rfl, rfl, rfl, by show Value.int .i64 _ = Value.int .i64 _; rw [hw], trivial⟩ rfl trivial
    · have h := of_decide_eq_false h
      (exfalso; first | omega | contradiction)
  · have hU1 := UVS_spec (l := e.vs) (key := fun v => v.name) (f := 111) (cap := []) hl (by kernel_rfl) (fun x _ => enum1_spec)
    have hU2 := UVI_spec (l := e.vs) (key := fun v => v.num) (f := 113) (cap := []) hl (by kernel_rfl) (fun x _ => enum2_spec)
    have hnil : e.vs.drop i = [] := List.drop_eq_nil_of_le hil
    rw [hnil, List.all_nil] at i1
    have hE : enumP e = (e.vs.all (fun v => !badV v) && ((match e.vs with | [] => false | v :: _ => v.num == 0) && (uniqM (e.vs.map (·.name)) [] && uniqM (e.vs.map (·.num)) []))) := rfl
    rw [← i1, Bool.true_and] at hE
    generalize uniqM (e.vs.map (·.name)) [] = u1 at hU1 hE
    generalize uniqM (e.vs.map (·.num)) [] = u2 at hU2 hE
    cases hv : e.vs with
    | nil =>
      rw [hv] at hE
      rw [hE]
      have h0 : (e.vs.map eVd).length = 0 := by rw [hv]; rfl
      refine a_f hT rfl rfl rfl ?_
      refine a_g hT rfl rfl rfl (fun h => ?_) (fun h => ?_)
      · have h := of_decide_eq_true h
        (exfalso; first | omega | contradiction)
      · have h := of_decide_eq_false h
        refine a_gf hT rfl rfl rfl rfl ?_
        refine a_gf hT rfl rfl rfl rfl ?_
        refine a_ret hT [] rfl rfl rfl rfl rfl rfl ?_
        exact b_eq (by simp_all)
    | cons x l =>
      rw [hv] at hE
      rw [hE]
      have hlv : e.vs.length = (x :: l).length := by rw [hv]
      have h0 : (e.vs.map eVd).length > 0 := by rw [hv]; simp
      have hat : (e.vs.map eVd)[(0 : Int).toNat]? = some (eVd x) := by rw [hv]; rfl
      refine a_if hT rfl rfl (fun h => ?_) (fun h => ?_)
      · have h := of_decide_eq_true h
        (exfalso; first | omega | contradiction)
      · have h := of_decide_eq_false h
        refine a_g hT rfl rfl rfl (fun h1 => ?_) (fun h1 => ?_)
        · have h1 := of_decide_eq_true h1
          refine a_ix hT _ rfl rfl rfl rfl rfl rfl (by first | omega | assumption) (by first | assumption | rfl) ?_
          refine a_g hT rfl rfl rfl (fun h2 => ?_) (fun h2 => ?_)
          · have h2 := eq_of_beq h2
            refine a_call hT rfl rfl rfl (by kernel_rfl) hU1 [] [] rfl rfl ?_
            rintro _ _ ⟨rfl, rfl⟩
            refine a_g hT rfl rfl rfl (fun h3 => ?_) (fun h3 => ?_)
            · refine a_call hT rfl rfl rfl (by kernel_rfl) hU2 [] [] rfl rfl ?_
              rintro _ _ ⟨rfl, rfl⟩
              refine a_ret hT [] rfl rfl rfl rfl rfl rfl ?_
              exact b_eq (by simp_all)
            · refine a_ret hT [] rfl rfl rfl rfl rfl rfl ?_
              exact b_eq (by simp_all)
          · have h2 := ne_of_beq_false h2
            refine a_gf hT rfl rfl rfl rfl ?_
            refine a_ret hT [] rfl rfl rfl rfl rfl rfl ?_
            exact b_eq (by simp_all)
        · have h1 := of_decide_eq_false h1
          (exfalso; first | omega | contradiction)
end Go.Proofs.YtjcolfogmmjaoaaGreatDoor
end

section
/- Layer 8: whether a message needs itself: what the search goes through. -/
set_option linter.unusedVariables false
set_option linter.unusedSimpArgs false
set_option maxRecDepth 100000
namespace Go.Proofs.YtjcolfogmmjaoaaGreatDoor
open V A
def eBo (b : Bool) : List A.Dat := [.v (.bool b)]
/-- A message is held alone in the field. -/
def FDP.holds (f : FDP) : Bool := f.kind == 10 && !f.rep
def goF (rec : Int → List Bool → Bool × List Bool) (t : Int) : List FDP → List Bool → Bool × List Bool
  | [], seen => (false, seen)
  | f :: l, seen => if f.holds then
      if f.ty = t then (true, seen)
      else if seen.getD f.ty.toNat false then goF rec t l seen
      else match rec f.ty (seen.set f.ty.toNat true) with
        | (true, s) => (true, s)
        | (false, s) => goF rec t l s
    else goF rec t l seen
theorem goF_cons (rec : Int → List Bool → Bool × List Bool) (t : Int) (f : FDP) (l : List FDP) (seen : List Bool) : goF rec t (f :: l) seen = if f.holds then
      if f.ty = t then (true, seen)
      else if seen.getD f.ty.toNat false then goF rec t l seen
      else match rec f.ty (seen.set f.ty.toNat true) with
        | (true, s) => (true, s)
        | (false, s) => goF rec t l s
    else goF rec t l seen := rfl
def fsOf (ms : List MDP) (k : Int) : List FDP := match ms[k.toNat]? with | some m => m.fs | none => []
def reachF (ms : List MDP) (t : Int) : Nat → Int → List Bool → Bool × List Bool
  | 0, _, seen => (false, seen)
  | n + 1, k, seen => goF (reachF ms t n) t (fsOf ms k) seen
theorem count_set : ∀ (l : List Bool) (i : Nat), l[i]? = some false → (l.set i true).count false + 1 = l.count false
  | [], i, h => by simp at h
  | b :: l, 0, h => by simp at h; subst h; simp
  | b :: l, i + 1, h => by
    have := count_set l i (by simpa using h)
    rw [List.set_cons_succ, List.count_cons, List.count_cons]
    omega
theorem count_set_le : ∀ (l : List Bool) (i : Nat), (l.set i true).count false ≤ l.count false
  | [], i => by simp
  | b :: l, 0 => by rw [List.set_cons_zero, List.count_cons, List.count_cons]; simp
  | b :: l, i + 1 => by
    have := count_set_le l i
    rw [List.set_cons_succ, List.count_cons, List.count_cons]
    omega
theorem goF_mono {rec : Int → List Bool → Bool × List Bool} {t : Int} (hr : ∀ k s, (rec k s).2.length = s.length ∧ (rec k s).2.count false ≤ s.count false) : ∀ (l : List FDP) (s : List Bool), (goF rec t l s).2.length = s.length ∧ (goF rec t l s).2.count false ≤ s.count false
  | [], s => ⟨rfl, Nat.le_refl _⟩
  | f :: l, s => by
    unfold goF
    split
    · split
      · exact ⟨rfl, Nat.le_refl _⟩
      · split
        · exact goF_mono hr l s
        · have h1 := hr f.ty (s.set f.ty.toNat true)
          have h2 := count_set_le s f.ty.toNat
          split
          · rename_i s' e
            rw [e] at h1
            exact ⟨by rw [h1.1, List.length_set], by omega⟩
          · rename_i s' e
            rw [e] at h1
            have h3 := goF_mono hr (t := t) l s'
            dsimp only at h1
            exact ⟨by rw [h3.1, h1.1, List.length_set], by omega⟩
    · exact goF_mono hr l s
theorem reachF_mono (ms : List MDP) (t : Int) : ∀ (n : Nat) (k : Int) (s : List Bool), (reachF ms t n k s).2.length = s.length ∧ (reachF ms t n k s).2.count false ≤ s.count false
  | 0, k, s => ⟨rfl, Nat.le_refl _⟩
  | n + 1, k, s => goF_mono (reachF_mono ms t n) _ _
/-- Each field's message is there. -/
def Held (ms : List MDP) : Prop := ∀ m ∈ ms, m.fs.length ≤ 1000 ∧ ∀ f ∈ m.fs, f.kind = 10 → 0 ≤ f.ty ∧ f.ty < ms.length
def rchN : FuncId := 116
def capsN (s : SchP) (t : Int) (gs gf : Nat) : List AV := [.d (.p (schD s)), .d (.p [.v (kI t)]), .v (.pointer (some ⟨gs, 0, none⟩)) 30, .v (.pointer (some ⟨gf, 0, none⟩)) 32]
def seenC (s : SchP) (t : Int) (gs gf : Nat) (v : Value) (seen : List Bool) : List Chunk := [.blk gs 174 [.row v 31], .row v 4 1 (seen.map eBo), .blk gf 108 [.fn rchN (capsN s t gs gf)]]
theorem reach_spec {s : SchP} {t : Int} {gs gf : Nat} {v : Value} (hs : Held s.ms) : ∀ (n : Nat) (k : Int) (h : Nat) (seen : List Bool), 0 ≤ k → k < s.ms.length → seen.length = s.ms.length → seen.count false < n →
    FSpec Tryz.prog rchN (.v (kI k) h :: capsN s t gs gf) (seenC s t gs gf v seen) fun a cs => a = bA (reachF s.ms t n k seen).1 ∧ cs = seenC s t gs gf v (reachF s.ms t n k seen).2 := by
  intro n
  induction n with
  | zero => intro k h seen _ _ _ h; omega
  | succ n ih =>
    intro k h seen hk0 hk hsl hcn
    refine a_enter hT (.v (kI k) 0 :: capsN s t gs gf) [30, 31, 32] Tryz.func116 rfl rfl rfl ⟨rfl, Fit.refl _, Fit.refl _, Fit.refl _, Fit.refl _, trivial⟩ fun c' => ?_
    have hkk : k.toNat < s.ms.length := by omega
    have hat : (s.ms.map eM)[k.toNat]? = some (eM s.ms[k.toNat]) := by simp [hkk]
    have hm := List.getElem_mem hkk
    have hhm := hs _ hm
    have hfs : fsOf s.ms k = s.ms[k.toNat].fs := by unfold fsOf; rw [List.getElem?_eq_getElem hkk]
    unfold reachF
    rw [hfs]
    generalize s.ms[k.toNat] = m at hat hm hhm
    have hlen : (m.fs.map eF).length = m.fs.length := List.length_map _
    refine a_ix hT _ rfl rfl rfl rfl rfl rfl hk0 hat ?_
    have hL0 : (seen.map eBo).length = s.ms.length := by rw [List.length_map, hsl]
    refine a_rowfact 31 rfl rfl fun hf => ?_
    rcases hf with ⟨_, hf⟩ | ⟨gr, cap, rfl⟩
    · rw [hf] at hL0
      simp at hL0
      omega
    generalize (seen.map eBo).length = L0 at *
    have hmono := reachF_mono s.ms t n
    generalize reachF s.ms t n = rec at *
    refine a_loop hT [2, 3, 4, 14, 15, 16] (fun x : Nat × List Bool => [.d (.p [.v (kI t)]), .v (.pointer (some ⟨gs, 0, none⟩)) 30, .v (.pointer (some ⟨gf, 0, none⟩)) 32, .d (.sl 5 (m.fs.map eF)), .v (kI m.fs.length) 0, .v (kI x.1) 0]) (fun x => [(30, .blk gs 174 [.row (.slice (some ⟨gr, 0, none⟩) L0 cap) 31]), (31, .row (.slice (some ⟨gr, 0, none⟩) L0 cap) 4 1 (x.2.map eBo)), (32, .blk gf 108 [.fn rchN (capsN s t gs gf)])]) (fun x => goF rec t (m.fs.drop x.1) x.2 = goF rec t m.fs seen ∧ x.1 ≤ m.fs.length ∧ x.2.length = s.ms.length ∧ x.2.count false < n + 1) (fun x => m.fs.length - x.1) (0, seen) [30, 31, 32] rfl rfl ⟨rfl, Nat.zero_le _, hsl, hcn⟩ ⟨rfl, rfl, rfl, rfl, by rw [← hlen]; rfl, rfl, trivial⟩ rfl ⟨⟨rfl, rfl, rfl, trivial⟩, ⟨rfl, rfl, rfl, rfl⟩, ⟨rfl, rfl, Fit.refl _, trivial⟩, trivial⟩ ?_
    rintro ⟨i, se⟩ ⟨i1, i2, i3, i4⟩
    dsimp only at i1 i2 i3 i4
    have hw := wN i (by omega)
    rcases Nat.lt_or_ge i m.fs.length with hil | hil
    · have hat : (m.fs.map eF)[(i : Int).toNat]? = some (eF m.fs[i]) := by simp [hil]
      have hhx := hhm.2 m.fs[i] (List.getElem_mem hil)
      rw [drop_at hil, goF_cons] at i1
      generalize m.fs[i] = x at hat hhx i1
      refine a_t hT rfl rfl (decide_eq_true (by show (i : Int) < (m.fs.length : Int); omega)) ?_
      refine a_ix hT _ rfl rfl rfl rfl rfl rfl (by first | omega | assumption) (by first | assumption | rfl) ?_
      refine a_new hT hZ 33 rfl rfl rfl rfl fun g => ?_
      refine a_g hT rfl rfl rfl (fun h2 => ?_) (fun h2 => ?_)
      · have h2 := bne_iff_ne.1 h2
        rw [if_neg (by unfold FDP.holds; simp [show ¬ x.kind = 10 from h2])] at i1
        refine a_t hT rfl rfl rfl ?_
        exact a_next hT (i + 1, se) [30, 31, 32] rfl rfl ⟨⟨i1, by omega, i3, i4⟩, by dsimp only; omega⟩ ⟨rfl, rfl, rfl, rfl, rfl, by show Value.int .i64 _ = Value.int .i64 _; rw [hw], trivial⟩ rfl ⟨⟨rfl, rfl, rfl, trivial⟩, ⟨rfl, rfl, rfl, rfl⟩, ⟨rfl, rfl, Fit.refl _, trivial⟩, trivial⟩
      · have h2 : x.kind = 10 := by simpa using h2
        refine a_if hT rfl rfl (fun h3 => ?_) (fun h3 => ?_)
        · have h3 : x.rep = true := h3
          rw [if_neg (by unfold FDP.holds; simp [h3])] at i1
          exact a_next hT (i + 1, se) [30, 31, 32] rfl rfl ⟨⟨i1, by omega, i3, i4⟩, by dsimp only; omega⟩ ⟨rfl, rfl, rfl, rfl, rfl, by show Value.int .i64 _ = Value.int .i64 _; rw [hw], trivial⟩ rfl ⟨⟨rfl, rfl, rfl, trivial⟩, ⟨rfl, rfl, rfl, rfl⟩, ⟨rfl, rfl, Fit.refl _, trivial⟩, trivial⟩
        · have h3 : x.rep = false := h3
          rw [if_pos (by unfold FDP.holds; simp [h2, h3])] at i1
          obtain ⟨hx0, hx1⟩ := hhx h2
          refine a_if hT rfl rfl (fun h4 => ?_) (fun h4 => ?_)
          · have h4 : x.ty = t := eq_of_beq h4
            rw [if_pos h4] at i1
            refine a_ret hT [30, 31, 32] rfl rfl rfl rfl rfl rfl ?_
            rw [← i1]
            exact ⟨rfl, rfl⟩
          · have h4 : ¬ x.ty = t := ne_of_beq_false h4
            rw [if_neg h4] at i1
            have hgd : se[x.ty.toNat]? = some (se.getD x.ty.toNat false) := by
              rw [List.getD_eq_getElem?_getD, List.getElem?_eq_getElem (by omega)]; rfl
            have hge : (se.map eBo)[x.ty.toNat]? = some (eBo (se.getD x.ty.toNat false)) := by rw [List.getElem?_map, hgd]; rfl
            generalize hbb : se.getD x.ty.toNat false = b at hgd hge i1
            refine a_rix hT x.ty.toNat rfl rfl rfl rfl rfl rfl (by omega) (by omega) ?_
            refine a_rld hT x.ty.toNat 0 (eBo b) (.d (.v (.bool b))) rfl rfl rfl rfl rfl rfl (by omega) hge rfl ?_
            cases b with
            | true =>
              rw [if_pos rfl] at i1
              refine a_f hT rfl rfl rfl ?_
              exact a_next hT (i + 1, se) [30, 31, 32] rfl rfl ⟨⟨i1, by omega, i3, i4⟩, by dsimp only; omega⟩ ⟨rfl, rfl, rfl, rfl, rfl, by show Value.int .i64 _ = Value.int .i64 _; rw [hw], trivial⟩ rfl ⟨⟨rfl, rfl, rfl, trivial⟩, ⟨rfl, rfl, rfl, rfl⟩, ⟨rfl, rfl, Fit.refl _, trivial⟩, trivial⟩
            | false =>
              rw [if_neg Bool.false_ne_true] at i1
              refine a_t hT rfl rfl rfl ?_
              refine a_rix hT x.ty.toNat rfl rfl rfl rfl rfl rfl (by omega) (by omega) ?_
              refine a_rst hT x.ty.toNat 0 (eBo false) (.v (.bool true)) rfl rfl rfl rfl rfl rfl rfl (by omega) hge (by omega) rfl ?_
              have hset : (se.map eBo).set x.ty.toNat ((eBo false).set 0 (.v (.bool true))) = (se.set x.ty.toNat true).map eBo := by rw [List.map_set]; rfl
              have hcs := count_set se x.ty.toNat hgd
              have hmo := hmono x.ty (se.set x.ty.toNat true)
              have hls : (se.set x.ty.toNat true).length = s.ms.length := by rw [List.length_set]; exact i3
              have hS := ih x.ty 0 (se.set x.ty.toNat true) hx0 hx1 hls (by omega)
              generalize rec x.ty (se.set x.ty.toNat true) = r at hS hmo i1
              obtain ⟨r1, s1⟩ := r
              dsimp only at hmo hS
              unfold seenC at hS
              rw [← hset] at hS
              refine a_callv hT rfl rfl rfl rfl (by kernel_rfl) hS [30, 31, 32] [30, 31, 32] rfl rfl ?_
              rintro _ _ ⟨rfl, rfl⟩
              cases r1 with
              | true =>
                dsimp only at i1
                refine a_t hT rfl rfl rfl ?_
                refine a_ret hT [30, 31, 32] rfl rfl rfl rfl rfl rfl ?_
                rw [← i1]
                exact ⟨rfl, rfl⟩
              | false =>
                dsimp only at i1
                refine a_f hT rfl rfl rfl ?_
                exact a_next hT (i + 1, s1) [30, 31, 32] rfl rfl ⟨⟨i1, by omega, by rw [hmo.1]; exact hls, by dsimp only; omega⟩, by dsimp only; omega⟩ ⟨rfl, rfl, rfl, rfl, rfl, by show Value.int .i64 _ = Value.int .i64 _; rw [hw], trivial⟩ rfl ⟨⟨rfl, rfl, rfl, trivial⟩, ⟨rfl, rfl, rfl, rfl⟩, ⟨rfl, rfl, Fit.refl _, trivial⟩, trivial⟩
    · have hnil : m.fs.drop i = [] := List.drop_eq_nil_of_le hil
      rw [hnil] at i1
      rw [← i1]
      refine a_f hT rfl rfl (decide_eq_false (by show ¬ (i : Int) < (m.fs.length : Int); omega)) ?_
      refine a_ret hT [30, 31, 32] rfl rfl rfl rfl rfl rfl ?_
      exact ⟨rfl, rfl⟩
end Go.Proofs.YtjcolfogmmjaoaaGreatDoor
end

section
/- Layer 8: any schema is formed. -/
set_option linter.unusedVariables false
set_option linter.unusedSimpArgs false
set_option maxRecDepth 100000
namespace Go.Proofs.YtjcolfogmmjaoaaGreatDoor
open V A
/-- Not too wide. -/
structure SzS (s : SchP) : Prop where
  ms : s.ms.length ≤ 2000
  es : s.es.length ≤ 2000
  mts : s.mts.length ≤ 2000
  fl : ∀ m ∈ s.ms, m.fs.length ≤ 2000
  vl : ∀ e ∈ s.es, e.vs.length ≤ 2000
  nm : ∀ m ∈ s.ms, m.name.size ≤ 900000
  ne : ∀ e ∈ s.es, e.name.size ≤ 900000
  fn : ∀ m ∈ s.ms, ∀ f ∈ m.fs, f.name.size ≤ 900000
  vn : ∀ e ∈ s.es, ∀ v ∈ e.vs, v.name.size ≤ 900000
  mn : ∀ m ∈ s.mts, m.svc.size ≤ 900000 ∧ m.name.size ≤ 900000
def needsP (ms : List MDP) (t : Int) : Bool := (reachF ms t (ms.length + 1) t (List.replicate ms.length false)).1
theorem needs_spec {s : SchP} {k : Nat} {h : Nat} (hs : Held s.ms) (hm : s.ms.length ≤ 2000) (hk : k < s.ms.length) : FSpec Tryz.prog 73 [schA s, .v (kI k) h] [] fun a cs => a = bA (needsP s.ms k) ∧ cs = [] := by
  refine a_enter hT [schA s, .v (kI k) 0] [] Tryz.func73 rfl rfl rfl ⟨Fit.refl _, rfl, trivial⟩ fun c' => ?_
  have hlm : (s.ms.map eM).length = s.ms.length := List.length_map _
  refine a_box hT 20 rfl rfl rfl rfl fun g1 => ?_
  refine a_freezeK 2 20 rfl rfl rfl rfl rfl ?_
  refine a_box hT 21 rfl rfl rfl rfl fun g2 => ?_
  refine a_freezeK 3 21 rfl rfl rfl rfl rfl ?_
  refine a_mkslice hT 31 (z := .bool false) s.ms.length s.ms.length rfl rfl rfl rfl (by kernel_rfl) (by kernel_rfl) rfl rfl rfl (by show (((s.ms.map eM).length : Nat) : Int) = _; rw [hlm]) (by show (((s.ms.map eM).length : Nat) : Int) = _; rw [hlm]) (Nat.le_refl _) (by omega) fun v => ?_
  refine a_new hT hZ 30 rfl rfl rfl rfl fun gs => ?_
  refine a_new hT hZ 32 rfl rfl rfl rfl fun gf => ?_
  have hS := reach_spec (s := s) (t := k) (gs := gs) (gf := gf) (v := v) hs (s.ms.length + 1) k 0 (List.replicate s.ms.length false) (by omega) (by omega) (by simp) (by rw [List.count_replicate]; simp)
  have hn : needsP s.ms k = (reachF s.ms k (s.ms.length + 1) k (List.replicate s.ms.length false)).1 := rfl
  rw [hn]
  generalize reachF s.ms k (s.ms.length + 1) k (List.replicate s.ms.length false) = r at hS
  unfold seenC at hS
  rw [List.map_replicate] at hS
  refine a_callv hT rfl rfl rfl rfl (by kernel_rfl) hS [30, 31, 32] [30, 31, 32] rfl rfl ?_
  rintro _ _ ⟨rfl, rfl⟩
  exact a_ret hT [] rfl rfl rfl rfl rfl rfl ⟨rfl, rfl⟩
def namesS (s : SchP) : List ByteArray := s.ms.map (·.name) ++ s.es.map (·.name)
def mtBad (nm : Int) (i : Nat) (m : MtP) : Bool := decide (m.id ≠ i + 1) || !plainP m.svc || !plainP m.name || decide (m.inn < 0 ∨ m.out < 0) || decide (m.inn ≥ nm ∨ m.out ≥ nm)
def mtsP (nm : Int) : List MtP → Nat → Bool
  | [], _ => true
  | m :: l, i => if mtBad nm i m then false else mtsP nm l (i + 1)
theorem mtsP_cons (nm : Int) (m : MtP) (l : List MtP) (i : Nat) : mtsP nm (m :: l) i = if mtBad nm i m then false else mtsP nm l (i + 1) := rfl
theorem mtBad_iff {nm : Int} {i : Nat} {m : MtP} : mtBad nm i m = true ↔ m.id ≠ i + 1 ∨ plainP m.svc = false ∨ plainP m.name = false ∨ (m.inn < 0 ∨ m.out < 0) ∨ (m.inn ≥ nm ∨ m.out ≥ nm) := by
  simp [mtBad, or_assoc]
def noNeeds (ms : List MDP) (l : List Nat) : Bool := l.all fun t => !needsP ms t
def formedP (s : SchP) : Bool := decide (s.ms.length ≤ 64 ∧ s.es.length ≤ 64 ∧ s.mts.length ≤ 64) && ((namesS s).all pathOk && (uniqM (namesS s) [] && (s.ms.all (messageP s) && (s.es.all enumP && (mtsP s.ms.length s.mts 0 && (uniqM (s.mts.map fun m => (m.svc, m.name)) [] && noNeeds s.ms (List.range s.ms.length)))))))
theorem form4_spec {e : EDP} (hl : e.vs.length < 4611686018427387904) (hn : ∀ v ∈ e.vs, v.name.size ≤ 4611686018427387904) : FSpec Tryz.prog 68 [.agg ((eE e).map nd)] [] fun a cs => a = bA (!enumP e) ∧ cs = [] := by
  refine a_enter hT [.agg ((eE e).map nd)] [] Tryz.func68 rfl rfl rfl ⟨Fit.refl _, trivial⟩ fun c' => ?_
  have HM := enum_spec (e := e) hl hn
  refine a_box hT 20 rfl rfl rfl rfl fun g => ?_
  refine a_call hT rfl rfl rfl (by kernel_rfl) HM [] [] rfl rfl ?_
  rintro _ _ ⟨rfl, rfl⟩
  refine a_ret hT [] rfl rfl rfl rfl rfl rfl ?_
  exact ⟨rfl, rfl⟩
/-- Each field of a table that is formed has its message. -/
theorem fieldsP_ty {ne nm : Int} : ∀ {l : List FDP} {last : Int}, fieldsP ne nm l last = true → ∀ f ∈ l, f.kind = 10 → 0 ≤ f.ty ∧ f.ty < nm
  | [], last, h, f, hf, _ => by simp at hf
  | x :: l, last, h, f, hf, hk => by
    rw [fieldsP_cons] at h
    split at h
    · cases h
    · rename_i hb
      rcases List.mem_cons.1 hf with rfl | hf
      · rw [badF_iff] at hb
        unfold mostP at hb
        rw [if_neg (by omega), if_pos hk] at hb
        omega
      · exact fieldsP_ty h f hf hk
theorem held_of {s : SchP} (hz : SzS s) (h : s.ms.all (messageP s) = true) : Held s.ms := by
  intro m hm
  have := List.all_eq_true.1 h m hm
  unfold messageP at this
  rw [Bool.and_eq_true, Bool.and_eq_true] at this
  exact ⟨by have := of_decide_eq_true this.2.1; omega, fun f hf hk => fieldsP_ty this.1 f hf hk⟩
theorem Formed_spec {s : SchP} (hz : SzS s) : FSpec Tryz.prog 37 [schA s] [] fun a cs => a = bA (formedP s) ∧ cs = [] := by
  refine a_enter hT [schA s] [] Tryz.func37 rfl rfl rfl ⟨Fit.refl _, trivial⟩ fun c' => ?_
  have hlm : (s.ms.map eM).length = s.ms.length := List.length_map _
  have hle : (s.es.map eE).length = s.es.length := List.length_map _
  have hlt : (s.mts.map eT).length = s.mts.length := List.length_map _
  have hms := hz.ms
  have hes := hz.es
  have hmts := hz.mts
  refine a_box hT 20 rfl rfl rfl rfl fun g1 => ?_
  refine a_freezeK 1 20 rfl rfl rfl rfl rfl ?_
  refine a_g hT rfl rfl rfl (fun h => ?_) (fun h => ?_)
  · have h := of_decide_eq_true h
    have h : (s.ms.length : Int) > 64 := by rw [← hlm]; exact h
    refine a_gt hT rfl rfl rfl rfl ?_
    refine a_t hT rfl rfl rfl ?_
    refine a_ret hT [] rfl rfl rfl rfl rfl rfl ?_
    exact b_eq (by unfold formedP; rw [decide_eq_false (by omega), Bool.false_and])
  · have h := of_decide_eq_false h
    have h : ¬ (s.ms.length : Int) > 64 := by rw [← hlm]; exact h
    refine a_g hT rfl rfl rfl (fun h1 => ?_) (fun h1 => ?_)
    · have h1 := of_decide_eq_true h1
      have h1 : (s.es.length : Int) > 64 := by rw [← hle]; exact h1
      refine a_t hT rfl rfl rfl ?_
      refine a_ret hT [] rfl rfl rfl rfl rfl rfl ?_
      exact b_eq (by unfold formedP; rw [decide_eq_false (by omega), Bool.false_and])
    · have h1 := of_decide_eq_false h1
      have h1 : ¬ (s.es.length : Int) > 64 := by rw [← hle]; exact h1
      refine a_if hT rfl rfl (fun h2 => ?_) (fun h2 => ?_)
      · have h2 := of_decide_eq_true h2
        have h2 : (s.mts.length : Int) > 64 := by rw [← hlt]; exact h2
        refine a_ret hT [] rfl rfl rfl rfl rfl rfl ?_
        exact b_eq (by unfold formedP; rw [decide_eq_false (by omega), Bool.false_and])
      · have h2 := of_decide_eq_false h2
        have h2 : ¬ (s.mts.length : Int) > 64 := by rw [← hlt]; exact h2
        have hfm : formedP s = ((namesS s).all pathOk && (uniqM (namesS s) [] && (s.ms.all (messageP s) && (s.es.all enumP && (mtsP s.ms.length s.mts 0 && (uniqM (s.mts.map fun m => (m.svc, m.name)) [] && noNeeds s.ms (List.range s.ms.length))))))) := by
          unfold formedP; rw [decide_eq_true (by omega), Bool.true_and]
        have hnl : (namesS s).length ≤ 128 := by unfold namesS; rw [List.length_append, List.length_map, List.length_map]; omega
        refine a_run hT 6 rfl rfl ?_
        refine a_nilrow 3 30 9 1 rfl rfl ?_
        refine a_loop hT [1, 3, 28, 29, 30] (fun x : Nat × Value => [.d (.p (schD s)), .row x.2 30, .d (.sl 2 (s.ms.map eM)), .v (kI s.ms.length) 0, .v (kI x.1) 0]) (fun x => [(30, .row x.2 9 1 (((s.ms.take x.1).map (·.name)).map eS))]) (fun x => x.1 ≤ s.ms.length) (fun x => s.ms.length - x.1) (0, .slice none 0 0) [30] rfl rfl (Nat.zero_le _) ⟨rfl, rfl, rfl, by rw [← hlm]; rfl, rfl, trivial⟩ rfl ⟨⟨rfl, rfl, rfl, rfl⟩, trivial⟩ ?_
        rintro ⟨i, v⟩ i2
        dsimp only at i2
        have hw := wN i (by omega)
        rcases Nat.lt_or_ge i s.ms.length with hil | hil
        · have hat : (s.ms.map eM)[(i : Int).toNat]? = some (eM s.ms[i]) := by simp [hil]
          have htk : ((s.ms.take (i + 1)).map (·.name)).map eS = ((s.ms.take i).map (·.name)).map eS ++ [eS s.ms[i].name] := by rw [List.take_succ_eq_append_getElem hil, List.map_append, List.map_append]; rfl
          generalize s.ms[i] = m at hat htk
          refine a_t hT rfl rfl (decide_eq_true (by show (i : Int) < (s.ms.length : Int); omega)) ?_
          refine a_ix hT _ rfl rfl rfl rfl rfl rfl (by first | omega | assumption) (by first | assumption | rfl) ?_
          refine a_new hT hZ 31 rfl rfl rfl rfl fun g => ?_
          refine a_lit hT 32 rfl rfl rfl rfl (by kernel_rfl) rfl rfl rfl rfl fun x32 => ?_
          refine a_app hT 30 _ rfl rfl rfl rfl (by kernel_rfl) rfl rfl rfl rfl rfl rfl (by first | (simp; done) | (simp; omega) | (simp; unfold lim; omega) | (simp; assumption)) fun v1 => ?_
          exact a_next hT (i + 1, v1) [30] rfl rfl ⟨by show i + 1 ≤ s.ms.length; omega, by show s.ms.length - (i + 1) < s.ms.length - i; omega⟩ ⟨rfl, rfl, rfl, rfl, by show Value.int .i64 _ = Value.int .i64 _; rw [hw], trivial⟩ rfl ⟨⟨rfl, rfl, rfl, htk.symm⟩, trivial⟩
        · refine a_f hT rfl rfl (decide_eq_false (by show ¬ (i : Int) < (s.ms.length : Int); omega)) ?_
          have hi : i = s.ms.length := by omega
          subst hi
          clear hil i2 hw
          refine a_loop hT [1, 3, 41, 42, 43] (fun x : Nat × Value => [.d (.p (schD s)), .row x.2 30, .d (.sl 2 (s.es.map eE)), .v (kI s.es.length) 0, .v (kI x.1) 0]) (fun x => [(30, .row x.2 9 1 ((s.ms.map (·.name) ++ (s.es.take x.1).map (·.name)).map eS))]) (fun x => x.1 ≤ s.es.length) (fun x => s.es.length - x.1) (0, v) [30] rfl rfl (Nat.zero_le _) ⟨rfl, rfl, rfl, by rw [← hle]; rfl, rfl, trivial⟩ rfl ⟨⟨rfl, rfl, rfl, by rw [List.take_length]; simp⟩, trivial⟩ ?_
          rintro ⟨i, v⟩ i2
          dsimp only at i2
          have hw := wN i (by omega)
          rcases Nat.lt_or_ge i s.es.length with hil | hil
          · have hat : (s.es.map eE)[(i : Int).toNat]? = some (eE s.es[i]) := by simp [hil]
            have htk : (s.ms.map (·.name) ++ (s.es.take (i + 1)).map (·.name)).map eS = (s.ms.map (·.name) ++ (s.es.take i).map (·.name)).map eS ++ [eS s.es[i].name] := by
              have e1 : (s.es.take (i + 1)).map (·.name) = (s.es.take i).map (·.name) ++ [s.es[i].name] := by rw [List.take_succ_eq_append_getElem hil, List.map_append]; rfl
              rw [e1, ← List.append_assoc, List.map_append]
              rfl
            generalize s.es[i] = m at hat htk
            refine a_t hT rfl rfl (decide_eq_true (by show (i : Int) < (s.es.length : Int); omega)) ?_
            refine a_ix hT _ rfl rfl rfl rfl rfl rfl (by first | omega | assumption) (by first | assumption | rfl) ?_
            refine a_new hT hZ 31 rfl rfl rfl rfl fun g => ?_
            refine a_lit hT 32 rfl rfl rfl rfl (by kernel_rfl) rfl rfl rfl rfl fun x32 => ?_
            refine a_app hT 30 _ rfl rfl rfl rfl (by kernel_rfl) rfl rfl rfl rfl rfl rfl (by first | (simp; done) | (simp; omega) | (simp; unfold lim; omega) | (simp; assumption)) fun v1 => ?_
            exact a_next hT (i + 1, v1) [30] rfl rfl ⟨by show i + 1 ≤ s.es.length; omega, by show s.es.length - (i + 1) < s.es.length - i; omega⟩ ⟨rfl, rfl, rfl, rfl, by show Value.int .i64 _ = Value.int .i64 _; rw [hw], trivial⟩ rfl ⟨⟨rfl, rfl, rfl, htk.symm⟩, trivial⟩
          · refine a_f hT rfl rfl (decide_eq_false (by show ¬ (i : Int) < (s.es.length : Int); omega)) ?_
            have hi : i = s.es.length := by omega
            subst hi
            have hns : s.ms.map (·.name) ++ (s.es.take s.es.length).map (·.name) = namesS s := by rw [List.take_length]; rfl
            have hnz : ∀ x ∈ namesS s, x.size ≤ 900000 := by
              intro x hx
              rcases List.mem_append.1 hx with hx | hx
              · obtain ⟨m, hm, rfl⟩ := List.mem_map.1 hx
                exact hz.nm m hm
              · obtain ⟨m, hm, rfl⟩ := List.mem_map.1 hx
                exact hz.ne m hm
            have HC := SContainsFunc_spec (l := namesS s) (p := fun y => !pathOk y) (f := 60) (cap := []) (by omega) (by kernel_rfl) (fun x hx => form1_spec (hnz x hx))
            have HU := USS_spec (l := namesS s) (key := fun x => x) (f := 63) (cap := []) (by omega) (by kernel_rfl) (fun x hx => form2_spec)
            have HM := MContainsFunc_spec (l := s.ms) (p := fun m => !messageP s m) (f := 65) (cap := [.d (.p (schD s))]) (by omega) (by kernel_rfl) (fun x hx => form3_spec (by have := hz.fl x hx; omega) (fun f hf => by have := hz.fn x hx f hf; omega))
            have HE := EContainsFunc_spec (l := s.es) (p := fun e => !enumP e) (f := 68) (cap := []) (by omega) (by kernel_rfl) (fun x hx => form4_spec (by have := hz.vl x hx; omega) (fun f hf => by have := hz.vn x hx f hf; omega))
            have HV := UTP_spec (l := s.mts) (key := fun m => (m.svc, m.name)) (f := 72) (cap := []) (by omega) (by kernel_rfl) (fun x hx => form5_spec)
            have hall1 : (namesS s).any (fun y => !pathOk y) = !(namesS s).all pathOk := by rw [List.all_eq_not_any_not, Bool.not_not]
            have hall2 : s.ms.any (fun m => !messageP s m) = !s.ms.all (messageP s) := by rw [List.all_eq_not_any_not, Bool.not_not]
            have hall3 : s.es.any (fun m => !enumP m) = !s.es.all enumP := by rw [List.all_eq_not_any_not, Bool.not_not]
            rw [hall1] at HC
            rw [hall2] at HM
            rw [hall3] at HE
            rw [List.map_id'] at HU
            rw [← hns] at HC HU hfm
            have hheld := held_of hz
            generalize (s.ms.map (·.name) ++ (s.es.take s.es.length).map (·.name)).all pathOk = bA1 at HC hfm
            generalize uniqM (s.ms.map (·.name) ++ (s.es.take s.es.length).map (·.name)) [] = bU1 at HU hfm
            generalize s.ms.all (messageP s) = bM1 at HM hfm hheld
            generalize s.es.all enumP = bE1 at HE hfm
            generalize uniqM (s.mts.map fun m => (m.svc, m.name)) [] = bV1 at HV hfm
            refine a_callZ hT rfl rfl rfl (by kernel_rfl) HC [30] [] [] rfl rfl rfl ⟨rfl, ⟨rfl, trivial⟩, trivial⟩ trivial (by rintro _ _ ⟨rfl, rfl⟩; exact ⟨inferInstance, inferInstance⟩) ?_
            rintro _ _ ⟨rfl, rfl⟩
            refine a_g hT rfl rfl rfl (fun h2 => ?_) (fun h2 => ?_)
            · simp at h2
              refine a_t hT rfl rfl rfl ?_
              refine a_ret hT [] rfl rfl rfl rfl rfl rfl ?_
              exact b_eq (by rw [hfm]; simp_all)
            · simp at h2
              refine a_callZ hT rfl rfl rfl (by kernel_rfl) HU [30] [] [] rfl rfl rfl ⟨rfl, ⟨rfl, trivial⟩, trivial⟩ trivial (by rintro _ _ ⟨rfl, rfl⟩; exact ⟨inferInstance, inferInstance⟩) ?_
              rintro _ _ ⟨rfl, rfl⟩
              refine a_if hT rfl rfl (fun h3 => ?_) (fun h3 => ?_)
              · simp at h3
                refine a_ret hT [] rfl rfl rfl rfl rfl rfl ?_
                exact b_eq (by rw [hfm]; simp_all)
              · simp at h3
                refine a_call hT rfl rfl rfl (by kernel_rfl) HM [] [] rfl rfl ?_
                rintro _ _ ⟨rfl, rfl⟩
                refine a_g hT rfl rfl rfl (fun h4 => ?_) (fun h4 => ?_)
                · simp at h4
                  refine a_t hT rfl rfl rfl ?_
                  refine a_ret hT [] rfl rfl rfl rfl rfl rfl ?_
                  exact b_eq (by rw [hfm]; simp_all)
                · simp at h4
                  have hheld := hheld h4
                  refine a_call hT rfl rfl rfl (by kernel_rfl) HE [] [] rfl rfl ?_
                  rintro _ _ ⟨rfl, rfl⟩
                  refine a_if hT rfl rfl (fun h5 => ?_) (fun h5 => ?_)
                  · simp at h5
                    refine a_ret hT [] rfl rfl rfl rfl rfl rfl ?_
                    exact b_eq (by rw [hfm]; simp_all)
                  · simp at h5
                    rw [h2, h3, h4, h5, Bool.true_and, Bool.true_and, Bool.true_and, Bool.true_and] at hfm
                    clear HC HU HM HE hil i2 hw
                    refine a_loop hT [1, 70, 71, 72] (fun i : Nat => [.d (.p (schD s)), .d (.sl 5 (s.mts.map eT)), .v (kI s.mts.length) 0, .v (kI i) 0]) (fun _ => []) (fun i => mtsP s.ms.length (s.mts.drop i) i = mtsP s.ms.length s.mts 0 ∧ i ≤ s.mts.length) (fun i => s.mts.length - i) 0 [] rfl rfl ⟨rfl, Nat.zero_le _⟩ ⟨rfl, rfl, by rw [← hlt]; rfl, rfl, trivial⟩ rfl trivial ?_
                    rintro i ⟨i1, i2⟩
                    have hw := wN i (by omega)
                    rcases Nat.lt_or_ge i s.mts.length with hil | hil
                    · have hat : (s.mts.map eT)[(i : Int).toNat]? = some (eT s.mts[i]) := by simp [hil]
                      have hmn := hz.mn _ (List.getElem_mem hil)
                      rw [drop_at hil, mtsP_cons] at i1
                      generalize s.mts[i] = x at hat hmn i1
                      obtain ⟨hn1, hn2⟩ := hmn
                      have hbad : mtBad s.ms.length i x = true → formedP s = false := fun h => by
                        rw [hfm, ← i1, if_pos h]; rfl
                      have hgood : ¬ mtBad s.ms.length i x = true → mtsP s.ms.length (s.mts.drop (i + 1)) (i + 1) = mtsP s.ms.length s.mts 0 := fun h => by
                        rw [← i1, if_neg h]
                      rw [mtBad_iff] at hbad hgood
                      clear i1
                      refine a_t hT rfl rfl (decide_eq_true (by show (i : Int) < (s.mts.length : Int); omega)) ?_
                      refine a_ix hT _ rfl rfl rfl rfl rfl rfl (by first | omega | assumption) (by first | assumption | rfl) ?_
                      refine a_new hT hZ 20 rfl rfl rfl rfl fun g => ?_
                      refine a_g hT rfl rfl rfl (fun h6 => ?_) (fun h6 => ?_)
                      · have h6 := bne_iff_ne.1 h6
                        refine a_gt hT rfl rfl rfl rfl ?_
                        refine a_gt hT rfl rfl rfl rfl ?_
                        refine a_gt hT rfl rfl rfl rfl ?_
                        refine a_t hT rfl rfl rfl ?_
                        refine a_ret hT [] rfl rfl rfl rfl rfl rfl ?_
                        exact ⟨by rw [hbad (by first | exact .inl (fun e => h6 (by rw [e]; exact hw.symm)) | exact .inr (.inr (.inr (.inr (by split at h10 <;> omega)))) | exact .inr (.inr (.inr (.inl (by split at h9 <;> omega)))) | exact .inr (.inr (.inl h8)) | exact .inr (.inl h7))]; rfl, rfl⟩
                      · simp at h6
                        refine a_call hT rfl rfl rfl (by kernel_rfl) (Plain_spec (by first | assumption | rfl | decide | omega | (dsimp only; omega))) [] [] rfl rfl ?_
                        rintro _ _ ⟨rfl, rfl⟩
                        refine a_g hT rfl rfl rfl (fun h7 => ?_) (fun h7 => ?_)
                        · simp at h7
                          refine a_gt hT rfl rfl rfl rfl ?_
                          refine a_gt hT rfl rfl rfl rfl ?_
                          refine a_t hT rfl rfl rfl ?_
                          refine a_ret hT [] rfl rfl rfl rfl rfl rfl ?_
                          exact ⟨by rw [hbad (by first | exact .inl (fun e => h6 (by rw [e]; exact hw.symm)) | exact .inr (.inr (.inr (.inr (by split at h10 <;> omega)))) | exact .inr (.inr (.inr (.inl (by split at h9 <;> omega)))) | exact .inr (.inr (.inl h8)) | exact .inr (.inl h7))]; rfl, rfl⟩
                        · simp at h7
                          refine a_call hT rfl rfl rfl (by kernel_rfl) (Plain_spec (by first | assumption | rfl | decide | omega | (dsimp only; omega))) [] [] rfl rfl ?_
                          rintro _ _ ⟨rfl, rfl⟩
                          refine a_g hT rfl rfl rfl (fun h8 => ?_) (fun h8 => ?_)
                          · simp at h8
                            refine a_gt hT rfl rfl rfl rfl ?_
                            refine a_t hT rfl rfl rfl ?_
                            refine a_ret hT [] rfl rfl rfl rfl rfl rfl ?_
                            exact ⟨by rw [hbad (by first | exact .inl (fun e => h6 (by rw [e]; exact hw.symm)) | exact .inr (.inr (.inr (.inr (by split at h10 <;> omega)))) | exact .inr (.inr (.inr (.inl (by split at h9 <;> omega)))) | exact .inr (.inr (.inl h8)) | exact .inr (.inl h7))]; rfl, rfl⟩
                          · simp at h8
                            refine a_g hT rfl rfl rfl (fun h9 => ?_) (fun h9 => ?_)
                            · have h9 := of_decide_eq_true h9
                              refine a_t hT rfl rfl rfl ?_
                              refine a_ret hT [] rfl rfl rfl rfl rfl rfl ?_
                              exact ⟨by rw [hbad (by first | exact .inl (fun e => h6 (by rw [e]; exact hw.symm)) | exact .inr (.inr (.inr (.inr (by split at h10 <;> omega)))) | exact .inr (.inr (.inr (.inl (by split at h9 <;> omega)))) | exact .inr (.inr (.inl h8)) | exact .inr (.inl h7))]; rfl, rfl⟩
                            · have h9 := of_decide_eq_false h9
                              refine a_if hT rfl rfl (fun h10 => ?_) (fun h10 => ?_)
                              · have h10 := of_decide_eq_true h10
                                refine a_ret hT [] rfl rfl rfl rfl rfl rfl ?_
                                exact ⟨by rw [hbad (by first | exact .inl (fun e => h6 (by rw [e]; exact hw.symm)) | exact .inr (.inr (.inr (.inr (by split at h10 <;> omega)))) | exact .inr (.inr (.inr (.inl (by split at h9 <;> omega)))) | exact .inr (.inr (.inl h8)) | exact .inr (.inl h7))]; rfl, rfl⟩
                              · have h10 := of_decide_eq_false h10
                                exact a_next hT (i + 1) [] rfl rfl ⟨⟨hgood (by intro hb; rcases hb with hb | hb | hb | hb | hb <;> first | exact hb (h6.trans hw) | (simp_all; done) | (split at h9 <;> omega) | (split at h10 <;> omega)), by omega⟩, by omega⟩ ⟨rfl, rfl, rfl, by show Value.int .i64 _ = Value.int .i64 _; rw [hw], trivial⟩ rfl trivial
                    · have hnil : s.mts.drop i = [] := List.drop_eq_nil_of_le hil
                      rw [hnil] at i1
                      rw [show mtsP s.ms.length [] i = true from rfl] at i1
                      rw [← i1, Bool.true_and] at hfm
                      refine a_f hT rfl rfl (decide_eq_false (by show ¬ (i : Int) < (s.mts.length : Int); omega)) ?_
                      refine a_call hT rfl rfl rfl (by kernel_rfl) HV [] [] rfl rfl ?_
                      rintro _ _ ⟨rfl, rfl⟩
                      clear i1 i2 hnil hw hil HV
                      refine a_if hT rfl rfl (fun h6 => ?_) (fun h6 => ?_)
                      · simp at h6
                        refine a_ret hT [] rfl rfl rfl rfl rfl rfl ?_
                        exact b_eq (by rw [hfm]; simp_all)
                      · simp at h6
                        rw [h6, Bool.true_and] at hfm
                        refine a_loop hT [1, 120, 121] (fun i : Nat => [.d (.p (schD s)), .v (kI s.ms.length) 0, .v (kI i) 0]) (fun _ => []) (fun i => noNeeds s.ms ((List.range s.ms.length).drop i) = formedP s ∧ i ≤ s.ms.length) (fun i => s.ms.length - i) 0 [] rfl rfl ⟨hfm.symm, Nat.zero_le _⟩ ⟨rfl, by rw [← hlm]; rfl, rfl, trivial⟩ rfl trivial ?_
                        rintro i ⟨i1, i2⟩
                        have hw := wN i (by omega)
                        rcases Nat.lt_or_ge i s.ms.length with hil | hil
                        · have hir : i < (List.range s.ms.length).length := by simpa using hil
                          rw [drop_at hir, List.getElem_range] at i1
                          unfold noNeeds at i1
                          rw [List.all_cons] at i1
                          refine a_t hT rfl rfl (decide_eq_true (by show (i : Int) < (s.ms.length : Int); omega)) ?_
                          refine a_call hT rfl rfl rfl (by kernel_rfl) (needs_spec (h := 0) hheld hms hil) [] [] rfl rfl ?_
                          rintro _ _ ⟨rfl, rfl⟩
                          generalize needsP s.ms i = bn at i1
                          cases bn with
                          | true =>
                            refine a_t hT rfl rfl rfl ?_
                            refine a_ret hT [] rfl rfl rfl rfl rfl rfl ?_
                            exact ⟨by rw [← i1]; rfl, rfl⟩
                          | false =>
                            refine a_f hT rfl rfl rfl ?_
                            exact a_next hT (i + 1) [] rfl rfl ⟨⟨by rw [← i1]; simp [noNeeds], by omega⟩, by omega⟩ ⟨rfl, rfl, by show Value.int .i64 _ = Value.int .i64 _; rw [hw], trivial⟩ rfl trivial
                        · have hnil : (List.range s.ms.length).drop i = [] := List.drop_eq_nil_of_le (by simpa using hil)
                          rw [hnil] at i1
                          rw [← i1]
                          refine a_f hT rfl rfl (decide_eq_false (by show ¬ (i : Int) < (s.ms.length : Int); omega)) ?_
                          refine a_ret hT [] rfl rfl rfl rfl rfl rfl ?_
                          exact ⟨rfl, rfl⟩
end Go.Proofs.YtjcolfogmmjaoaaGreatDoor
end

section
/- Layer 9: a message's field is found by its number. -/
set_option linter.unusedVariables false
set_option linter.unusedSimpArgs false
set_option maxRecDepth 100000
set_option maxHeartbeats 1000000
namespace Go.Proofs.YtjcolfogmmjaoaaGreatDoor
open V A
/-- Fields whose numbers rise. -/
structure FsOk (l : List FDP) : Prop where
  len : l.length ≤ 1000
  rng : ∀ f ∈ l, 1 ≤ f.num ∧ f.num ≤ 536870911
  ord : ∀ (i j : Nat) (f g : FDP), i < j → l[i]? = some f → l[j]? = some g → f.num < g.num
def I64 (n : Int) : Prop := -9223372036854775808 ≤ n ∧ n ≤ 9223372036854775807
def findF (l : List FDP) (num : Int) : Option FDP := l.find? fun f => decide (f.num = num)
theorem wrap64 (n : Int) : ∃ k : Int, IntKind.i64.wrap n = n + 18446744073709551616 * k ∧ -9223372036854775808 ≤ IntKind.i64.wrap n ∧ IntKind.i64.wrap n ≤ 9223372036854775807 := by
  have e : IntKind.i64.wrap n = if n % 18446744073709551616 ≥ 9223372036854775808 then n % 18446744073709551616 - 18446744073709551616 else n % 18446744073709551616 := by
    unfold IntKind.wrap; simp [IntKind.bits, IntKind.signed]
  rw [e]
  split
  · exact ⟨-(n / 18446744073709551616) - 1, by omega, by omega, by omega⟩
  · exact ⟨-(n / 18446744073709551616), by omega, by omega, by omega⟩
theorem cmp_eq {a n : Int} (ha : 1 ≤ a ∧ a ≤ 536870911) (hn : I64 n) : IntKind.i64.wrap (a - n) = 0 ↔ a = n := by
  obtain ⟨k, h1, h2, h3⟩ := wrap64 (a - n)
  unfold I64 at hn
  omega
theorem cmp_lt {a n : Int} (ha : 1 ≤ a ∧ a ≤ 536870911) (hn : 1 ≤ n ∧ n ≤ 536870911) : IntKind.i64.wrap (a - n) < 0 ↔ a < n := by
  obtain ⟨k, h1, h2, h3⟩ := wrap64 (a - n)
  omega
theorem Find1_spec {f : FDP} {num : Int} {h : Nat} : FSpec Tryz.prog 132 [.agg ((eF f).map nd), .v (kI num) h] [] fun a cs => a = .v (kI (IntKind.i64.wrap (f.num - num))) 0 ∧ cs = [] := by
  refine a_enter hT [.agg ((eF f).map nd), .v (kI num) 0] [] Tryz.func132 rfl rfl rfl ⟨Fit.refl _, rfl, trivial⟩ fun c' => ?_
  refine a_box hT 20 rfl rfl rfl rfl fun g => ?_
  refine a_ret hT [] rfl rfl rfl rfl rfl rfl ?_
  exact ⟨rfl, rfl⟩
theorem wrapI {n : Int} (h : 0 ≤ n ∧ n < 9223372036854775808) : IntKind.i64.wrap n = n := by
  obtain ⟨k, h1, h2, h3⟩ := wrap64 n
  omega
theorem half {i j : Nat} (h : i + j < 4000) : Int.fdiv (IntKind.u64.wrap (IntKind.i64.wrap ((i : Int) + j))) (2 ^ min (Int.toNat 1) (IntKind.bits IntKind.u64)) = (((i + j) / 2 : Nat) : Int) := by
  rw [wrapI (n := (i : Int) + j) (by omega), wrapU (by omega) (by omega), show (2 : Int) ^ min (Int.toNat 1) (IntKind.bits IntKind.u64) = 2 by decide, Int.fdiv_eq_ediv_of_nonneg _ (by omega)]
  omega
theorem BS_spec {l : List FDP} {num : Int} (hl : FsOk l) (hn : I64 num) : FSpec Tryz.prog 131 [.d (.sl 5 (l.map eF)), .v (kI num) 0, .fn 132 []] [] fun a cs => cs = [] ∧ ((findF l num = none ∧ ∃ i : Int, a = .tup [.v (kI i) 0, bA false]) ∨ ∃ (i : Nat) (f : FDP), a = .tup [.v (kI i) 0, bA true] ∧ l[i]? = some f ∧ findF l num = some f) := by
  refine a_enter hT [.d (.sl 5 (l.map eF)), .v (kI num) 0, .fn 132 []] [] Tryz.func131 rfl rfl rfl ⟨rfl, rfl, Fit.refl _, trivial⟩ fun c' => ?_
  have hlen : (l.map eF).length = l.length := List.length_map _
  have hll := hl.len
  refine a_loop hT [0, 1, 2, 8, 9, 10] (fun x : Nat × Nat => [.d (.sl 5 (l.map eF)), .v (kI num) 0, .fn 132 [], .v (kI l.length) 0, .v (kI x.1) 0, .v (kI x.2) 0]) (fun _ => []) (fun x => x.1 ≤ x.2 ∧ x.2 ≤ l.length ∧ ∀ p f, l[p]? = some f → f.num = num → x.1 ≤ p ∧ p ≤ x.2) (fun x => x.2 - x.1) (0, l.length) [] rfl rfl ⟨Nat.zero_le _, Nat.le_refl _, fun p f hp _ => ⟨Nat.zero_le _, Nat.le_of_lt (List.getElem?_eq_some_iff.1 hp).1⟩⟩ ⟨rfl, rfl, Fit.refl _, by rw [← hlen]; rfl, rfl, by rw [← hlen]; rfl, trivial⟩ rfl trivial ?_
  rintro ⟨i, j⟩ ⟨i1, i2, i3⟩
  dsimp only at i1 i2 i3
  rcases Nat.lt_or_ge i j with hij | hij
  · refine a_t hT rfl rfl (decide_eq_true (by show (i : Int) < (j : Int); omega)) ?_
    refine a_bin hT (.int .u64 (((i + j) / 2 : Nat) : Int)) rfl rfl rfl (by decide) rfl rfl (fun w => by rw [bin_shr (by omega) w, ← half (i := i) (j := j) (by omega)]) ?_
    have hk : (i + j) / 2 < l.length := by omega
    have hwk : IntKind.i64.wrap (((i + j) / 2 : Nat) : Int) = (((i + j) / 2 : Nat) : Int) := wrapI (by omega)
    have hat : (l.map eF)[(IntKind.i64.wrap (((i + j) / 2 : Nat) : Int)).toNat]? = some (eF l[(i + j) / 2]) := by rw [hwk, Int.toNat_natCast, List.getElem?_map, List.getElem?_eq_getElem hk]; rfl
    have hat2 : l[(i + j) / 2]? = some l[(i + j) / 2] := List.getElem?_eq_getElem hk
    have hr := hl.rng _ (List.getElem_mem hk)
    generalize l[(i + j) / 2] = x at hat hat2 hr
    refine a_ix hT _ rfl rfl rfl rfl rfl rfl (by rw [hwk]; omega) hat ?_
    refine a_callv hT rfl rfl rfl rfl (by kernel_rfl) Find1_spec [] [] rfl rfl ?_
    rintro _ _ ⟨rfl, rfl⟩
    have hcmp : ∀ p f, l[p]? = some f → f.num = num → (IntKind.i64.wrap (x.num - num) < 0 ↔ (i + j) / 2 < p) := by
      intro p f hp hf
      have hfr := hl.rng f (List.mem_of_getElem? hp)
      rw [cmp_lt hr (by rw [← hf]; exact hfr)]
      rcases Nat.lt_trichotomy ((i + j) / 2) p with h | h | h
      · have := hl.ord _ _ _ _ h hat2 hp
        omega
      · subst h
        rw [hat2] at hp
        cases hp
        omega
      · have := hl.ord _ _ _ _ h hp hat2
        omega
    refine a_if hT rfl rfl (fun h1 => ?_) (fun h1 => ?_)
    · have h1 : IntKind.i64.wrap (x.num - num) < 0 := of_decide_eq_true h1
      exact a_next hT ((i + j) / 2 + 1, j) [] rfl rfl ⟨⟨by dsimp only; omega, by dsimp only; omega, fun p f hp hf => by have := i3 p f hp hf; have := (hcmp p f hp hf).1 h1; dsimp only; omega⟩, by dsimp only; omega⟩ ⟨rfl, rfl, Fit.refl _, rfl, by show Value.int .i64 _ = Value.int .i64 _; rw [hwk, wN _ (by omega)], rfl, trivial⟩ rfl trivial
    · have h1 : ¬ IntKind.i64.wrap (x.num - num) < 0 := of_decide_eq_false h1
      exact a_next hT (i, (i + j) / 2) [] rfl rfl ⟨⟨by dsimp only; omega, by dsimp only; omega, fun p f hp hf => by have := i3 p f hp hf; have := mt (hcmp p f hp hf).2 h1; dsimp only; omega⟩, by dsimp only; omega⟩ ⟨rfl, rfl, Fit.refl _, rfl, rfl, by show Value.int .i64 _ = Value.int .i64 _; rw [hwk], trivial⟩ rfl trivial
  · refine a_f hT rfl rfl (decide_eq_false (by show ¬ (i : Int) < (j : Int); omega)) ?_
    have hij : i = j := by omega
    subst hij
    have hnone : (∀ x, l[i]? = some x → x.num ≠ num) → findF l num = none := by
      intro h
      unfold findF
      rw [List.find?_eq_none]
      intro f hf hc
      obtain ⟨p, hp⟩ := List.getElem?_of_mem hf
      have hc : f.num = num := of_decide_eq_true hc
      have := i3 p f hp hc
      have : p = i := by omega
      subst this
      exact h f hp hc
    refine a_g hT rfl rfl rfl (fun h => ?_) (fun h => ?_)
    · have h := of_decide_eq_true h
      have hil : i < l.length := by
        have : (i : Int) < (l.length : Int) := h
        omega
      have hat : (l.map eF)[(i : Int).toNat]? = some (eF l[i]) := by simp [hil]
      have hat2 : l[i]? = some l[i] := List.getElem?_eq_getElem hil
      have hr := hl.rng _ (List.getElem_mem hil)
      generalize l[i] = x at hat hat2 hr
      have hc := cmp_eq hr hn
      refine a_ix hT _ rfl rfl rfl rfl rfl rfl (by omega) hat ?_
      refine a_callv hT rfl rfl rfl rfl (by kernel_rfl) Find1_spec [] [] rfl rfl ?_
      rintro _ _ ⟨rfl, rfl⟩
      refine a_ret hT [] rfl rfl rfl rfl rfl rfl ?_
      refine ⟨rfl, ?_⟩
      by_cases hx : x.num = num
      · refine .inr ⟨i, x, ?_, hat2, ?_⟩
        · show AV.tup [_, AV.v (.bool (IntKind.i64.wrap (x.num - num) == 0)) 0] = _
          rw [hc.2 hx]
          rfl
        · unfold findF
          refine List.find?_eq_some_iff_getElem.2 ⟨decide_eq_true hx, i, hil, (List.getElem?_eq_some_iff.1 hat2).2, fun q hq => ?_⟩
          have := hl.ord q i l[q] x hq (List.getElem?_eq_getElem _) hat2
          simp
          omega
      · refine .inl ⟨hnone fun y hy => by rw [hat2] at hy; cases hy; exact hx, i, ?_⟩
        show AV.tup [_, AV.v (.bool (IntKind.i64.wrap (x.num - num) == 0)) 0] = _
        rw [show (IntKind.i64.wrap (x.num - num) == 0) = false from by rw [beq_eq_false_iff_ne]; exact fun e => hx (hc.1 e)]
        rfl
    · have h := of_decide_eq_false h
      have hil : ¬ i < l.length := by
        have : ¬ (i : Int) < (l.length : Int) := h
        omega
      refine a_ret hT [] rfl rfl rfl rfl rfl rfl ?_
      exact ⟨rfl, .inl ⟨hnone fun y hy => absurd (List.getElem?_eq_some_iff.1 hy).1 hil, i, rfl⟩⟩
end Go.Proofs.YtjcolfogmmjaoaaGreatDoor
end

section
/- Layer 9: Find; what a schema that is formed is like. -/
set_option linter.unusedVariables false
set_option linter.unusedSimpArgs false
set_option maxRecDepth 100000
set_option maxHeartbeats 1000000
namespace Go.Proofs.YtjcolfogmmjaoaaGreatDoor
open V A
def zeroF : FDP := ⟨0, ByteArray.empty, 0, false, 0⟩
theorem Find_spec {d : MDP} {num : Int} (hl : FsOk d.fs) (hn : I64 num) : FSpec Tryz.prog 86 [.agg ((eM d).map nd), .v (kI num) 0] [] fun a cs => a = .tup [.agg ((eF ((findF d.fs num).getD zeroF)).map nd), bA (findF d.fs num).isSome] ∧ cs = [] := by
  refine a_enter hT [.agg ((eM d).map nd), .v (kI num) 0] [] Tryz.func86 rfl rfl rfl ⟨Fit.refl _, rfl, trivial⟩ fun c' => ?_
  refine a_box hT 20 rfl rfl rfl rfl fun g => ?_
  refine a_new hT hZ 21 rfl rfl rfl rfl fun g1 => ?_
  refine a_call hT rfl rfl rfl (by kernel_rfl) (BS_spec hl hn) [] [] rfl rfl ?_
  rintro _ _ ⟨rfl, ⟨hf, i, rfl⟩ | ⟨i, f, rfl, hat, hf⟩⟩
  · rw [hf]
    refine a_t hT rfl rfl rfl ?_
    refine a_build hT hZ _ rfl rfl rfl rfl rfl rfl ?_
    refine a_ret hT [] rfl rfl rfl rfl rfl rfl ?_
    exact ⟨rfl, rfl⟩
  · rw [hf]
    have hat : (d.fs.map eF)[(i : Int).toNat]? = some (eF f) := by rw [Int.toNat_natCast, List.getElem?_map, hat]; rfl
    refine a_f hT rfl rfl rfl ?_
    refine a_ix hT _ rfl rfl rfl rfl rfl rfl (by omega) hat ?_
    refine a_ret hT [] rfl rfl rfl rfl rfl rfl ?_
    exact ⟨rfl, rfl⟩
/-- A schema that is formed. -/
structure SchOk (s : SchP) : Prop where
  ms : s.ms.length ≤ 64
  fs : ∀ m ∈ s.ms, FsOk m.fs
  len : ∀ m ∈ s.ms, m.fs.length ≤ 32
  ty : ∀ m ∈ s.ms, ∀ f ∈ m.fs, f.kind = 10 → 0 ≤ f.ty ∧ f.ty < s.ms.length
  kd : ∀ m ∈ s.ms, ∀ f ∈ m.fs, 1 ≤ f.kind ∧ f.kind ≤ 10
theorem fieldNumP_rng {n : Int} (h : fieldNumP n = true) : 1 ≤ n ∧ n ≤ 536870911 := by
  unfold fieldNumP at h
  have := of_decide_eq_true h
  omega
theorem fieldsP_facts {ne nm : Int} : ∀ {l : List FDP} {last : Int}, fieldsP ne nm l last = true → ∀ f ∈ l, last < f.num ∧ 1 ≤ f.num ∧ f.num ≤ 536870911 ∧ 1 ≤ f.kind ∧ f.kind ≤ 10
  | [], last, h, f, hf => by simp at hf
  | x :: l, last, h, f, hf => by
    rw [fieldsP_cons] at h
    split at h
    · cases h
    · rename_i hb
      rw [badF_iff] at hb
      have h1 : fieldNumP x.num = true := by
        cases h1 : fieldNumP x.num
        · exact absurd (.inl h1) hb
        · rfl
      have h2 := fieldNumP_rng h1
      rcases List.mem_cons.1 hf with rfl | hf
      · omega
      · have := fieldsP_facts h f hf
        omega
theorem fieldsP_ord {ne nm : Int} : ∀ {l : List FDP} {last : Int}, fieldsP ne nm l last = true → ∀ (i j : Nat) (f g : FDP), i < j → l[i]? = some f → l[j]? = some g → f.num < g.num
  | [], last, h, i, j, f, g, hij, hf, hg => by simp at hf
  | x :: l, last, h, i, j, f, g, hij, hf, hg => by
    rw [fieldsP_cons] at h
    split at h
    · cases h
    · cases j with
      | zero => omega
      | succ j =>
        cases i with
        | zero =>
          simp at hf
          subst hf
          exact (fieldsP_facts h g (List.mem_of_getElem? (by simpa using hg))).1
        | succ i => exact fieldsP_ord h i j f g (by omega) (by simpa using hf) (by simpa using hg)
theorem schOk {s : SchP} (h : formedP s = true) : SchOk s := by
  unfold formedP at h
  simp only [Bool.and_eq_true] at h
  obtain ⟨h1, _, _, hm, _⟩ := h
  have h1 := of_decide_eq_true h1
  have hmm : ∀ m ∈ s.ms, fieldsP s.es.length s.ms.length m.fs 0 = true ∧ m.fs.length ≤ 32 := fun m hm' => by
    have := List.all_eq_true.1 hm m hm'
    unfold messageP at this
    simp only [Bool.and_eq_true] at this
    exact ⟨this.1, of_decide_eq_true this.2.1⟩
  exact ⟨h1.1, fun m hm' => ⟨by have := (hmm m hm').2; omega, fun f hf => by have := fieldsP_facts (hmm m hm').1 f hf; omega, fieldsP_ord (hmm m hm').1⟩, fun m hm' => (hmm m hm').2, fun m hm' => fieldsP_ty (hmm m hm').1, fun m hm' f hf => by have := fieldsP_facts (hmm m hm').1 f hf; omega⟩
end Go.Proofs.YtjcolfogmmjaoaaGreatDoor
end
