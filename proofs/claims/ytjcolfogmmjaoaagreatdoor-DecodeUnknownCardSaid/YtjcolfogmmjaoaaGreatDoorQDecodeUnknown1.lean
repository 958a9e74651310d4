import Derived.Test.YtjcolfogmmjaoaaGreatDoorQDecodeUnknown0
import Derived.Laws.Cells
import Derived.Laws.Rows
import Derived.Laws.World
import Derived.Deep.LoopGhost
section
set_option linter.unusedVariables false
set_option linter.unusedSimpArgs false
namespace Go.Proofs.YtjcolfogmmjaoaaGreatDoor.V
def en : Nat → List Value → Env
  | _, [] => []
  | i, v :: vs => (i, v) :: en (i + 1) vs
theorem get_en (vs : List Value) : ∀ (i t : Nat), get (en i vs) t = if t < i then undef else vs.getD (t - i) undef := by
  induction vs with
  | nil => intro i t; simp [en, get, getK]
  | cons v vs ih =>
    intro i t
    unfold en
    rw [get_cons, ih]
    by_cases h : t = i
    · subst h; simp
    · by_cases h2 : t < i
      · simp [h, h2, show t < i + 1 by omega]
      · obtain ⟨k, rfl⟩ : ∃ k, t = i + 1 + k := ⟨t - i - 1, by omega⟩
        simp [show ¬ (i + 1 + k < i + 1) by omega, show ¬ (i + 1 + k < i) by omega, show i + 1 + k - i = k + 1 by omega, show i + 1 + k ≠ i by omega]
section
variable {P : Program} {L : List TD} {n : Nat} {Q : Exit → Act → World → Prop}
theorem enter (hT : TOk P L) {k : FuncId} {fn : Func} {c : Code} {w : World} {R : Ending → World → Prop} (args : List Value) (hf : P.funcs[k]? = some fn) (hb : fn.body = some c) (hn : fn.ntmps = n) (ha : Nat.ble args.length n = true)
    (h : DenS P n (bodyPost P fn R) (.code [] c) (en 0 args) w) : Calls P k args.toArray w R := by
  refine calls_of_wp hf hb ?_
  have ha' : args.length ≤ n := Nat.le_of_ble_eq_true ha
  have : ({ tmps := args.toArray ++ Array.replicate (fn.ntmps - args.toArray.size) undef, defers := [] } : Act) = act n (en 0 args) := by
    unfold act
    congr 1
    apply Array.ext_getElem?
    intro i
    rw [Array.getElem?_ofFn, hn]
    by_cases h : i < n
    · rw [dif_pos h, get_en]
      rw [Array.getElem?_append]
      by_cases h2 : i < args.length
      · simp [h2]
      · simp [h2, show i - args.length < n - args.length by omega]
    · rw [dif_neg h]
      apply Array.getElem?_eq_none
      simp
      omega
  rw [this]
  exact h.out
abbrev fuel : Nat := 3000
theorem go (hT : TOk P L) {s : MS} {f : Env} {w : World} {o : Out} (h : mach L n fuel s f = o) (hd : Den P n Q o w) : DenS P n Q s f w := ⟨mach_sound hT fuel s f w (h ▸ hd)⟩
variable {s : MS} {f f' : Env} {w : World} {κ : List Kt} {all : Array Oper} {dec : List Nat} {o : Oper} {al : Bool} {rest : List (Oper × Bool)} {S : World → Prop} {ex : Ex}
theorem act_same {f : Env} {d : Nat} {v : Value} (h : get f d = v) : act n ((d, v) :: f) = act n f := by
  unfold act
  congr 1
  apply Array.ext_getElem?
  intro i
  rw [Array.getElem?_ofFn, Array.getElem?_ofFn]
  split
  · rename_i hi
    show some (get ((d, v) :: f) i) = some (get f i)
    rw [get_cons]
    split
    · rename_i e; subst e; rw [h]
    · rfl
  · rfl
def oneT : TD → Bool | .ptr | .bool | .map | .fn | .ifc | .int _ | .str | .sl _ _ => true | _ => false
theorem agg_of_one {P : Program} {t : TypeId} (h : oneT (tdOf P t) = true) : ∃ d, P.underlying t = some d ∧ aggOf P t = false ∧ P.cellsOf t = 1 := by
  unfold tdOf at h
  split at h <;> (try (repeat' split at h)) <;> first | (simp [oneT] at h; done) | skip
  all_goals
    rename_i hu hi hs
    refine ⟨_, hu, by simp [aggOf, hu], ?_⟩
    simp [Program.cellsOf, hi] at hs ⊢
    first | exact hs | exact hs.2
theorem one_tl {P : Program} {L : List TD} (hT : TOk P L) {t : TypeId} (h : oneT (tl L t) = true) : ∃ d, P.underlying t = some d ∧ aggOf P t = false ∧ P.cellsOf t = 1 := by
  rcases hT t with e | e
  · rw [e] at h; cases h
  · rw [e] at h; exact agg_of_one h
theorem run_load1 (hT : TOk P L) {t : TypeId} (ht : oneT (tl L t) = true) {a : Addr} {v : Value} {w : World} (hc : w.cell? a = some v) : (loadVar t a).run P w = .ok v w := by
  obtain ⟨d, hd, hag, _⟩ := one_tl hT ht
  simp [loadVar, run_isAgg (by simp [hd] : (P.underlying t).isSome = true), hag, hc]
theorem exec_load {t : TypeId} {x : Operand} (ho : o.op = .load t x) {a : Addr} (hx : ev n f x = .pointer (some a)) {v : Value} {w' : World} (hr : (loadVar t a).run P w = .ok v w') : (execOp (ev n f) o).run P w = .ok (.value v) w' := by
  simp [execOp, ho, Instr.loadAt, Instr.sureAddr, hx, hr]
theorem agg_of_agg {P : Program} {t : TypeId} {m : Nat} {fs : List (Nat × Nat × Bool)} (h : tdOf P t = .agg m fs) : ∃ d, P.underlying t = some d ∧ aggOf P t = true ∧ P.cellsOf t = m := by
  obtain ⟨Fs, i, hu, hi, hm, _⟩ := tdOf_agg h
  exact ⟨_, hu, by simp [aggOf, hu], by simp [Program.cellsOf, hi, hm]⟩
theorem agg_tl {P : Program} {L : List TD} (hT : TOk P L) {t : TypeId} {m : Nat} {fs : List (Nat × Nat × Bool)} (h : tl L t = .agg m fs) : ∃ d, P.underlying t = some d ∧ aggOf P t = true ∧ P.cellsOf t = m := by
  rcases hT t with e | e
  · rw [e] at h; cases h
  · rw [e] at h; exact agg_of_agg h
def Cells (w : World) (a : Addr) (cs : List Value) : Prop := ∀ (j : Nat) (v : Value), cs[j]? = some v → w.cell? (a.add j) = some v
theorem run_loada (hT : TOk P L) {t : TypeId} {fs : List (Nat × Nat × Bool)} {cs : List Value} (ht : tl L t = .agg cs.length fs) {a : Addr} {w : World} (hc : Cells w a cs) :
    (loadVar t a).run P w = .ok (.agg cs.toArray) w := by
  obtain ⟨d, hd, hag, hm⟩ := agg_tl hT ht
  have hi : (P.info? t).isSome = true := by
    cases hi : P.info? t with
    | some i => rfl
    | none => simp [Program.underlying, hi] at hd
  have := run_loadCells_list (P := P) (w := w) a cs hc
  simp [loadVar, run_isAgg (by simp [hd] : (P.underlying t).isSome = true), hag, run_sizeOf' hi, hm, this]
def MayW (w : World) (a : Addr) (m : Nat) : Prop := ∀ j, j < m → (w.cell? (a.add j)).isSome = true ∧ w.frozen? (a.add j) = false
def setAll (w : World) (a : Addr) : Nat → List Value → World
  | _, [] => w
  | i, v :: vs => setAll (w.setCell (a.add i) v) a (i + 1) vs
theorem run_storeCells (P : Program) (a : Addr) : ∀ (vs : List Value) (i : Nat) (w : World), (∀ u ∈ vs, u.oneCell' = true) → (∀ j, i ≤ j → j < i + vs.length → (w.cell? (a.add j)).isSome = true ∧ w.frozen? (a.add j) = false) →
    (storeCells a vs i).run P w = .ok () (setAll w a i vs)
  | [], i, w, _, _ => rfl
  | v :: vs, i, w, h1, hw => by
    obtain ⟨hc, hf⟩ := hw i (Nat.le_refl _) (by simp)
    obtain ⟨u, hu⟩ := Option.isSome_iff_exists.1 hc
    unfold storeCells setAll
    simp only [Sem.run_bind, run_store P w (a.add i) v .plain (h1 v (by simp)), hu, hf, Bool.false_eq_true, if_false, Result.andThen_ok]
    refine run_storeCells P a vs (i + 1) _ (fun u hu => h1 u (by simp [hu])) fun j hj hl => ?_
    obtain ⟨hc', hf'⟩ := hw j (by omega) (by simp at hl ⊢; omega)
    refine ⟨?_, by simpa using hf'⟩
    by_cases he : a.add i = a.add j
    · rw [← he, World.cell?_setCell_same _ _ _ hu]; rfl
    · rw [World.cell?_setCell_other _ _ _ _ he]; exact hc'
theorem exec_store (hT : TOk P L) {t : TypeId} {x y : Operand} (ho : o.op = .store t x y) {a : Addr} (hx : ev n f x = .pointer (some a)) {vs : List Value} (hy : (ev n f y).cells.toList = vs) (hsz : P.cellsOf t = vs.length) (hi : (P.info? t).isSome = true)
    (h1 : ∀ u ∈ vs, u.oneCell' = true) (hw : MayW w a vs.length) : (execOp (ev n f) o).run P w = .ok .skip (setAll w a 0 vs) := by
  have hr := run_storeCells P a vs 0 w h1 (fun j _ hj => hw j (by omega))
  have hz : (ev n f y).cells.size = P.cellsOf t := by rw [hsz, ← hy]; simp
  simp [execOp, ho, Instr.storeAt, Instr.sureAddr, hx, storeVar, run_sizeOf' hi, hz, hy, hr]
theorem some_of_one {P : Program} {t : TypeId} {d : TypeDesc} (h : P.underlying t = some d) : (P.info? t).isSome = true := by
  cases hi : P.info? t with
  | some i => rfl
  | none => simp [Program.underlying, hi] at h
theorem cells_one {v : Value} (h : v.oneCell' = true) : v.cells.toList = [v] := by cases v <;> first | rfl | simp [Value.oneCell'] at h
def callOk (P : Program) (k : FuncId) : Bool := match P.funcs[k]? with | some fn => !(fn.name == "runtime.NumGoroutine") && fn.body.isSome | none => false
theorem run_callFunc {k : FuncId} (hb : callOk P k = true) (args : Array Value) (w : World) : (callFunc k args).run P w = .ok (.enter k args) w := by
  unfold callOk at hb
  split at hb
  · rename_i fn hf
    simp at hb
    have hn : fn.body.isNone = false := by cases hx : fn.body <;> simp_all
    unfold callFunc
    simp only [Sem.run_bind, run_program, Result.andThen_ok, hf]
    rw [if_neg (by simpa using hb.1), hn]
    rfl
  · cases hb
def resV (P : Program) (n : Nat) (f : Env) (w : World) : ResultVar → Value → Prop
  | .tmp t, v => ev n f (.tmp t) = v
  | .cell a t, v => ∃ p, ev n f (.tmp a) = .pointer (some p) ∧ (loadVar t p).run P w = .ok v w
def resL (P : Program) (n : Nat) (f : Env) (w : World) : List ResultVar → List Value → Prop
  | [], [] => True
  | r :: rs, v :: vs => resV P n f w r v ∧ resL P n f w rs vs
  | _, _ => False
theorem act_get (n : Nat) (f : Env) (t : Nat) : (act n f).tmps.getD t undef = ev n f (.tmp t) := act_eval n f (.tmp t)
theorem run_mapM_all {α : Type} {P : Program} {w : World} (g : α → Sem Value) (Rv : α → Value → Prop) (hg : ∀ r v, Rv r v → (g r).run P w = .ok v w) : ∀ (rs : List α) (vs : List Value), (∀ (j : Nat) r, rs[j]? = some r → ∃ v, vs[j]? = some v ∧ Rv r v) → vs.length = rs.length → (rs.mapM g).run P w = .ok vs w
  | [], [], _, _ => by simp
  | [], _ :: _, _, h => by simp at h
  | _ :: _, [], _, h => by simp at h
  | r :: rs, v :: vs, h, hl => by
    obtain ⟨v', hv, hr⟩ := h 0 r rfl
    simp at hv
    subst hv
    have ih := run_mapM_all g Rv hg rs vs (fun j r hj => h (j + 1) r hj) (by simpa using hl)
    simp [List.mapM_cons, hg r v hr, ih]
theorem resL_len {P : Program} {n : Nat} {f : Env} {w : World} : ∀ (rs : List ResultVar) (vs : List Value), resL P n f w rs vs → vs.length = rs.length ∧ ∀ (j : Nat) r, rs[j]? = some r → ∃ v, vs[j]? = some v ∧ resV P n f w r v
  | [], [], _ => ⟨rfl, by simp⟩
  | [], _ :: _, h => h.elim
  | _ :: _, [], h => h.elim
  | r :: rs, v :: vs, h => by
    obtain ⟨h1, h2⟩ := resL_len rs vs h.2
    refine ⟨by simp [h1], fun j q hj => ?_⟩
    cases j with
    | zero => simp at hj; subst hj; exact ⟨v, rfl, h.1⟩
    | succ j => exact h2 j q hj
theorem run_resL {P : Program} {n : Nat} {f : Env} {w : World} (rs : List ResultVar) (vs : List Value) (h : resL P n f w rs vs) (g : ResultVar → Sem Value) (hg1 : ∀ t, g (.tmp t) = pure ((act n f).tmps.getD t undef)) (hg2 : ∀ a t, g (.cell a t) = (do loadVar t (← asAddr ((act n f).tmps.getD a undef)))) :
    (rs.mapM g).run P w = .ok vs w := by
  refine run_mapM_all g (resV P n f w) ?_ rs vs (resL_len rs vs h).2 (resL_len rs vs h).1
  intro r v hr
  cases r with
  | tmp t => rw [hg1, act_get]; unfold resV at hr; rw [hr]; rfl
  | cell a t =>
    obtain ⟨p, hp, hl⟩ := hr
    rw [hg2, act_get, hp]
    simp [asAddr, hl]
def tup (vs : List Value) : Value := match vs with | [v] => v | vs => .tuple vs.toArray
theorem run_results {P : Program} {n : Nat} {f : Env} {w : World} {fn : Func} {rs : List ResultVar} (hr : fn.results = rs.toArray) {vs : List Value} (h : resL P n f w rs vs) : (results fn (act n f).tmps).run P w = .ok (tup vs) w := by
  unfold results
  rw [hr]
  simp only [List.mapM_toArray, Sem.run_bind, Sem.run_map]
  rw [run_resL rs vs h _ (fun _ => rfl) (fun _ _ => rfl)]
  simp only [Result.andThen_ok, Sem.run_pure]
  congr 1
  match vs with
  | [] => rfl
  | [v] => rfl
  | v :: u :: vs => simp [tup]
def AllAlt {α : Type} (p : α → Prop) : List α → Prop
  | [] => True
  | x :: l => p x ∧ AllAlt p l
theorem AllAlt.get {α : Type} {p : α → Prop} : ∀ {l : List α}, AllAlt p l → ∀ x ∈ l, p x
  | [], _, x, h => by simp at h
  | y :: l, h, x, hx => by rcases List.mem_cons.1 hx with rfl | hx; exact h.1; exact h.2.get x hx
end
end Go.Proofs.YtjcolfogmmjaoaaGreatDoor.V
end
