import Derived.Test.YtjcolfogmmjaoaaGreatDoorQEncodeNormal0
import Derived.Laws.Cells
import Derived.Laws.Rows
import Derived.Laws.World
import Derived.Deep.LoopGhost
section
/- The machine's words: how a call is begun, and what each operation asks at which the machine stops. They hold of any program. -/
set_option linter.unusedVariables false
set_option linter.unusedSimpArgs false
namespace Go.Proofs.YtjcolfogmmjaoaaGreatDoor.V

def en : Nat → List Value → Env
  | _, [] => []
  | i, v :: vs => (i, v) :: en (i + 1) vs
theorem get_en (vs : List Value) : ∀ (i t : Nat), get (en i vs) t = if t < i then undef else vs.getD (t - i) undef := by
  induction vs with
  | nil => intro i t; simp [en, get, getK]
  | cons v vs ih =>
    intro i t
    unfold en
    rw [get_cons, ih]
    by_cases h : t = i
    · subst h; simp
    · by_cases h2 : t < i
      · simp [h, h2, show t < i + 1 by omega]
      · obtain ⟨k, rfl⟩ : ∃ k, t = i + 1 + k := ⟨t - i - 1, by omega⟩
        simp [show ¬ (i + 1 + k < i + 1) by omega, show ¬ (i + 1 + k < i) by omega, show i + 1 + k - i = k + 1 by omega, show i + 1 + k ≠ i by omega]

section
variable {P : Program} {L : List TD} {n : Nat} {Q : Exit → Act → World → Prop}

/-- The call's beginning. -/
theorem enter (hT : TOk P L) {k : FuncId} {fn : Func} {c : Code} {w : World} {R : Ending → World → Prop} (args : List Value) (hf : P.funcs[k]? = some fn) (hb : fn.body = some c) (hn : fn.ntmps = n) (ha : Nat.ble args.length n = true)
    (h : DenS P n (bodyPost P fn R) (.code [] c) (en 0 args) w) : Calls P k args.toArray w R := by
  refine calls_of_wp hf hb ?_
  have ha' : args.length ≤ n := Nat.le_of_ble_eq_true ha
  have : ({ tmps := args.toArray ++ Array.replicate (fn.ntmps - args.toArray.size) undef, defers := [] } : Act) = act n (en 0 args) := by
    unfold act
    congr 1
    apply Array.ext_getElem?
    intro i
    rw [Array.getElem?_ofFn, hn]
    by_cases h : i < n
    · rw [dif_pos h, get_en]
      rw [Array.getElem?_append]
      by_cases h2 : i < args.length
      · simp [h2]
      · simp [h2, show i - args.length < n - args.length by omega]
    · rw [dif_neg h]
      apply Array.getElem?_eq_none
      simp
      omega
  rw [this]
  exact h.out

abbrev fuel : Nat := 3000

theorem go (hT : TOk P L) {s : MS} {f : Env} {w : World} {o : Out} (h : mach L n fuel s f = o) (hd : Den P n Q o w) : DenS P n Q s f w := ⟨mach_sound hT fuel s f w (h ▸ hd)⟩

/-- The operation yields v; the world is as it was. -/
theorem den_val {D : Dr} {κ : List Kt} {all : Array Oper} {dec : List Nat} {o : Oper} {al : Bool} {rest : List (Oper × Bool)} {f : Env} {w : World} (v : Value)
    (hv : ∀ w', InW D w w' → (execOp (ev n f) o).run P w' = .ok (.value v) w') (hk : DenS P n Q (.ops D κ all dec rest) (put f o.dst v) w) : Den P n Q (.op D κ all dec o al rest f) w :=
  .inl ⟨v, fun w' h => by rw [show (act n f).eval = ev n f from funext (act_eval n f)]; exact hv w' h, by rw [act_put]; exact hk.out⟩
/-- It yields v in a new world. -/
theorem den_new {D : Dr} {κ : List Kt} {all : Array Oper} {dec : List Nat} {o : Oper} {rest : List (Oper × Bool)} {f : Env} {w w1 : World} (v : Value)
    (hv : (execOp (ev n f) o).run P w = .ok (.value v) w1) (hS : Keep D rest.isEmpty w1) (hk : DenS P n Q (.ops D κ all dec rest) (put f o.dst v) w1) : Den P n Q (.op D κ all dec o true rest f) w :=
  .inr ⟨rfl, .inl (by
    unfold Oper.wp
    rw [show (act n f).eval = ev n f from funext (act_eval n f), hv]
    exact ⟨hS, by rw [act_put]; exact hk.out⟩)⟩
theorem den_skip {D : Dr} {κ : List Kt} {all : Array Oper} {dec : List Nat} {o : Oper} {rest : List (Oper × Bool)} {f : Env} {w w1 : World}
    (hv : (execOp (ev n f) o).run P w = .ok .skip w1) (hS : Keep D rest.isEmpty w1) (hk : DenS P n Q (.ops D κ all dec rest) (put f o.dst undef) w1) : Den P n Q (.op D κ all dec o true rest f) w :=
  .inr ⟨rfl, .inl (by
    unfold Oper.wp
    rw [show (act n f).eval = ev n f from funext (act_eval n f), hv]
    exact ⟨hS, by rw [act_put]; exact hk.out⟩)⟩
theorem den_enter {D : Dr} {κ : List Kt} {all : Array Oper} {dec : List Nat} {o : Oper} {rest : List (Oper × Bool)} {f : Env} {w w0 : World} {k : FuncId} {args : Array Value} {R : Ending → World → Prop}
    (hv : (execOp (ev n f) o).run P w = .ok (.enter k args) w0) (hc : Calls P k args w0 R)
    (hk : ∀ e w1, R e w1 → ∃ v, e = .returned v ∧ Keep D rest.isEmpty w1 ∧ DenS P n Q (.ops D κ all dec rest) (put f o.dst v) w1) : Den P n Q (.op D κ all dec o true rest f) w :=
  .inr ⟨rfl, .inl (by
    unfold Oper.wp
    rw [show (act n f).eval = ev n f from funext (act_eval n f), hv]
    refine hc.mono fun e w1 hR => ?_
    obtain ⟨v, rfl, hS, hk⟩ := hk e w1 hR
    exact ⟨hS, by rw [act_put]; exact hk.out⟩)⟩

variable {s : MS} {f f' : Env} {w : World} {κ : List Kt} {all : Array Oper} {dec : List Nat} {o : Oper} {al : Bool} {rest : List (Oper × Bool)} {S : World → Prop} {ex : Ex}

/-! #### Branches -/
theorem go_if (hT : TOk P L) {x y : Code} {b : Bool} (h : mach L n fuel s f = .br κ b x y f') (h1 : b = true → DenS P n Q (.code κ x) f' w) (h2 : b = false → DenS P n Q (.code κ y) f' w) : DenS P n Q s f w :=
  go hT h (by cases b; exact (h2 rfl).out; exact (h1 rfl).out)
theorem go_t (hT : TOk P L) {x y : Code} {b : Bool} (h : mach L n fuel s f = .br κ b x y f') (hb : b = true) (h1 : DenS P n Q (.code κ x) f' w) : DenS P n Q s f w := go hT h (by subst hb; exact h1.out)
theorem go_f (hT : TOk P L) {x y : Code} {b : Bool} (h : mach L n fuel s f = .br κ b x y f') (hb : b = false) (h1 : DenS P n Q (.code κ y) f' w) : DenS P n Q s f w := go hT h (by subst hb; exact h1.out)
theorem act_same {f : Env} {d : Nat} {v : Value} (h : get f d = v) : act n ((d, v) :: f) = act n f := by
  unfold act
  congr 1
  apply Array.ext_getElem?
  intro i
  rw [Array.getElem?_ofFn, Array.getElem?_ofFn]
  split
  · rename_i hi
    show some (get ((d, v) :: f) i) = some (get f i)
    rw [get_cons]
    split
    · rename_i e; subst e; rw [h]
    · rfl
  · rfl
/-- A guard is decided: '&&', '||'. -/
theorem go_g (hT : TOk P L) {D : Dr} {d : Nat} {b : Bool} (h : mach L n fuel s f = .grd D κ all dec d b o al rest f') (hd : get f' d = .bool b)
    (h1 : b = true → DenS P n Q (.ops D κ all (d :: dec) ((o, al) :: rest)) ((d, .bool true) :: f') w) (h2 : b = false → DenS P n Q (.ops D κ all (d :: dec) ((o, al) :: rest)) ((d, .bool false) :: f') w) : DenS P n Q s f w :=
  go hT h (by
    show OR P D all (post P Q κ) ((o, al) :: rest) (act n f') w
    cases b
    · have := (h2 rfl).out; change OR P D all (post P Q κ) ((o, al) :: rest) (act n ((d, .bool false) :: f')) w at this; rwa [act_same hd] at this
    · have := (h1 rfl).out; change OR P D all (post P Q κ) ((o, al) :: rest) (act n ((d, .bool true) :: f')) w at this; rwa [act_same hd] at this)
theorem go_gt (hT : TOk P L) {D : Dr} {d : Nat} {b : Bool} (h : mach L n fuel s f = .grd D κ all dec d b o al rest f') (hd : get f' d = .bool b) (hb : b = true)
    (h1 : DenS P n Q (.ops D κ all (d :: dec) ((o, al) :: rest)) ((d, .bool true) :: f') w) : DenS P n Q s f w := go_g hT h hd (fun _ => h1) (fun e => by rw [hb] at e; cases e)
theorem go_gf (hT : TOk P L) {D : Dr} {d : Nat} {b : Bool} (h : mach L n fuel s f = .grd D κ all dec d b o al rest f') (hd : get f' d = .bool b) (hb : b = false)
    (h1 : DenS P n Q (.ops D κ all (d :: dec) ((o, al) :: rest)) ((d, .bool false) :: f') w) : DenS P n Q s f w := go_g hT h hd (fun e => by rw [hb] at e; cases e) (fun _ => h1)
/-- 'pick': one of two values. -/
theorem go_pick (hT : TOk P L) {D : Dr} {c x y : Operand} {b : Bool} (h : mach L n fuel s f = .op D κ all dec o al rest f') (ho : o.op = .pick c x y) (hc : ev n f' c = .bool b)
    (h1 : b = true → DenS P n Q (.ops D κ all dec rest) (put f' o.dst (ev n f' x)) w) (h2 : b = false → DenS P n Q (.ops D κ all dec rest) (put f' o.dst (ev n f' y)) w) : DenS P n Q s f w :=
  go hT h (den_val (if b then ev n f' x else ev n f' y) (fun w' _ => by simp [execOp, ho, hc, asBool]) (by cases b; exact h2 rfl; exact h1 rfl))
theorem go_pick1 (hT : TOk P L) {D : Dr} {c x y : Operand} {b : Bool} {v : Value} (h : mach L n fuel s f = .op D κ all dec o al rest f') (ho : o.op = .pick c x y) (hc : ev n f' c = .bool b)
    (hv : (if b then ev n f' x else ev n f' y) = v) (h1 : DenS P n Q (.ops D κ all dec rest) (put f' o.dst v) w) : DenS P n Q s f w :=
  go hT h (den_val v (fun w' _ => by rw [← hv]; simp [execOp, ho, hc, asBool]) h1)

/-! #### Memory -/
def oneT : TD → Bool | .ptr | .bool | .map | .fn | .ifc | .int _ | .str | .sl _ _ => true | _ => false
theorem agg_of_one {P : Program} {t : TypeId} (h : oneT (tdOf P t) = true) : ∃ d, P.underlying t = some d ∧ aggOf P t = false ∧ P.cellsOf t = 1 := by
  unfold tdOf at h
  split at h <;> (try (repeat' split at h)) <;> first | (simp [oneT] at h; done) | skip
  all_goals
    rename_i hu hi hs
    refine ⟨_, hu, by simp [aggOf, hu], ?_⟩
    simp [Program.cellsOf, hi] at hs ⊢
    first | exact hs | exact hs.2
theorem one_tl {P : Program} {L : List TD} (hT : TOk P L) {t : TypeId} (h : oneT (tl L t) = true) : ∃ d, P.underlying t = some d ∧ aggOf P t = false ∧ P.cellsOf t = 1 := by
  rcases hT t with e | e
  · rw [e] at h; cases h
  · rw [e] at h; exact agg_of_one h
theorem run_load1 (hT : TOk P L) {t : TypeId} (ht : oneT (tl L t) = true) {a : Addr} {v : Value} {w : World} (hc : w.cell? a = some v) : (loadVar t a).run P w = .ok v w := by
  obtain ⟨d, hd, hag, _⟩ := one_tl hT ht
  simp [loadVar, run_isAgg (by simp [hd] : (P.underlying t).isSome = true), hag, hc]
theorem exec_load {t : TypeId} {x : Operand} (ho : o.op = .load t x) {a : Addr} (hx : ev n f x = .pointer (some a)) {v : Value} {w' : World} (hr : (loadVar t a).run P w = .ok v w') : (execOp (ev n f) o).run P w = .ok (.value v) w' := by
  simp [execOp, ho, Instr.loadAt, Instr.sureAddr, hx, hr]

/-- A cell is read. -/
theorem go_ld (hT : TOk P L) {t : TypeId} {x : Operand} {a : Addr} {v : Value} (h : mach L n fuel s f = .op none κ all dec o al rest f') (ho : o.op = .load t x) (ht : oneT (tl L t) = true) (hx : ev n f' x = .pointer (some a))
    (hc : w.cell? a = some v) (hk : DenS P n Q (.ops none κ all dec rest) (put f' o.dst v) w) : DenS P n Q s f w :=
  go hT h (den_val v (fun w' e => by cases e; exact exec_load ho hx (run_load1 hT ht hc)) hk)
theorem go_ldS (hT : TOk P L) {t : TypeId} {x : Operand} {a : Addr} {v : Value} (h : mach L n fuel s f = .op (some (S, ex)) κ all dec o al rest f') (ho : o.op = .load t x) (ht : oneT (tl L t) = true) (hx : ev n f' x = .pointer (some a))
    (hc : ∀ w', S w' → w'.cell? a = some v) (hk : DenS P n Q (.ops (some (S, ex)) κ all dec rest) (put f' o.dst v) w) : DenS P n Q s f w :=
  go hT h (den_val v (fun w' e => exec_load ho hx (run_load1 hT ht (hc w' e))) hk)

theorem agg_of_agg {P : Program} {t : TypeId} {m : Nat} {fs : List (Nat × Nat × Bool)} (h : tdOf P t = .agg m fs) : ∃ d, P.underlying t = some d ∧ aggOf P t = true ∧ P.cellsOf t = m := by
  obtain ⟨Fs, i, hu, hi, hm, _⟩ := tdOf_agg h
  exact ⟨_, hu, by simp [aggOf, hu], by simp [Program.cellsOf, hi, hm]⟩
theorem agg_tl {P : Program} {L : List TD} (hT : TOk P L) {t : TypeId} {m : Nat} {fs : List (Nat × Nat × Bool)} (h : tl L t = .agg m fs) : ∃ d, P.underlying t = some d ∧ aggOf P t = true ∧ P.cellsOf t = m := by
  rcases hT t with e | e
  · rw [e] at h; cases h
  · rw [e] at h; exact agg_of_agg h
/-- The cells from a on. -/
def Cells (w : World) (a : Addr) (cs : List Value) : Prop := ∀ (j : Nat) (v : Value), cs[j]? = some v → w.cell? (a.add j) = some v
theorem run_loada (hT : TOk P L) {t : TypeId} {fs : List (Nat × Nat × Bool)} {cs : List Value} (ht : tl L t = .agg cs.length fs) {a : Addr} {w : World} (hc : Cells w a cs) :
    (loadVar t a).run P w = .ok (.agg cs.toArray) w := by
  obtain ⟨d, hd, hag, hm⟩ := agg_tl hT ht
  have hi : (P.info? t).isSome = true := by
    cases hi : P.info? t with
    | some i => rfl
    | none => simp [Program.underlying, hi] at hd
  have := run_loadCells_list (P := P) (w := w) a cs hc
  simp [loadVar, run_isAgg (by simp [hd] : (P.underlying t).isSome = true), hag, run_sizeOf' hi, hm, this]
/-- A struct is read. -/
theorem go_lda (hT : TOk P L) {t : TypeId} {fs : List (Nat × Nat × Bool)} {x : Operand} {a : Addr} (cs : List Value) (h : mach L n fuel s f = .op none κ all dec o al rest f') (ho : o.op = .load t x) (ht : tl L t = .agg cs.length fs) (hx : ev n f' x = .pointer (some a))
    (hc : Cells w a cs) (hk : DenS P n Q (.ops none κ all dec rest) (put f' o.dst (.agg cs.toArray)) w) : DenS P n Q s f w :=
  go hT h (den_val _ (fun w' e => by cases e; exact exec_load ho hx (run_loada hT ht hc)) hk)
theorem go_ldaS (hT : TOk P L) {t : TypeId} {fs : List (Nat × Nat × Bool)} {x : Operand} {a : Addr} (cs : List Value) (h : mach L n fuel s f = .op (some (S, ex)) κ all dec o al rest f') (ho : o.op = .load t x) (ht : tl L t = .agg cs.length fs) (hx : ev n f' x = .pointer (some a))
    (hc : ∀ w', S w' → Cells w' a cs) (hk : DenS P n Q (.ops (some (S, ex)) κ all dec rest) (put f' o.dst (.agg cs.toArray)) w) : DenS P n Q s f w :=
  go hT h (den_val _ (fun w' e => exec_load ho hx (run_loada hT ht (hc w' e))) hk)

/-- Cells from a on may be written. -/
def MayW (w : World) (a : Addr) (m : Nat) : Prop := ∀ j, j < m → (w.cell? (a.add j)).isSome = true ∧ w.frozen? (a.add j) = false
/-- They are written. -/
def setAll (w : World) (a : Addr) : Nat → List Value → World
  | _, [] => w
  | i, v :: vs => setAll (w.setCell (a.add i) v) a (i + 1) vs
theorem run_storeCells (P : Program) (a : Addr) : ∀ (vs : List Value) (i : Nat) (w : World), (∀ u ∈ vs, u.oneCell' = true) → (∀ j, i ≤ j → j < i + vs.length → (w.cell? (a.add j)).isSome = true ∧ w.frozen? (a.add j) = false) →
    (storeCells a vs i).run P w = .ok () (setAll w a i vs)
  | [], i, w, _, _ => rfl
  | v :: vs, i, w, h1, hw => by
    obtain ⟨hc, hf⟩ := hw i (Nat.le_refl _) (by simp)
    obtain ⟨u, hu⟩ := Option.isSome_iff_exists.1 hc
    unfold storeCells setAll
    simp only [Sem.run_bind, run_store P w (a.add i) v .plain (h1 v (by simp)), hu, hf, Bool.false_eq_true, if_false, Result.andThen_ok]
    refine run_storeCells P a vs (i + 1) _ (fun u hu => h1 u (by simp [hu])) fun j hj hl => ?_
    obtain ⟨hc', hf'⟩ := hw j (by omega) (by simp at hl ⊢; omega)
    refine ⟨?_, by simpa using hf'⟩
    by_cases he : a.add i = a.add j
    · rw [← he, World.cell?_setCell_same _ _ _ hu]; rfl
    · rw [World.cell?_setCell_other _ _ _ _ he]; exact hc'
theorem exec_store (hT : TOk P L) {t : TypeId} {x y : Operand} (ho : o.op = .store t x y) {a : Addr} (hx : ev n f x = .pointer (some a)) {vs : List Value} (hy : (ev n f y).cells.toList = vs) (hsz : P.cellsOf t = vs.length) (hi : (P.info? t).isSome = true)
    (h1 : ∀ u ∈ vs, u.oneCell' = true) (hw : MayW w a vs.length) : (execOp (ev n f) o).run P w = .ok .skip (setAll w a 0 vs) := by
  have hr := run_storeCells P a vs 0 w h1 (fun j _ hj => hw j (by omega))
  have hz : (ev n f y).cells.size = P.cellsOf t := by rw [hsz, ← hy]; simp
  simp [execOp, ho, Instr.storeAt, Instr.sureAddr, hx, storeVar, run_sizeOf' hi, hz, hy, hr]
theorem some_of_one {P : Program} {t : TypeId} {d : TypeDesc} (h : P.underlying t = some d) : (P.info? t).isSome = true := by
  cases hi : P.info? t with
  | some i => rfl
  | none => simp [Program.underlying, hi] at h
theorem cells_one {v : Value} (h : v.oneCell' = true) : v.cells.toList = [v] := by cases v <;> first | rfl | simp [Value.oneCell'] at h
/-- A cell is written. -/
theorem go_st (hT : TOk P L) {t : TypeId} {x y : Operand} {a : Addr} {v u : Value} (h : mach L n fuel s f = .op none κ all dec o true rest f') (ho : o.op = .store t x y) (ht : oneT (tl L t) = true) (hx : ev n f' x = .pointer (some a)) (hy : ev n f' y = v) (hv : v.oneCell' = true)
    (hc : w.cell? a = some u) (hf : w.frozen? a = false) (hk : DenS P n Q (.ops none κ all dec rest) (put f' o.dst undef) (w.setCell a v)) : DenS P n Q s f w := by
  obtain ⟨d, hd, _, hone⟩ := one_tl hT ht
  refine go hT h (den_skip (w1 := setAll w a 0 [v]) (exec_store (vs := [v]) hT ho hx (by rw [hy]; exact cells_one hv) hone (some_of_one hd) (by simpa using hv) fun j hj => ?_) trivial ?_)
  · obtain rfl : j = 0 := by simpa using hj
    simp [Addr.add, hc, hf]
  · simpa [setAll, Addr.add] using hk
theorem go_stS (hT : TOk P L) {t : TypeId} {x y : Operand} {a : Addr} {v u : Value} (h : mach L n fuel s f = .op (some (S, ex)) κ all dec o true rest f') (ho : o.op = .store t x y) (ht : oneT (tl L t) = true) (hx : ev n f' x = .pointer (some a)) (hy : ev n f' y = v) (hv : v.oneCell' = true)
    (hc : w.cell? a = some u) (hf : w.frozen? a = false) (hS : (ex.b && rest.isEmpty) = true ∨ S (w.setCell a v)) (hk : DenS P n Q (.ops (some (S, ex)) κ all dec rest) (put f' o.dst undef) (w.setCell a v)) : DenS P n Q s f w := by
  obtain ⟨d, hd, _, hone⟩ := one_tl hT ht
  refine go hT h (den_skip (w1 := setAll w a 0 [v]) (exec_store (vs := [v]) hT ho hx (by rw [hy]; exact cells_one hv) hone (some_of_one hd) (by simpa using hv) fun j hj => ?_) (by show (ex.b && rest.isEmpty) = true ∨ S _; simpa [setAll, Addr.add] using hS) ?_)
  · obtain rfl : j = 0 := by simpa using hj
    simp [Addr.add, hc, hf]
  · simpa [setAll, Addr.add] using hk
/-- A struct is written. -/
theorem go_sta (hT : TOk P L) {D : Dr} {t : TypeId} {fs : List (Nat × Nat × Bool)} {x y : Operand} {a : Addr} (vs : List Value) (h : mach L n fuel s f = .op D κ all dec o true rest f') (ho : o.op = .store t x y) (ht : tl L t = .agg vs.length fs) (hx : ev n f' x = .pointer (some a)) (hy : ev n f' y = .agg vs.toArray) (h1 : ∀ u ∈ vs, u.oneCell' = true)
    (hw : MayW w a vs.length) (hS : Keep D rest.isEmpty (setAll w a 0 vs)) (hk : DenS P n Q (.ops D κ all dec rest) (put f' o.dst undef) (setAll w a 0 vs)) : DenS P n Q s f w := by
  obtain ⟨d, hd, _, hone⟩ := agg_tl hT ht
  exact go hT h (den_skip (w1 := setAll w a 0 vs) (exec_store (vs := vs) hT ho hx (by rw [hy]; rfl) hone (some_of_one hd) h1 hw) hS hk)

/-- A variable of its own, with a value. -/
theorem go_box (hT : TOk P L) {D : Dr} {t : TypeId} {x : Operand} {v : Value} (h : mach L n fuel s f = .op D κ all dec o true rest f') (ho : o.op = .box t x) (hx : ev n f' x = v) (hS : Keep D rest.isEmpty (w.alloc (.cells v.cells t)))
    (hk : DenS P n Q (.ops D κ all dec rest) (put f' o.dst (.pointer (some ⟨w.heap.size, 0, none⟩))) (w.alloc (.cells v.cells t))) : DenS P n Q s f w :=
  go hT h (den_new _ (by simp [execOp, ho, Instr.box, newVar, newRow, hx]) hS hk)
/-- A variable of its own, zero. -/
theorem go_new (hT : TOk P L) {D : Dr} {t : TypeId} (z : Value) (h : mach L n fuel s f = .op D κ all dec o true rest f') (ho : o.op = .alloc t) (hz : (P.info? t).map (·.zero) = some (some z)) (hS : Keep D rest.isEmpty (w.alloc (.cells z.cells t)))
    (hk : DenS P n Q (.ops D κ all dec rest) (put f' o.dst (.pointer (some ⟨w.heap.size, 0, none⟩))) (w.alloc (.cells z.cells t))) : DenS P n Q s f w := by
  obtain ⟨i, hi, hiz⟩ := Option.map_eq_some_iff.1 hz
  exact go hT h (den_new _ (by simp [execOp, ho, Instr.alloc, newVar, newRow, zeroValue, typeInfo, hi, hiz]) hS hk)

/-! #### Calls -/
def callOk (P : Program) (k : FuncId) : Bool := match P.funcs[k]? with | some fn => !(fn.name == "runtime.NumGoroutine") && fn.body.isSome | none => false
theorem run_callFunc {k : FuncId} (hb : callOk P k = true) (args : Array Value) (w : World) : (callFunc k args).run P w = .ok (.enter k args) w := by
  unfold callOk at hb
  split at hb
  · rename_i fn hf
    simp at hb
    have hn : fn.body.isNone = false := by cases hx : fn.body <;> simp_all
    unfold callFunc
    simp only [Sem.run_bind, run_program, Result.andThen_ok, hf]
    rw [if_neg (by simpa using hb.1), hn]
    rfl
  · cases hb
/-- A function is called. -/
theorem go_call (hT : TOk P L) {D : Dr} {k : FuncId} {xs : Array Operand} {ts : Array TypeId} {args : List Value} {R : Ending → World → Prop} (h : mach L n fuel s f = .op D κ all dec o true rest f') (ho : o.op = .call ⟨.value (.func k), xs, ts⟩) (hb : callOk P k = true) (ha : xs.toList.map (ev n f') = args)
    (hc : Calls P k args.toArray w R) (hk : ∀ e w1, R e w1 → ∃ v, e = .returned v ∧ Keep D rest.isEmpty w1 ∧ DenS P n Q (.ops D κ all dec rest) (put f' o.dst v) w1) : DenS P n Q s f w := by
  refine go hT h (den_enter (w0 := w) (k := k) (args := args.toArray) ?_ hc hk)
  have : xs.map (ev n f') = args.toArray := by rw [← ha]; obtain ⟨xs⟩ := xs; simp
  simp [execOp, ho, resolve, invoke, ev, evK, Deferred.ofValue, run_callFunc hb, this]
  
/-! #### Index, slice -/
theorem go_ix (hT : TOk P L) {D : Dr} {t e : TypeId} {m : Nat} {x y : Operand} {a : Addr} {len cap : Nat} {k : IntKind} {i : Int} (h : mach L n fuel s f = .op D κ all dec o al rest f') (ho : o.op = .indexAddr t x y) (ht : tl L t = .sl e m) (hx : ev n f' x = .slice (some a) len cap) (hy : ev n f' y = .int k i)
    (h0 : 0 ≤ i) (h1 : i < len) (hk : DenS P n Q (.ops D κ all dec rest) (put f' o.dst (.pointer (some (a.add (i.toNat * m))))) w) : DenS P n Q s f w := by
  have htd : tdOf P t = .sl e m := by rcases hT t with e | e <;> rw [e] at ht; cases ht; exact ht
  obtain ⟨hu, hi, hm⟩ := tdOf_sl htd
  refine go hT h (den_val _ (fun w' _ => ?_) hk)
  simp [execOp, ho, Instr.indexAt, hx, hy, asIntOf, underlying, hu, h0, h1, run_sizeOf' hi, hm]
theorem go_sl (hT : TOk P L) {D : Dr} {t e : TypeId} {m : Nat} {x : Operand} {lo hi : Option Operand} {A : Option Addr} {len cap : Nat} (l r : Nat) (h : mach L n fuel s f = .op D κ all dec o al rest f') (ho : o.op = .slice t x lo hi none) (ht : tl L t = .sl e m) (hx : ev n f' x = .slice A len cap)
    (hlo : match lo with | none => l = 0 | some y => ∃ k : IntKind, ev n f' y = .int k l) (hhi : match hi with | none => r = len | some y => ∃ k : IntKind, ev n f' y = .int k r) (h0 : l ≤ r) (h1 : r ≤ cap)
    (hk : DenS P n Q (.ops D κ all dec rest) (put f' o.dst (.slice (if cap = l then A else A.map (·.add (l * m))) (r - l) (cap - l))) w) : DenS P n Q s f w := by
  have htd : tdOf P t = .sl e m := by rcases hT t with e | e <;> rw [e] at ht; cases ht; exact ht
  obtain ⟨hu, hinf, hm⟩ := tdOf_sl htd
  refine go hT h (den_val _ (fun w' _ => ?_) hk)
  have hbd : (Instr.sliceBounds true len cap (lo.map (ev n f')) (hi.map (ev n f')) none).run P w' = .ok (l, r, cap) w' := by
    have e1 : (match hi.map (ev n f') with | some v => Instr.sliceBound v cap .sliceAcap | none => pure len : Sem Nat).run P w' = .ok r w' := by
      cases hi with
      | none => simp at hhi; subst hhi; rfl
      | some y => obtain ⟨k, hy⟩ := hhi; simp [hy, Instr.sliceBound, asIntOf, h1]
    have e2 : (match lo.map (ev n f') with | some v => Instr.sliceBound v r .sliceB | none => pure 0 : Sem Nat).run P w' = .ok l w' := by
      cases lo with
      | none => simp at hlo; subst hlo; rfl
      | some y => obtain ⟨k, hy⟩ := hlo; simp [hy, Instr.sliceBound, asIntOf, h0]
    cases hi with
    | none =>
      simp at hhi; subst hhi
      cases lo with
      | none => simp at hlo; subst hlo; simp [Instr.sliceBounds]
      | some y => obtain ⟨k, hy⟩ := hlo; simp [Instr.sliceBounds, hy, Instr.sliceBound, asIntOf, h0]
    | some z =>
      obtain ⟨k', hz⟩ := hhi
      cases lo with
      | none => simp at hlo; subst hlo; simp [Instr.sliceBounds, hz, Instr.sliceBound, asIntOf, h1]
      | some y => obtain ⟨k, hy⟩ := hlo; simp [Instr.sliceBounds, hy, hz, Instr.sliceBound, asIntOf, h0, h1]
  simp [execOp, ho, Instr.sliceAt, Instr.slice, hx, underlying, hu, hbd, run_sizeOf' hinf, hm]

/-! #### Loops, cuts, drawn regions, the end -/
theorem act_upd {f g : Env} (h : ∀ t, get f t = get g t) : act n f = act n g := by
  unfold act; congr 1; apply Array.ext_getElem?; intro i; simp only [Array.getElem?_ofFn, h]
/-- The slots of l hold vs, whatever the others hold. -/
def over : List Nat → List Value → Env → Env
  | t :: l, v :: vs, g => (t, v) :: over l vs g
  | _, _, g => g
theorem over_same : ∀ (l : List Nat) (vs : List Value) (g : Env), l.map (get g) = vs → ∀ t, get (over l vs g) t = get g t
  | [], vs, g, h, t => by cases vs <;> rfl
  | x :: l, [], g, h, t => rfl
  | x :: l, v :: vs, g, h, t => by
    simp only [List.map_cons, List.cons.injEq] at h
    unfold over
    rw [get_cons]
    split
    · rename_i e; subst e; exact h.1.symm
    · exact over_same l vs g h.2 t
/-- A loop: of X's members one is the round's; what the slots of l hold, what is so of the world, and what gets less. -/
theorem go_loop (hT : TOk P L) {X : Type} (l : List Nat) (vs : X → List Value) (I : X → World → Prop) (μ : X → World → Nat) {c : Code} (x0 : X) (h : mach L n fuel s f = .loop κ c f') (h0 : I x0 w) (hf : l.map (get f') = vs x0)
    (hr : ∀ x w g, I x w → DenS P n Q (.code (.inv (fun a w' => ∃ x' g', a = act n (over l (vs x') g') ∧ I x' w' ∧ μ x' w' < μ x w) :: κ) c) (over l (vs x) g) w) : DenS P n Q s f w := by
  refine go hT h ?_
  show (Code.loop c).wp P (post P Q κ) (act n f') w
  rw [← act_upd (over_same l _ f' hf)]
  refine wp_loop_ghost (fun m a w => ∃ x g, a = act n (over l (vs x) g) ∧ I x w ∧ μ x w = m) (μ x0 w) ⟨x0, f', rfl, h0, rfl⟩ ?_
  rintro m a w ⟨x, g, rfl, hI, rfl⟩
  refine wp_mono (hr x w g hI).out ?_
  intro e a' w' hq
  cases e with
  | normal =>
    obtain ⟨x', g', ha, hI', hlt⟩ := hq
    exact ⟨_, hlt, x', g', ha, hI', rfl⟩
  | exit id => exact hq
  | goto l => exact hq
  | ret => exact hq
  | panic ch => exact hq
  | outgrown => exact hq
/-- The round's end. -/
theorem go_next (hT : TOk P L) {X : Type} {l : List Nat} {vs : X → List Value} {I : X → World → Prop} {μ : X → World → Nat} {m : Nat} (x' : X) (h : mach L n fuel s f = .nrm (.inv (fun a w' => ∃ x' g', a = act n (over l (vs x') g') ∧ I x' w' ∧ μ x' w' < m) :: κ) f')
    (hf : l.map (get f') = vs x') (hI : I x' w) (hm : μ x' w < m) : DenS P n Q s f w :=
  go hT h (by
    show ∃ x'' g', act n f' = act n (over l (vs x'') g') ∧ I x'' w ∧ μ x'' w < m
    exact ⟨x', f', (act_upd (over_same l _ f' hf)).symm, hI, hm⟩)
/-- A cut: behind c the slots of l hold vs, of the world I is so; what follows is shown once. -/
theorem go_cut (hT : TOk P L) {X : Type} (l : List Nat) (vs : X → List Value) (I : X → World → Prop) {c d : Code} (h : mach L n fuel s f = .st (.code κ (.seq c d)) f')
    (h1 : DenS P n Q (.code (.inv (fun a w' => ∃ x' g', a = act n (over l (vs x') g') ∧ I x' w') :: κ) c) f' w) (h2 : ∀ x w g, I x w → DenS P n Q (.code κ d) (over l (vs x) g) w) : DenS P n Q s f w := by
  refine go hT h ?_
  show (Code.seq c d).wp P (post P Q κ) (act n f') w
  refine wp_seq (wp_mono h1.out ?_)
  intro e a' w' hq
  cases e with
  | normal =>
    obtain ⟨x', g', rfl, hI'⟩ := hq
    exact (h2 x' w' g' hI').out
  | exit id => exact hq
  | goto l => exact hq
  | ret => exact hq
  | panic ch => exact hq
  | outgrown => exact hq
theorem go_meet (hT : TOk P L) {X : Type} {l : List Nat} {vs : X → List Value} {I : X → World → Prop} (x' : X) (h : mach L n fuel s f = .nrm (.inv (fun a w' => ∃ x' g', a = act n (over l (vs x') g') ∧ I x' w') :: κ) f')
    (hf : l.map (get f') = vs x') (hI : I x' w) : DenS P n Q s f w :=
  go hT h (by
    show ∃ x'' g', act n f' = act n (over l (vs x'') g') ∧ I x'' w
    exact ⟨x', f', (act_upd (over_same l _ f' hf)).symm, hI⟩)
/-- A region whose order is drawn. -/
theorem go_draw (hT : TOk P L) {fn : Func} {R : Ending → World → Prop} {id : Nat} {ops : Array Oper} (S : World → Prop) (ex : Bool) (ord : List (Nat × Bool)) (h : mach L n fuel s f = .draw κ id ops f') (hm : P.follows .mixedOrders = true)
    (ho : (Nat.beq ord.length ops.size && Region.noSelect ops && ordOk ops (Array.replicate ops.size false) ord && (!ex || waitsAll .any ops (lastI ord)) && xOk (if ex then lastI ord else ops.size) ord) = true) (hS : S w.drew)
    (hk : DenS P n (bodyPost P fn R) (.ops (some (S, ⟨ex, none⟩)) κ ops [] (selK ops.toList ord)) f' w.drew) : DenS P n (bodyPost P fn R) s f w := by
  simp only [Bool.and_eq_true] at ho
  refine go hT h ?_
  refine wp_region_drawn (S := S) (ex := ex) ord hm (Nat.eq_of_beq_eq_true ho.1.1.1.1) ho.1.1.1.2 ho.1.1.2 (fun he => by have := ho.1.2; rw [he] at this; simpa using this) ho.2 ?_ hS hk.out
  intro c a d v w hp
  rw [post_panic] at hp ⊢
  exact ⟨by simpa [Act.put] using (show (a.put d v).defers = [] from hp.1) |> fun h => by cases d <;> simpa [Act.put] using h, hp.2⟩

/-- What a result variable holds. -/
def resV (P : Program) (n : Nat) (f : Env) (w : World) : ResultVar → Value → Prop
  | .tmp t, v => ev n f (.tmp t) = v
  | .cell a t, v => ∃ p, ev n f (.tmp a) = .pointer (some p) ∧ (loadVar t p).run P w = .ok v w
def resL (P : Program) (n : Nat) (f : Env) (w : World) : List ResultVar → List Value → Prop
  | [], [] => True
  | r :: rs, v :: vs => resV P n f w r v ∧ resL P n f w rs vs
  | _, _ => False
theorem act_get (n : Nat) (f : Env) (t : Nat) : (act n f).tmps.getD t undef = ev n f (.tmp t) := act_eval n f (.tmp t)
theorem run_mapM_all {α : Type} {P : Program} {w : World} (g : α → Sem Value) (Rv : α → Value → Prop) (hg : ∀ r v, Rv r v → (g r).run P w = .ok v w) : ∀ (rs : List α) (vs : List Value), (∀ (j : Nat) r, rs[j]? = some r → ∃ v, vs[j]? = some v ∧ Rv r v) → vs.length = rs.length → (rs.mapM g).run P w = .ok vs w
  | [], [], _, _ => by simp
  | [], _ :: _, _, h => by simp at h
  | _ :: _, [], _, h => by simp at h
  | r :: rs, v :: vs, h, hl => by
    obtain ⟨v', hv, hr⟩ := h 0 r rfl
    simp at hv
    subst hv
    have ih := run_mapM_all g Rv hg rs vs (fun j r hj => h (j + 1) r hj) (by simpa using hl)
    simp [List.mapM_cons, hg r v hr, ih]
theorem resL_len {P : Program} {n : Nat} {f : Env} {w : World} : ∀ (rs : List ResultVar) (vs : List Value), resL P n f w rs vs → vs.length = rs.length ∧ ∀ (j : Nat) r, rs[j]? = some r → ∃ v, vs[j]? = some v ∧ resV P n f w r v
  | [], [], _ => ⟨rfl, by simp⟩
  | [], _ :: _, h => h.elim
  | _ :: _, [], h => h.elim
  | r :: rs, v :: vs, h => by
    obtain ⟨h1, h2⟩ := resL_len rs vs h.2
    refine ⟨by simp [h1], fun j q hj => ?_⟩
    cases j with
    | zero => simp at hj; subst hj; exact ⟨v, rfl, h.1⟩
    | succ j => exact h2 j q hj
theorem run_resL {P : Program} {n : Nat} {f : Env} {w : World} (rs : List ResultVar) (vs : List Value) (h : resL P n f w rs vs) (g : ResultVar → Sem Value) (hg1 : ∀ t, g (.tmp t) = pure ((act n f).tmps.getD t undef)) (hg2 : ∀ a t, g (.cell a t) = (do loadVar t (← asAddr ((act n f).tmps.getD a undef)))) :
    (rs.mapM g).run P w = .ok vs w := by
  refine run_mapM_all g (resV P n f w) ?_ rs vs (resL_len rs vs h).2 (resL_len rs vs h).1
  intro r v hr
  cases r with
  | tmp t => rw [hg1, act_get]; unfold resV at hr; rw [hr]; rfl
  | cell a t =>
    obtain ⟨p, hp, hl⟩ := hr
    rw [hg2, act_get, hp]
    simp [asAddr, hl]
def tup (vs : List Value) : Value := match vs with | [v] => v | vs => .tuple vs.toArray
theorem run_results {P : Program} {n : Nat} {f : Env} {w : World} {fn : Func} {rs : List ResultVar} (hr : fn.results = rs.toArray) {vs : List Value} (h : resL P n f w rs vs) : (results fn (act n f).tmps).run P w = .ok (tup vs) w := by
  unfold results
  rw [hr]
  simp only [List.mapM_toArray, Sem.run_bind, Sem.run_map]
  rw [run_resL rs vs h _ (fun _ => rfl) (fun _ _ => rfl)]
  simp only [Result.andThen_ok, Sem.run_pure]
  congr 1
  match vs with
  | [] => rfl
  | [v] => rfl
  | v :: u :: vs => simp [tup]
/-- The function returns. -/
theorem go_ret (hT : TOk P L) {fn : Func} {R : Ending → World → Prop} {rs : List ResultVar} (vs : List Value) (h : mach L n fuel s f = .ret κ f') (hr : fn.results = rs.toArray) (hv : resL P n f' w rs vs) (hR : R (.returned (tup vs)) w) : DenS P n (bodyPost P fn R) s f w :=
  go hT h (by
    show post P (bodyPost P fn R) κ .ret (act n f') w
    rw [post_ret]
    exact ⟨rfl, _, run_results hr hv, hR⟩)
/-- A drawn region whose order branches: its first, linear run; x: the operation that comes last and may end S (or the number of operations). -/
theorem go_tree (hT : TOk P L) {fn : Func} {R : Ending → World → Prop} {id : Nat} {ops : Array Oper} (S : World → Prop) (x : Nat) (ord : List (Nat × Bool)) (h : mach L n fuel s f = .draw κ id ops f') (hm : P.follows .mixedOrders = true)
    (ho : (Nat.ble ord.length ops.size && Region.noSelect ops && (ordTo ops (Array.replicate ops.size false) ord).isSome && (!(Nat.blt x ops.size) || waitsAll .any ops x) && xOk x ord) = true) (hS : S w.drew)
    (hk : DenS P n (bodyPost P fn R) (.ops (some (S, ⟨false, some (x, ops.size - ord.length, (ordTo ops (Array.replicate ops.size false) ord).getD #[])⟩)) κ ops [] (selK ops.toList ord)) f' w.drew) : DenS P n (bodyPost P fn R) s f w := by
  simp only [Bool.and_eq_true] at ho
  refine go hT h ?_
  refine wp_region_tree (S := S) (x := x) ord hm (Nat.le_of_ble_eq_true ho.1.1.1.1) ho.1.1.1.2 ho.1.1.2 (fun hlt => ?_) ho.2 ?_ hS false (fun h => by cases h) hk.out
  · have h2 := ho.1.2
    rw [Bool.or_eq_true, Bool.not_eq_true'] at h2
    rcases h2 with h2 | h2
    · rw [show Nat.blt x ops.size = true by simpa [Nat.blt_eq] using hlt] at h2; cases h2
    · exact h2
  intro c a d v w hp
  rw [post_panic] at hp ⊢
  exact ⟨by simpa [Act.put] using (show (a.put d v).defers = [] from hp.1) |> fun h => by cases d <;> simpa [Act.put] using h, hp.2⟩
/-- .. and all its runs meet behind it: the slots of l hold vs, and I. -/
theorem go_treeC (hT : TOk P L) {fn : Func} {R : Ending → World → Prop} {id : Nat} {ops : Array Oper} {c : Code} {X : Type} (l : List Nat) (vs : X → List Value) (I : X → World → Prop) (S : World → Prop) (x : Nat) (ord : List (Nat × Bool)) (h : mach L n fuel s f = .draw (.seq c :: κ) id ops f') (hm : P.follows .mixedOrders = true)
    (ho : (Nat.ble ord.length ops.size && Region.noSelect ops && (ordTo ops (Array.replicate ops.size false) ord).isSome && (!(Nat.blt x ops.size) || waitsAll .any ops x) && xOk x ord) = true) (hS : S w.drew)
    (hk : DenS P n (bodyPost P fn R) (.ops (some (S, ⟨false, some (x, ops.size - ord.length, (ordTo ops (Array.replicate ops.size false) ord).getD #[])⟩)) (.inv (fun a w' => ∃ x' g', a = act n (over l (vs x') g') ∧ I x' w') :: κ) ops [] (selK ops.toList ord)) f' w.drew)
    (h2 : ∀ x w g, I x w → DenS P n (bodyPost P fn R) (.code κ c) (over l (vs x) g) w) : DenS P n (bodyPost P fn R) s f w := by
  have h1 := go_tree hT (s := .code (.inv (fun a w' => ∃ x' g', a = act n (over l (vs x') g') ∧ I x' w') :: κ) (.region id ops true)) (f := f') S x ord rfl hm ho hS hk
  refine go hT h ?_
  show (Code.region id ops true).wp P (post P (bodyPost P fn R) (.seq c :: κ)) (act n f') w
  refine wp_mono h1.out ?_
  intro e a w' he
  cases e with
  | normal =>
    obtain ⟨x', g', rfl, hI⟩ := he
    exact (h2 x' w' g' hI).out
  | _ => exact he
/-- A drawn region, up to operation x (the last of ord), behind which S need not hold; then go_rest. -/
theorem go_drawX (hT : TOk P L) {fn : Func} {R : Ending → World → Prop} {id : Nat} {ops : Array Oper} (S : World → Prop) (x : Nat) (ord : List (Nat × Bool)) (h : mach L n fuel s f = .draw κ id ops f') (hm : P.follows .mixedOrders = true)
    (ho : (Nat.ble ord.length ops.size && Region.noSelect ops && (ordTo ops (Array.replicate ops.size false) ord).isSome && (!(Nat.blt x ops.size) || waitsAll .any ops x) && xOk x ord && Nat.beq (lastI ord) x) = true) (hS : S w.drew)
    (hk : DenS P n (bodyPost P fn R) (.ops (some (S, ⟨true, some (x, ops.size - ord.length, (ordTo ops (Array.replicate ops.size false) ord).getD #[])⟩)) κ ops [] (selK ops.toList ord)) f' w.drew) : DenS P n (bodyPost P fn R) s f w := by
  simp only [Bool.and_eq_true] at ho
  refine go hT h ?_
  refine wp_region_tree (S := S) (x := x) ord hm (Nat.le_of_ble_eq_true ho.1.1.1.1.1) ho.1.1.1.1.2 ho.1.1.1.2 (fun hlt => ?_) ho.1.2 ?_ hS true (fun _ _ => Nat.eq_of_beq_eq_true ho.2) hk.out
  · have h2 := ho.1.1.2
    rw [Bool.or_eq_true, Bool.not_eq_true'] at h2
    rcases h2 with h2 | h2
    · rw [show Nat.blt x ops.size = true by simpa [Nat.blt_eq] using hlt] at h2; cases h2
    · exact h2
  intro c a d v w hp
  rw [post_panic] at hp ⊢
  exact ⟨by simpa [Act.put] using (show (a.put d v).defers = [] from hp.1) |> fun h => by cases d <;> simpa [Act.put] using h, hp.2⟩
theorem go_rest (hT : TOk P L) {fn : Func} {R : Ending → World → Prop} {b : Bool} {x q : Nat} {listed : Array Bool} (ord : List (Nat × Bool)) (h : mach L n fuel s f = .st (.ops (some (S, ⟨b, some (x, q, listed)⟩)) κ all dec []) f')
    (ho : (Nat.beq ord.length q && Region.noSelect all && ordOk all listed ord && listed.getD x false && Nat.beq listed.size all.size && xOk all.size ord) = true)
    (hk : DenS P n (bodyPost P fn R) (.ops (some (fun _ => True, ⟨false, none⟩)) κ all dec (selK all.toList ord)) f' w) : DenS P n (bodyPost P fn R) s f w := by
  simp only [Bool.and_eq_true] at ho
  refine go hT h ?_
  show ClosedL .any all listed → _
  intro hcl
  refine OR_rest ho.1.1.1.1.1 ho.1.1.1.1.2 ho.1.1.1.2 ho.1.1.2 ho.1.2 ho.2 (fun c a d v w hp => ?_) hcl hk.out
  rw [post_panic] at hp ⊢
  exact ⟨by simpa [Act.put] using (show (a.put d v).defers = [] from hp.1) |> fun h => by cases d <;> simpa [Act.put] using h, hp.2⟩
def AllAlt {α : Type} (p : α → Prop) : List α → Prop
  | [] => True
  | x :: l => p x ∧ AllAlt p l
theorem AllAlt.get {α : Type} {p : α → Prop} : ∀ {l : List α}, AllAlt p l → ∀ x ∈ l, p x
  | [], _, x, h => by simp at h
  | y :: l, h, x, hx => by rcases List.mem_cons.1 hx with rfl | hx; exact h.1; exact h.2.get x hx
/-- The region's order branches here: each of those that may come up first. -/
theorem go_alt (hT : TOk P L) {fn : Func} {R : Ending → World → Prop} {b : Bool} {x q : Nat} {listed : Array Bool} (ts : List (List (Nat × Bool) × Bool)) (h : mach L n fuel s f = .st (.ops (some (S, ⟨b, some (x, q, listed)⟩)) κ all dec []) f')
    (ho : altsOk all x q listed ts = true) (hS : S w)
    (hk : AllAlt (fun t => DenS P n (bodyPost P fn R) (.ops (some (S, altEx all x q listed t)) κ all dec (selK all.toList t.1)) f' w) ts) : DenS P n (bodyPost P fn R) s f w := by
  refine go hT h ?_
  show ClosedL .any all listed → _
  intro hcl
  refine OR_alt ho (fun c a d v w hp => ?_) hcl hS fun t ht => (hk.get t ht).out
  rw [post_panic] at hp ⊢
  exact ⟨by simpa [Act.put] using (show (a.put d v).defers = [] from hp.1) |> fun h => by cases d <;> simpa [Act.put] using h, hp.2⟩
/-- It comes to its end. -/
theorem go_end (hT : TOk P L) {fn : Func} {R : Ending → World → Prop} {rs : List ResultVar} (vs : List Value) (h : mach L n fuel s f = .nrm [] f') (hr : fn.results = rs.toArray) (hv : resL P n f' w rs vs) (hR : R (.returned (tup vs)) w) : DenS P n (bodyPost P fn R) s f w :=
  go hT h (by
    show (bodyPost P fn R) .normal (act n f') w
    exact ⟨rfl, _, run_results hr hv, hR⟩)

end
end Go.Proofs.YtjcolfogmmjaoaaGreatDoor.V
end
