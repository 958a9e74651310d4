import Derived.Test.YtjcolfogmmjaoaaDoorQValueMusts9
import Derived.Tactics
import Derived.Tactics2
import Derived.Defers
import Derived.Recover
import Derived.Laws.Pointers
import Derived.Laws.NewBlocks
import Derived.Test.YtjcolfogmmjaoaaDoorQValueMusts8
section
/- Layer 9: must, with the panic and its recovery. -/
set_option linter.unusedVariables false
set_option linter.unusedSimpArgs false
set_option maxRecDepth 100000
set_option maxHeartbeats 1000000
namespace Go.Proofs.YtjcolfogmmjaoaaDoor
open V A
def ptrOk (P : Program) (t : TypeId) : Bool := match P.underlying t with
  | some (.pointer _) => true
  | _ => false
theorem tae_ok : ptrOk Tryd.prog Tryd.prog.rt.typeAssertionError = true := by kernel_rfl
theorem must_no {x : Value} (hx : x = .nilIface ∨ ∃ t' u, x = .iface t' u ∧ t' ≠ 30) (w : World) : ∃ u pv o, (Instr.typeAssert x 34 30 false).run Tryd.prog w = .halt (.panic (.iface u pv)) (w.alloc o) := by
  obtain ⟨d, hd, hne⟩ := noIfc hT (t := 30) (fun e => by cases e) (fun e => by cases e)
  have hp := tae_ok
  unfold ptrOk at hp
  split at hp
  · rename_i e he
    unfold Instr.typeAssert
    simp only [Sem.run_bind, underlying, run_program, Result.andThen_ok, hd, Sem.run_pure]
    rcases hx with rfl | ⟨t', u, rfl, htt⟩
    · cases d <;> first | exact absurd rfl (hne _) | (simp [runtimePanic, elemOf, underlying, he, newVar, newRow, goPanic]; exact ⟨_, rfl⟩)
    · cases d <;> first | exact absurd rfl (hne _) | (simp [htt, runtimePanic, elemOf, underlying, he, newVar, newRow, goPanic]; exact ⟨_, rfl⟩)
  · cases hp
theorem Must_panics {x : Value} (hx : x = .nilIface ∨ ∃ t' u, x = .iface t' u ∧ t' ≠ 30) (w : World) :
    Calls Tryd.prog 23 #[x] w fun e w' => ∃ u pv o o2, e = .panicked [{ v := .iface u pv, recovered := false }] ∧ w' = (w.alloc o).alloc o2 := by
  obtain ⟨u, pv, o, ho⟩ := must_no hx (w.alloc (Obj.cells #[Value.int IntKind.i64 0, Value.slice none 0 0, Value.string { data := #[] }] 30))
  go_enter Tryd.func23, Tryd.ntmps23
  go_wp2
  simp [bodyPost]
  exact ⟨_, _, rfl⟩
theorem catch_panicking (p : Addr) (x : Bool) (u : TypeId) (pv : Value) (older : List PanicEntry) (w : World) (hc : w.cell? p = some (.bool x)) (hz : w.frozen? p = false) :
    CallsD Tryd.prog 22 #[.pointer (some p)] (.panicking ({ v := .iface u pv, recovered := false } :: older)) w fun e u' w' =>
      e = .returned (.tuple #[]) ∧ u' = .panicking ({ v := .iface u pv, recovered := true } :: older) ∧ w' = w.setCell p (.bool true) := by
  refine callsD_of_wpS Tryd.func22 rfl fun c₀ cs hu => ?_
  apply wpS_seq
  apply wpS_region
  simp [wpOpsS, go_sem, recoverD, hu, Tryd.ntmps22, Exit.thenS]
  refine wpS_cond (t := true) (by simp [Act.eval, Array.replicate]) ?_
  simp only [if_true]
  apply wpS_region
  simp [wpOpsS, go_sem, hc, hz, bodyPostS, results, Tryd.results22]
theorem catch_idle (p : Addr) (w : World) :
    CallsD Tryd.prog 22 #[.pointer (some p)] .returning w fun e u' w' => e = .returned (.tuple #[]) ∧ u' = .returning ∧ w' = w := by
  refine callsD_of_wpS Tryd.func22 rfl fun c₀ cs hu => ?_
  apply wpS_seq
  apply wpS_region
  simp [wpOpsS, go_sem, recoverD, hu, Tryd.ntmps22, Exit.thenS]
  refine wpS_cond (t := false) (by simp [Act.eval, Array.replicate]) ?_
  simp only [Bool.false_eq_true, if_false]
  refine wpS_of_wp (wp_skip ?_)
  cases c₀
  simp_all [bodyPostS, results, Tryd.results22]
theorem must_panics {x : Value} (hx : x = .nilIface ∨ ∃ t' u, x = .iface t' u ∧ t' ≠ 30) (w : World) :
    Calls Tryd.prog 8 #[x] w fun e w' => e = .returned (.tuple #[.agg #[.int .i64 0, .slice none 0 0, .string ByteArray.empty], .bool true]) ∧ Ev no w w' := by
  have hmf : ∀ (fn : Fn) (first cap : Array Value) (w : World), (Instr.makeFunc fn first cap).run Tryd.prog w = .ok (.func fn first cap) w := fun _ _ _ _ => rfl
  go_enter_defers Tryd.func8, Tryd.ntmps8
  go_wp2_with (go_at_call 23; refine (Must_panics hx _).mono ?_; rintro e w' ⟨u, pv, o, o2, rfl, rfl⟩)
  refine leaves_cons (f := 22) (args := #[.pointer (some ⟨w.heap.size + 1, 0, none⟩)]) (by simp) (by simp [go_sem]) ?_
  clear hmf
  generalize hwa : w.alloc (Obj.cells #[Value.int IntKind.i64 0, Value.slice none 0 0, Value.string { data := #[] }] 30) = wa
  have hsa : wa.heap.size = w.heap.size + 1 := by rw [← hwa]; simp
  have ha : ∀ i, wa.cell? ⟨w.heap.size, i, none⟩ = #[Value.int IntKind.i64 0, Value.slice none 0 0, Value.string { data := #[] }][i]? := fun i => by rw [← hwa]; exact World.cell?_alloc_at _ _ _ _ rfl
  have hea : Ev no w wa := by rw [← hwa]; exact Ev.alloc _ _
  generalize hwb : wa.alloc (Obj.cells #[Value.bool false] 4) = wb
  have hsb : wb.heap.size = w.heap.size + 2 := by rw [← hwb]; simp [hsa]
  have hb : wb.cell? ⟨w.heap.size + 1, 0, none⟩ = some (.bool false) := by rw [← hwb, World.cell?_alloc_at _ _ _ _ hsa.symm]; rfl
  have hbf : wb.frozen? ⟨w.heap.size + 1, 0, none⟩ = false := by rw [← hwb, World.frozen?_alloc_at _ _ _ _ hsa.symm]
  have heb : Ev no wa wb := by rw [← hwb]; exact Ev.alloc _ _
  generalize hwc : (wb.alloc o).alloc o2 = wc
  have hec : Ev no wb wc := by rw [← hwc]; exact (Ev.alloc _ _).trans (Ev.alloc _ _)
  have hc : wc.cell? ⟨w.heap.size + 1, 0, none⟩ = some (.bool false) := hec.cell hb id
  have hcf : wc.frozen? ⟨w.heap.size + 1, 0, none⟩ = false := by rw [← hwc, World.frozen?_alloc_past _ _ _ (by simp; omega), World.frozen?_alloc_past _ _ _ (by omega)]; exact hbf
  have hcm : ∀ i x, #[Value.int IntKind.i64 0, Value.slice none 0 0, Value.string { data := #[] }][i]? = some x → wc.cell? ⟨w.heap.size, i, none⟩ = some x := fun i x hx => hec.cell (heb.cell (by rw [ha, hx]) id) id
  clear hwa hwb hwc
  refine (catch_panicking ⟨w.heap.size + 1, 0, none⟩ false u pv [] _ hc hcf).mono ?_
  rintro e u' w'' ⟨rfl, rfl, rfl⟩
  have hd0 : (wc.setCell ⟨w.heap.size + 1, 0, none⟩ (.bool true)).cell? ⟨w.heap.size + 1, 0, none⟩ = some (.bool true) := World.cell?_setCell_same _ _ _ hc
  have hdm : ∀ i x, #[Value.int IntKind.i64 0, Value.slice none 0 0, Value.string { data := #[] }][i]? = some x → (wc.setCell ⟨w.heap.size + 1, 0, none⟩ (.bool true)).cell? ⟨w.heap.size, i, none⟩ = some x := fun i x hx => by rw [World.cell?_setCell_other _ _ _ _ (by simp)]; exact hcm i x hx
  have hed : Ev no w (wc.setCell ⟨w.heap.size + 1, 0, none⟩ (.bool true)) := ((hea.trans heb).trans hec).then (Ev.setCell _ _ _) fun i hi h => by unfold at1 at h; simp at h; omega
  generalize wc.setCell ⟨w.heap.size + 1, 0, none⟩ (.bool true) = wd at hd0 hdm hed
  have h0 := hdm 0 _ rfl
  have h1 := hdm 1 _ rfl
  have h2 := hdm 2 _ rfl
  simp [Leaves, settle, results, Tryd.results8, go_sem, hd0, h0, h1, h2]
  exact ⟨rfl, hed⟩
theorem Must_tells {t : Int} {A : Option Addr} {n c : Nat} {s : ByteArray} (w : World) :
    Calls Tryd.prog 23 #[.iface 30 (.agg #[.int .i64 t, .slice A n c, .string s])] w fun e w' => e = .returned (.agg #[.int .i64 t, .slice A n c, .string s]) ∧ w' = w.alloc (.cells #[.int .i64 t, .slice A n c, .string s] 30) := by
  have hm : ∀ w, (Instr.typeAssert (.iface 30 (.agg #[.int .i64 t, .slice A n c, .string s])) 34 30 false).run Tryd.prog w = .ok (.agg #[.int .i64 t, .slice A n c, .string s]) w := by
    obtain ⟨d, hd, hne⟩ := noIfc hT (t := 30) (fun e => by cases e) (fun e => by cases e)
    intro w
    unfold Instr.typeAssert
    simp only [Sem.run_bind, underlying, run_program, Result.andThen_ok, hd, Sem.run_pure]
    cases d <;> first | exact absurd rfl (hne _) | simp
  go_enter Tryd.func23, Tryd.ntmps23
  go_wp2
  simp [bodyPost, results, Tryd.results23, go_sem]
theorem door_world {w w' : World} {o : Obj} (h : w' = ((w.alloc (Obj.cells #[Value.int IntKind.i64 0, Value.slice none 0 0, Value.string { data := #[] }] 30)).alloc (Obj.cells #[Value.bool false] 4)).alloc o) :
    (w'.cell? ⟨w.heap.size, 0, none⟩ = some (.int .i64 0) ∧ w'.cell? ⟨w.heap.size, 1, none⟩ = some (.slice none 0 0) ∧ w'.cell? ⟨w.heap.size, 2, none⟩ = some (.string { data := #[] }) ∧ w'.cell? ⟨w.heap.size + 1, 0, none⟩ = some (.bool false)) ∧
    (w'.frozen? ⟨w.heap.size, 0, none⟩ = false ∧ w'.frozen? ⟨w.heap.size, 1, none⟩ = false ∧ w'.frozen? ⟨w.heap.size, 2, none⟩ = false ∧ w'.frozen? ⟨w.heap.size + 1, 0, none⟩ = false) ∧ Ev no w w' := by
  generalize hwa : w.alloc (Obj.cells #[Value.int IntKind.i64 0, Value.slice none 0 0, Value.string { data := #[] }] 30) = wa at h
  have hsa : wa.heap.size = w.heap.size + 1 := by rw [← hwa]; simp
  have ha : ∀ i, wa.cell? ⟨w.heap.size, i, none⟩ = #[Value.int IntKind.i64 0, Value.slice none 0 0, Value.string { data := #[] }][i]? := fun i => by rw [← hwa]; exact World.cell?_alloc_at _ _ _ _ rfl
  have haf : ∀ i, wa.frozen? ⟨w.heap.size, i, none⟩ = false := fun i => by rw [← hwa]; exact World.frozen?_alloc_at _ _ _ _ rfl
  have hea : Ev no w wa := by rw [← hwa]; exact Ev.alloc _ _
  generalize hwb : wa.alloc (Obj.cells #[Value.bool false] 4) = wb at h
  have hsb : wb.heap.size = w.heap.size + 2 := by rw [← hwb]; simp [hsa]
  have hb : wb.cell? ⟨w.heap.size + 1, 0, none⟩ = some (.bool false) := by rw [← hwb, World.cell?_alloc_at _ _ _ _ hsa.symm]; rfl
  have hbf : wb.frozen? ⟨w.heap.size + 1, 0, none⟩ = false := by rw [← hwb, World.frozen?_alloc_at _ _ _ _ hsa.symm]
  have hbaf : ∀ i, wb.frozen? ⟨w.heap.size, i, none⟩ = false := fun i => by rw [← hwb, World.frozen?_alloc_past _ _ _ (by omega)]; exact haf i
  have heb : Ev no wa wb := by rw [← hwb]; exact Ev.alloc _ _
  have hec : Ev no wb w' := by rw [h]; exact Ev.alloc _ _
  have hcm : ∀ i x, #[Value.int IntKind.i64 0, Value.slice none 0 0, Value.string { data := #[] }][i]? = some x → w'.cell? ⟨w.heap.size, i, none⟩ = some x := fun i x hx => hec.cell (heb.cell (by rw [ha, hx]) id) id
  have hcf : ∀ a i, a < wb.heap.size → wb.frozen? ⟨a, i, none⟩ = false → w'.frozen? ⟨a, i, none⟩ = false := fun a i h1 h2 => by rw [h, World.frozen?_alloc_past _ _ _ h1]; exact h2
  exact ⟨⟨hcm 0 _ rfl, hcm 1 _ rfl, hcm 2 _ rfl, hec.cell hb id⟩, ⟨hcf _ _ (by omega) (hbaf 0), hcf _ _ (by omega) (hbaf 1), hcf _ _ (by omega) (hbaf 2), hcf _ _ (by omega) hbf⟩, (hea.trans heb).trans hec⟩
theorem must_tells {t : Int} {A : Option Addr} {n c : Nat} {s : ByteArray} (w : World) :
    Calls Tryd.prog 8 #[.iface 30 (.agg #[.int .i64 t, .slice A n c, .string s])] w fun e w' => e = .returned (.tuple #[.agg #[.int .i64 t, .slice A n c, .string s], .bool false]) ∧ Ev no w w' := by
  have hmf : ∀ (fn : Fn) (first cap : Array Value) (w : World), (Instr.makeFunc fn first cap).run Tryd.prog w = .ok (.func fn first cap) w := fun _ _ _ _ => rfl
  go_enter_defers Tryd.func8, Tryd.ntmps8
  go_wp2_with (go_at_call 23; refine (Must_tells _).mono ?_; rintro e w' ⟨rfl, hw'⟩; obtain ⟨⟨c0, c1, c2, c3⟩, ⟨f0, f1, f2, f3⟩, hev⟩ := door_world hw'; clear hw')
  refine leaves_cons (f := 22) (args := #[.pointer (some ⟨w.heap.size + 1, 0, none⟩)]) (by simp) (by simp [go_sem]) ?_
  refine (catch_idle ⟨w.heap.size + 1, 0, none⟩ _).mono ?_
  rintro e u' w'' ⟨rfl, rfl, rfl⟩
  have hne : ∀ i : Nat, (⟨w.heap.size + 1, 0, none⟩ : Addr) ≠ ⟨w.heap.size, i, none⟩ := fun i h => by injection h with h1 _ _; omega
  have hne' : ∀ i : Nat, (⟨w.heap.size, i, none⟩ : Addr) ≠ ⟨w.heap.size + 1, 0, none⟩ := fun i h => hne i h.symm
  have hij : ∀ i j : Nat, i ≠ j → (⟨w.heap.size, i, none⟩ : Addr) ≠ ⟨w.heap.size, j, none⟩ := fun i j h e => by injection e with _ h2 _; exact h h2
  have hw1 : Ev (fun b => b = w.heap.size ∨ b = w.heap.size + 1) w' ((((w'.setCell ⟨w.heap.size, 0, none⟩ (.int .i64 t)).setCell ⟨w.heap.size, 1, none⟩ (.slice A n c)).setCell ⟨w.heap.size, 2, none⟩ (.string s)).setCell ⟨w.heap.size + 1, 0, none⟩ (.bool false)) :=
    ((((Ev.setCell _ _ _).mono fun b _ h => .inl (by simpa [at1] using h)).trans ((Ev.setCell _ _ _).mono fun b _ h => .inl (by simpa [at1] using h))).trans ((Ev.setCell _ _ _).mono fun b _ h => .inl (by simpa [at1] using h))).trans ((Ev.setCell _ _ _).mono fun b _ h => .inr (by simpa [at1] using h))
  have hev2 := hev.then hw1 fun i hi h => by rcases h with h | h <;> omega
  have g0 : ((((w'.setCell ⟨w.heap.size, 0, none⟩ (.int .i64 t)).setCell ⟨w.heap.size, 1, none⟩ (.slice A n c)).setCell ⟨w.heap.size, 2, none⟩ (.string s)).setCell ⟨w.heap.size + 1, 0, none⟩ (.bool false)).cell? ⟨w.heap.size, 0, none⟩ = some (.int .i64 t) := by
    rw [World.cell?_setCell_other _ _ _ _ (hne 0), World.cell?_setCell_other _ _ _ _ (hij 2 0 (by decide)), World.cell?_setCell_other _ _ _ _ (hij 1 0 (by decide)), World.cell?_setCell_same _ _ _ c0]
  have g1 : ((((w'.setCell ⟨w.heap.size, 0, none⟩ (.int .i64 t)).setCell ⟨w.heap.size, 1, none⟩ (.slice A n c)).setCell ⟨w.heap.size, 2, none⟩ (.string s)).setCell ⟨w.heap.size + 1, 0, none⟩ (.bool false)).cell? ⟨w.heap.size, 1, none⟩ = some (.slice A n c) := by
    rw [World.cell?_setCell_other _ _ _ _ (hne 1), World.cell?_setCell_other _ _ _ _ (hij 2 1 (by decide)), World.cell?_setCell_same _ _ _ (u := .slice none 0 0) (by rw [World.cell?_setCell_other _ _ _ _ (hij 0 1 (by decide))]; exact c1)]
  have g2 : ((((w'.setCell ⟨w.heap.size, 0, none⟩ (.int .i64 t)).setCell ⟨w.heap.size, 1, none⟩ (.slice A n c)).setCell ⟨w.heap.size, 2, none⟩ (.string s)).setCell ⟨w.heap.size + 1, 0, none⟩ (.bool false)).cell? ⟨w.heap.size, 2, none⟩ = some (.string s) := by
    rw [World.cell?_setCell_other _ _ _ _ (hne 2), World.cell?_setCell_same _ _ _ (u := .string { data := #[] }) (by rw [World.cell?_setCell_other _ _ _ _ (hij 1 2 (by decide)), World.cell?_setCell_other _ _ _ _ (hij 0 2 (by decide))]; exact c2)]
  have g3 : ((((w'.setCell ⟨w.heap.size, 0, none⟩ (.int .i64 t)).setCell ⟨w.heap.size, 1, none⟩ (.slice A n c)).setCell ⟨w.heap.size, 2, none⟩ (.string s)).setCell ⟨w.heap.size + 1, 0, none⟩ (.bool false)).cell? ⟨w.heap.size + 1, 0, none⟩ = some (.bool false) := World.cell?_setCell_same _ _ _ (u := .bool false) (by rw [World.cell?_setCell_other _ _ _ _ (hne' 2), World.cell?_setCell_other _ _ _ _ (hne' 1), World.cell?_setCell_other _ _ _ _ (hne' 0)]; exact c3)
  generalize (((w'.setCell ⟨w.heap.size, 0, none⟩ (.int .i64 t)).setCell ⟨w.heap.size, 1, none⟩ (.slice A n c)).setCell ⟨w.heap.size, 2, none⟩ (.string s)).setCell ⟨w.heap.size + 1, 0, none⟩ (.bool false) = wd at g0 g1 g2 g3 hev2
  simp [Leaves, settle, results, Tryd.results8, go_sem, g0, g1, g2, g3]
  exact hev2
def mustA : VL → AV
  | .msg t fs s => .tup [.agg [.v (kI t) 0, .d (.sl 2 (vfsD fs)), .v (.string s) 0], bA false]
  | _ => .tup [.agg [.v (kI 0) 0, .v (.slice none 0 0) 0, .v (.string .empty) 0], bA true]
theorem must_spec {v : VL} : FSpec Tryd.prog 8 [.d (vlD v)] [] fun a cs => a = mustA v ∧ cs = [] := by
  refine ⟨fun X S w xs h1 h2 h3 h4 => ?_⟩
  unfold Reps at h4
  obtain ⟨x, r, rfl, hx, hr⟩ := h4
  unfold Reps at hr
  subst hr
  have key : (∃ t fs s, v = .msg t fs s) ∨ (mustA v = .tup [.agg [.v (kI 0) 0, .v (.slice none 0 0) 0, .v (.string .empty) 0], bA true] ∧ ifcNot 30 (.d (vlD v)) = true) := by
    cases v with
    | msg t fs s => exact .inl ⟨t, fs, s, rfl⟩
    | _ => exact .inr ⟨rfl, rfl⟩
  rcases key with ⟨t, fs, s, rfl⟩ | ⟨hm, hn⟩
  · unfold Rep vlD DRep at hx
    obtain ⟨u, rfl, hu, _, hv⟩ := hx
    have hu := hu rfl
    unfold A.VRep at hv
    obtain ⟨x0, r, e0, hx0, hv⟩ := hv
    unfold A.VRep at hv
    obtain ⟨x1, r, rfl, hx1, hv⟩ := hv
    unfold A.VRep at hv
    obtain ⟨x2, r, rfl, hx2, hv⟩ := hv
    unfold A.VRep at hv
    subst hv
    have hx1' := hx1
    unfold DRep at hx0 hx1 hx2
    obtain ⟨rfl, _⟩ := hx0
    obtain ⟨A, c, rfl, _⟩ := hx1
    obtain ⟨rfl, _⟩ := hx2
    have hu2 : u = .agg #[kI t, .slice A (vfsD fs).length c, .string s] := by
      rw [hu]
      congr 1
      apply Array.ext'
      simpa using e0
    clear hu e0
    subst hu2
    refine (must_tells w).mono fun e w' ⟨he, hev⟩ => ⟨_, _, [], S, he, ⟨rfl, rfl⟩, ?_, ?_, hev.no, fun b hb => .inl hb⟩
    · unfold mustA Rep
      refine ⟨_, rfl, Reps.cons ?_ (Reps.cons mk_v Reps.nil)⟩
      unfold Rep
      refine ⟨[kI t, .slice A (vfsD fs).length c, .string s], rfl, Reps.cons mk_v (Reps.cons ?_ (Reps.cons mk_v Reps.nil)), ?_⟩
      · unfold Rep
        exact DRep.ev hev (fun b _ h => h.elim (fun h => h.elim) id) hx1'
      · intro u hu
        simp at hu
        rcases hu with rfl | rfl | rfl <;> rfl
    · exact h3
  · have hx2 := ifcNot_rep hn hx
    refine (must_panics hx2 w).mono fun e w' ⟨he, hev⟩ => ⟨_, _, [], S, he, ⟨rfl, rfl⟩, ?_, ?_, hev.no, fun b hb => .inl hb⟩
    · rw [hm]
      unfold Rep
      refine ⟨_, rfl, Reps.cons ?_ (Reps.cons mk_v Reps.nil)⟩
      unfold Rep
      refine ⟨[kI 0, .slice none 0 0, .string .empty], rfl, Reps.cons mk_v (Reps.cons mk_v (Reps.cons mk_v Reps.nil)), ?_⟩
      intro u hu
      simp at hu
      rcases hu with rfl | rfl | rfl <;> rfl
    · exact h3
end Go.Proofs.YtjcolfogmmjaoaaDoor
end

section
/- Layer 9: awake. -/
set_option linter.unusedVariables false
set_option linter.unusedSimpArgs false
set_option maxRecDepth 100000
set_option maxHeartbeats 1000000
namespace Go.Proofs.YtjcolfogmmjaoaaDoor
open V A
theorem Split0_spec : FSpec Tryd.prog 47 [.d (.sl 1 [])] [] fun a cs => a = .tup [.v (.slice none 0 0) 0, .v (.slice none 0 0) 0, .v (kI 0) 0] ∧ cs = [] := by
  refine a_enter hT [.d (.sl 1 [])] [] Tryd.func47 rfl rfl rfl ⟨Fit.refl _, trivial⟩ fun c' => ?_
  refine a_loop hT [0, 2, 3] (fun _ : Unit => [.d (.sl 1 []), .v (.slice none 0 0) 0, .v (.slice none 0 0) 0]) (fun _ => []) (fun _ => True) (fun _ => 0) () [] rfl rfl trivial ⟨rfl, rfl, rfl, trivial⟩ rfl trivial ?_
  rintro _ _
  refine a_f hT rfl rfl rfl ?_
  refine a_ret hT [] rfl rfl rfl rfl rfl rfl ?_
  first | exact ⟨rfl, rfl⟩ | rfl
theorem IndexF0_spec {f : FuncId} {cap : List AV} : FSpec Tryd.prog 80 [.v (.slice none 0 0) 0, .fn f cap] [] fun a cs => a = .v (kI (-1)) 0 ∧ cs = [] := by
  refine a_enter hT [.v (.slice none 0 0) 0, .fn f cap] [] Tryd.func80 rfl rfl rfl ⟨rfl, Fit.refl _, trivial⟩ fun c' => ?_
  refine a_loop hT [0, 1, 7, 8] (fun _ : Unit => [.v (.slice none 0 0) 0, .fn f cap, .v (kI 0) 0, .v (kI 0) 0]) (fun _ => []) (fun _ => True) (fun _ => 0) () [] rfl rfl trivial ⟨rfl, Fit.refl _, rfl, rfl, trivial⟩ rfl trivial ?_
  rintro _ _
  refine a_f hT rfl rfl rfl ?_
  refine a_ret hT [] rfl rfl rfl rfl rfl rfl ?_
  first | exact ⟨rfl, rfl⟩ | rfl
theorem ContainsF0_spec {f : FuncId} {cap : List AV} : FSpec Tryd.prog 52 [.v (.slice none 0 0) 0, .fn f cap] [] fun a cs => a = bA false ∧ cs = [] := by
  refine a_enter hT [.v (.slice none 0 0) 0, .fn f cap] [] Tryd.func52 rfl rfl rfl ⟨rfl, Fit.refl _, trivial⟩ fun c' => ?_
  have hF := IndexF0_spec (f := f) (cap := cap)
  refine a_call hT rfl rfl rfl (by kernel_rfl) hF [] [] rfl rfl ?_
  rintro _ _ ⟨rfl, rfl⟩
  refine a_ret hT [] rfl rfl rfl rfl rfl rfl ?_
  first | exact ⟨rfl, rfl⟩ | rfl
def mA : MDP := ⟨mkS [65], []⟩
def s0 : SchP := ⟨[mA], [], []⟩
theorem fits0_spec : FSpec Tryd.prog 31 [schA s0, .v (kI 0) 0, .d (vlD (.msg 0 [] .empty)), .v (kI 1) 0] [] fun a cs => a = bA true ∧ cs = [] := by
  have hS := Split0_spec
  refine a_enter hT [schA s0, .v (kI 0) 0, .d (vlD (.msg 0 [] .empty)), .v (kI 1) 0] [] Tryd.func31 rfl rfl rfl ⟨Fit.refl _, rfl, Fit.refl _, rfl, trivial⟩ fun c' => ?_
  refine a_box hT 20 rfl rfl rfl rfl fun g => ?_
  refine a_new hT hZ 21 rfl rfl rfl rfl fun g1 => ?_
  refine a_gf hT rfl rfl rfl rfl ?_
  refine a_gf hT rfl rfl rfl rfl ?_
  refine a_f hT rfl rfl rfl ?_
  refine a_ix hT _ rfl rfl rfl rfl rfl rfl (by first | omega | assumption) (by first | assumption | rfl) ?_
  refine a_new hT hZ 22 rfl rfl rfl rfl fun g2 => ?_
  refine a_bytes hT rfl rfl rfl rfl rfl rfl rfl (by decide) ?_
  have hS : FSpec Tryd.prog 47 [.d (bytesD ByteArray.empty.data.toList)] [] fun a cs => a = .tup [.v (.slice none 0 0) 0, .v (.slice none 0 0) 0, .v (kI 0) 0] ∧ cs = [] := Split0_spec
  have hC := ContainsF0_spec (f := 53) (cap := [.v (.pointer (some ⟨g2, 0, none⟩)) 22])
  refine a_call hT rfl rfl rfl (by kernel_rfl) hS [] [] rfl rfl ?_
  rintro _ _ ⟨rfl, rfl⟩
  refine a_gf hT rfl rfl rfl rfl ?_
  refine a_call hT rfl rfl rfl (by kernel_rfl) hC [] [] rfl rfl ?_
  rintro _ _ ⟨rfl, rfl⟩
  refine a_f hT rfl rfl rfl ?_
  refine a_loop hT [60, 61, 62] (fun _ : Unit => [.d (.sl 2 (vfsD [])), .v (kI 0) 0, .v (kI 0) 0]) (fun _ => []) (fun _ => True) (fun _ => 0) () [] rfl rfl trivial ⟨rfl, rfl, rfl, trivial⟩ rfl trivial ?_
  rintro _ _
  refine a_f hT rfl rfl rfl ?_
  refine a_ret hT [] rfl rfl rfl rfl rfl rfl ?_
  first | exact ⟨rfl, rfl⟩ | rfl
theorem plain_s0 : Plain0 s0 := ⟨rfl, rfl, by decide, by decide, by decide, by decide, by decide⟩
theorem formed_s0 : formedS s0.ms = true := by kernel_rfl
theorem Fits0_spec : FSpec Tryd.prog 19 [schA s0, .v (kI 0) 0, .d (vlD (.msg 0 [] .empty))] [] fun a cs => a = bA true ∧ cs = [] := by
  have hF := Formed0_spec (ms := s0.ms) plain_s0
  rw [formed_s0] at hF
  refine a_enter hT [schA s0, .v (kI 0) 0, .d (vlD (.msg 0 [] .empty))] [] Tryd.func19 rfl rfl rfl ⟨Fit.refl _, rfl, Fit.refl _, trivial⟩ fun c' => ?_
  have hf := fits0_spec
  refine a_box hT 20 rfl rfl rfl rfl fun g => ?_
  refine a_call hT rfl rfl rfl (by kernel_rfl) hF [] [] rfl rfl ?_
  rintro _ _ ⟨rfl, rfl⟩
  refine a_gt hT rfl rfl rfl rfl ?_
  refine a_gt hT rfl rfl rfl rfl ?_
  refine a_gt hT rfl rfl rfl rfl ?_
  refine a_call hT rfl rfl rfl (by kernel_rfl) hf [] [] rfl rfl ?_
  rintro _ _ ⟨rfl, rfl⟩
  refine a_ret hT [] rfl rfl rfl rfl rfl rfl ?_
  first | exact ⟨rfl, rfl⟩ | rfl
theorem UintKind_spec {n : Int} : FSpec Tryd.prog 20 [.v (kU n) 0] [] fun a cs => a = .v (kI 2) 0 ∧ cs = [] := by
  refine a_enter hT [.v (kU n) 0] [] Tryd.func20 rfl rfl rfl ⟨rfl, trivial⟩ fun c' => ?_
  refine a_ret hT [] rfl rfl rfl rfl rfl rfl ?_
  first | exact ⟨rfl, rfl⟩ | rfl
theorem le_s0 : Le (.agg [.d (.sl 2 [[.v (.string (mkS [65])), .v (.slice none 0 0)]]), .v (.slice none 0 0) 0, .v (.slice none 0 0) 0]) (schA s0) :=
  Le.agg (.cons (DLe.le (DLe.sl (.cons (.cons (DLe.refl _) (.cons (DLe.nil 5) .nil)) .nil))) (.cons le_nil (.cons le_nil .nil)))
theorem awake9_spec : FSpec Tryd.prog 6 [] [] fun a cs => a = bA true ∧ cs = [] := by
  refine a_enter hT [] [] Tryd.func6 rfl rfl rfl trivial fun c' => ?_
  have hF := Fits0_spec
  have hU := UintKind_spec (n := 5)
  refine a_build hT hZ [.v (.string (mkS [65])) 0, .v (.slice none 0 0) 0] rfl rfl rfl rfl rfl rfl ?_
  refine a_lit hT 20 rfl rfl rfl rfl (by kernel_rfl) rfl rfl rfl rfl fun x20 => ?_
  refine a_freeze 2 20 rfl rfl rfl rfl ?_
  refine a_build hT hZ [.d (.sl 2 [[.v (.string (mkS [65])), .v (.slice none 0 0)]]), .v (.slice none 0 0) 0, .v (.slice none 0 0) 0] rfl rfl rfl rfl rfl rfl ?_
  refine a_asL 3 rfl le_s0 ?_
  refine a_build hT hZ [.v (.int .i64 0) 0, .v (.slice none 0 0) 0, .v (.string .empty) 0] rfl rfl rfl rfl rfl rfl ?_
  refine a_run hT 1 rfl rfl ?_
  refine a_asL 5 (b := .d (vlD (.msg 0 [] .empty))) rfl (Le.trans (le_ifcA rfl) (DLe.le (DLe.ifc (.cons (DLe.refl _) (.cons (DLe.nil 2) (.cons (DLe.refl _) .nil)))))) ?_
  refine a_call hT rfl rfl rfl (by kernel_rfl) hF [] [] rfl rfl ?_
  rintro _ _ ⟨rfl, rfl⟩
  refine a_gt hT rfl rfl rfl rfl ?_
  refine a_call hT rfl rfl rfl (by kernel_rfl) hU [] [] rfl rfl ?_
  rintro _ _ ⟨rfl, rfl⟩
  refine a_ret hT [] rfl rfl rfl rfl rfl rfl ?_
  first | exact ⟨rfl, rfl⟩ | rfl
end Go.Proofs.YtjcolfogmmjaoaaDoor
end

section
/- Layer 9: ValueMusts. -/
set_option linter.unusedVariables false
set_option linter.unusedSimpArgs false
set_option maxRecDepth 100000
set_option maxHeartbeats 1000000
namespace Go.Proofs.YtjcolfogmmjaoaaDoor
open V A
theorem bdLeaf {k n u : Int} {b : Bool} {s : ByteArray} (h : s.size ≤ reachN) : BdN (.mk k n u b s 0 []) := .mk h (Nat.zero_le _) (fun _ _ h => by simp at h) (fun _ _ _ h => by simp at h)
mutual
theorem bdC : ∀ (x : ND), BdN x → BdN (oursP (theirsP x))
  | .mk k n u b s t fs, h => by
    cases h with
    | mk hs hl hvl hv =>
    have he : ByteArray.empty.size ≤ reachN := by decide
    unfold theirsP
    split
    · exact bdLeaf he
    split
    · exact bdLeaf he
    split
    · exact bdLeaf he
    split
    · exact bdLeaf hs
    split
    · exact bdLeaf hs
    split
    · exact bdLeaf he
    split
    · unfold oursP
      refine .mk hs (by rw [oursFs_map, List.length_map, theirsFs_map, List.length_map]; exact hl) (fun num vs hm => ?_) (fun num vs x hm hx => bdC_fs fs hv num vs x hm hx)
      rw [oursFs_map, theirsFs_map, List.map_map] at hm
      obtain ⟨f, hf, he⟩ := List.mem_map.1 hm
      obtain ⟨num', vs'⟩ := f
      simp only [Function.comp] at he
      unfold theirsF oursF at he
      cases he
      rw [oursVs_map, List.length_map, theirsVs_map, List.length_map]
      exact hvl _ _ hf
    · exact bdLeaf he
theorem bdC_fs : ∀ (fs : List NF), (∀ num vs x, NF.mk num vs ∈ fs → x ∈ vs → BdN x) → ∀ num vs x, NF.mk num vs ∈ oursFs (theirsFs fs) → x ∈ vs → BdN x
  | [], hv, num, vs, x, hm, hx => by unfold theirsFs oursFs at hm; simp at hm
  | .mk n' vs' :: fs, hv, num, vs, x, hm, hx => by
    unfold theirsFs oursFs at hm
    rcases List.mem_cons.1 hm with he | hm
    · unfold theirsF oursF at he
      cases he
      exact bdC_vs vs' (fun x hx => hv n' vs' x (by simp) hx) x hx
    · exact bdC_fs fs (fun num vs x hm hx => hv num vs x (by simp [hm]) hx) num vs x hm hx
theorem bdC_vs : ∀ (vs : List ND), (∀ x ∈ vs, BdN x) → ∀ x ∈ oursVs (theirsVs vs), BdN x
  | [], hv, x, hx => by unfold theirsVs oursVs at hx; simp at hx
  | y :: vs, hv, x, hx => by
    unfold theirsVs oursVs at hx
    rcases List.mem_cons.1 hx with rfl | hx
    · exact bdC y (hv y (by simp))
    · exact bdC_vs vs (fun x hx => hv x (by simp [hx])) x hx
end
theorem Same_refl_spec {z : ND} (hz : BdN z) : FSpec Tryd.prog 10 [ndA z, ndA z] [] fun a cs => a = bA true ∧ cs = [] := by
  have := Same_spec hz (y := z)
  rw [sameN_refl] at this
  exact this
theorem notmsg {k n u : Int} {b : Bool} {s : ByteArray} {t : Int} {fs : List NF} (hk : k ≠ 7) : mustA (theirsP (.mk k n u b s t fs)) = .tup [.agg [.v (kI 0) 0, .v (.slice none 0 0) 0, .v (.string .empty) 0], bA true] ∧ ∀ num, getP (theirsP (.mk k n u b s t fs)) num = [] := by
  unfold theirsP
  rw [if_neg hk]
  repeat' split
  all_goals exact ⟨rfl, fun _ => rfl⟩
theorem valueMusts_walk {x : ND} {num : Int} (hb : BdN x) : FSpec Tryd.prog 3 [ndA x, .v (kI num) 0] [] fun a cs => a = bA true ∧ cs = [] := by
  have hSm := Small_spec hb
  have hAw := awake9_spec
  have hbz := bdC x hb
  by_cases hs : 0 ≤ smallP x 0 400
  · rw [decide_eq_true hs] at hSm
    have hok := ok_small x 0 400 (by decide) hs
    have hokv := okV_theirs x hok
    have hTh := Theirs_spec hok
    have hGet := (Get_spec hokv (k := num)).ofNd
    have hmu := must_spec (v := theirsP x)
    have hCl := Clean_spec hok
    have hSa := Same_refl_spec hbz
    by_cases hk : ∃ n u b s t fs, x = .mk 7 n u b s t fs
    · obtain ⟨n, u, b, s, t, fs, rfl⟩ := hk
      have hth : theirsP (.mk 7 n u b s t fs) = .msg t (theirsFs fs) s := by unfold theirsP; simp
      have hOu := (Ours_spec hokv).ofNd
      rw [hth] at hmu hOu
      have hL : getP (theirsP (.mk 7 n u b s t fs)) num = getFs (theirsFs fs) num := by rw [hth]; rfl
      rw [hL] at hGet
      cases hok with
      | mk hl hvl hv =>
      cases hb with
      | mk hbs hbl hbvl hbv =>
      have hlen : (nfsD fs).length = fs.length := by rw [nfsD_map, List.length_map]
      have hO2 : FSpec Tryd.prog 11 [.ifc 30 (.agg [.v (kI t) 0, .d (.sl 2 (vfsD (theirsFs fs))), .v (.string s) 0])] [] fun a cs => a = ndA (oursP (theirsP (.mk 7 n u b s t fs))) ∧ cs = [] := by
        rw [hth]; exact hOu.les (.cons (le_ifcA rfl) .nil)
      generalize oursP (theirsP (.mk 7 n u b s t fs)) = z at hO2 hCl hSa
      obtain ⟨zk, zn, zu, zb, zs, zt, zf⟩ := z
      refine a_enter hT [ndA (.mk 7 n u b s t fs), .v (kI num) 0] [] Tryd.func3 rfl rfl rfl ⟨Fit.refl _, rfl, trivial⟩ fun c' => ?_
      refine a_box hT 20 rfl rfl rfl rfl fun g => ?_
      refine a_call hT rfl rfl rfl (by kernel_rfl) hAw [] [] rfl rfl ?_
      rintro _ _ ⟨rfl, rfl⟩
      refine a_gf hT rfl rfl rfl rfl ?_
      refine a_call hT rfl rfl rfl (by kernel_rfl) hSm [] [] rfl rfl ?_
      rintro _ _ ⟨rfl, rfl⟩
      refine a_f hT rfl rfl rfl ?_
      refine a_call hT rfl rfl rfl (by kernel_rfl) hTh [] [] rfl rfl ?_
      rintro _ _ ⟨rfl, rfl⟩
      refine a_call hT rfl rfl rfl (by kernel_rfl) hmu [] [] rfl rfl ?_
      rintro _ _ ⟨rfl, rfl⟩
      refine a_new hT hZ 21 rfl rfl rfl rfl fun g1 => ?_
      refine a_draw hT [] false [(0, false), (1, false), (2, false), (3, false), (4, false), (5, false), (6, false), (7, false), (8, false), (9, false), (10, false), (11, false), (13, false), (12, true), (14, true), (15, true), (16, true), (17, true), (18, true)] rfl rfl (by kernel_rfl) (by kernel_rfl) rfl ?_
      refine a_gf hT rfl rfl rfl rfl ?_
      refine a_gt hT rfl rfl rfl rfl ?_
      refine a_call hT rfl rfl rfl (by kernel_rfl) hO2 [] [] rfl rfl ?_
      rintro _ _ ⟨rfl, rfl⟩
      refine a_call hT rfl rfl rfl (by kernel_rfl) hCl [] [] rfl rfl ?_
      rintro _ _ ⟨rfl, rfl⟩
      refine a_call hT rfl rfl rfl (by kernel_rfl) hSa [] [] rfl rfl ?_
      rintro _ _ ⟨rfl, rfl⟩
      refine a_f hT rfl rfl rfl ?_
      refine a_call hT rfl rfl rfl (by kernel_rfl) hTh [] [] rfl rfl ?_
      rintro _ _ ⟨rfl, rfl⟩
      refine a_call hT rfl rfl rfl (by kernel_rfl) hGet [] [] rfl rfl ?_
      rintro _ _ ⟨rfl, rfl⟩
      refine a_t hT rfl rfl rfl ?_
      refine a_loop hT [1, 2, 7, 52, 53] (fun i : Nat => [.v (kI num) 0, .v (.pointer (some ⟨g, 0, none⟩)) 20, .d (.sl 1 (vlsD (getFs (theirsFs fs) num))), .v (kI fs.length) 0, .v (kI i) 0]) (fun _ => [(20, .blk g 25 [.v (kI 7) 0, .v (kI n) 0, .v (kU u) 0, .v (Value.bool b) 0, .v (Value.string s) 0, .v (kI t) 0, .d (A.Dat.sl 2 (nfsD fs))])]) (fun i => i ≤ fs.length ∧ getFs (theirsFs (fs.drop i)) num = getFs (theirsFs fs) num) (fun i => fs.length - i) 0 [20] rfl rfl ⟨Nat.zero_le _, rfl⟩ ⟨rfl, rfl, rfl, by rw [← hlen]; rfl, rfl, trivial⟩ rfl ⟨⟨rfl, rfl, ⟨rfl, rfl, rfl, rfl, rfl, rfl, rfl, trivial⟩⟩, trivial⟩ ?_
      rintro i ⟨i2, i3⟩
      have hw := wN i (by omega)
      rcases Nat.lt_or_ge i fs.length with hil | hil
      · have hat : (nfsD fs)[(i : Int).toNat]? = some (nfD fs[i]) := by rw [nfsD_map]; simp [hil]
        have hmem := List.getElem_mem hil
        rw [drop_at hil] at i3
        generalize fs[i] = f at hat hmem i3
        obtain ⟨num2, vs⟩ := f
        have hvs := hvl num2 vs hmem
        have i4 : (if num2 = num then theirsVs vs else getFs (theirsFs (fs.drop (i + 1))) num) = getFs (theirsFs fs) num := by rw [← i3]; conv => rhs; unfold theirsFs theirsF getFs
        refine a_t hT rfl rfl (decide_eq_true (by show (i : Int) < (fs.length : Int); omega)) ?_
        refine a_ix hT _ rfl rfl rfl rfl rfl rfl (by first | omega | assumption) (by first | assumption | rfl) ?_
        refine a_if hT rfl rfl (fun h => ?_) (fun h => ?_)
        · have h := bne_iff_ne.1 h
          rw [if_neg h] at i4
          exact a_next hT (i + 1) [20] rfl rfl ⟨⟨by show i + 1 ≤ fs.length; omega, i4⟩, by show fs.length - (i + 1) < fs.length - i; omega⟩ ⟨rfl, rfl, rfl, rfl, by show Value.int .i64 _ = Value.int .i64 _; rw [hw], trivial⟩ rfl ⟨⟨rfl, rfl, ⟨rfl, rfl, rfl, rfl, rfl, rfl, rfl, trivial⟩⟩, trivial⟩
        · simp at h
          rw [if_pos h] at i4
          rw [← i4]
          have hlv : (ndsD vs).length = vs.length := by rw [ndsD_map, List.length_map]
          have hlt : (vlsD (theirsVs vs)).length = vs.length := by rw [vlsD_map, List.length_map, theirsVs_map, List.length_map]
          refine a_ix hT _ rfl rfl rfl rfl rfl rfl (by first | omega | assumption) (by first | assumption | rfl) ?_
          refine a_f hT rfl rfl (by show ((((vlsD (theirsVs vs)).length : Int)) != ((ndsD vs).length : Int)) = false; rw [hlv, hlt]; simp) ?_
          refine a_loop hT [1, 2, 7, 8, 52, 53, 75, 76] (fun j : Nat => [.v (kI num) 0, .v (.pointer (some ⟨g, 0, none⟩)) 20, .d (.sl 1 (vlsD (theirsVs vs))), .v (kI i) 0, .v (kI fs.length) 0, .v (kI i) 0, .v (kI vs.length) 0, .v (kI j) 0]) (fun _ => [(20, .blk g 25 [.v (kI 7) 0, .v (kI n) 0, .v (kU u) 0, .v (Value.bool b) 0, .v (Value.string s) 0, .v (kI t) 0, .d (A.Dat.sl 2 (nfsD fs))])]) (fun j => j ≤ vs.length) (fun j => vs.length - j) 0 [20] rfl rfl (Nat.zero_le _) ⟨rfl, rfl, rfl, rfl, rfl, rfl, by rw [← hlt]; rfl, rfl, trivial⟩ rfl ⟨⟨rfl, rfl, ⟨rfl, rfl, rfl, rfl, rfl, rfl, rfl, trivial⟩⟩, trivial⟩ ?_
          rintro j j2
          have hw2 := wN j (by omega)
          rcases Nat.lt_or_ge j vs.length with hjl | hjl
          · have hat2 : (ndsD vs)[(j : Int).toNat]? = some (ndD vs[j]) := by rw [ndsD_map]; simp [hjl]
            have hat3 : (vlsD (theirsVs vs))[(j : Int).toNat]? = some [vlD (theirsP vs[j])] := by rw [vlsD_map, theirsVs_map]; simp [hjl]
            have hyk := hv num2 vs vs[j] hmem (List.getElem_mem hjl)
            have hyb := hbv num2 vs vs[j] hmem (List.getElem_mem hjl)
            generalize vs[j] = y at hat2 hat3 hyk hyb
            have hyO := Ours_spec (okV_theirs y hyk)
            have hyC := Clean_spec hyk
            have hyS := Same_refl_spec (bdC y hyb)
            generalize oursP (theirsP y) = q at hyO hyC hyS
            obtain ⟨yk, yn, yu, yb, ys, yt, yf⟩ := y
            obtain ⟨qk, qn, qu, qb, qs, qt, qf⟩ := q
            refine a_t hT rfl rfl (decide_eq_true (by show (j : Int) < (vs.length : Int); omega)) ?_
            refine a_draw hT [] false [(0, false), (1, false), (2, false), (3, false), (5, false), (6, false), (7, false), (8, false), (9, false), (10, false), (11, false), (12, false), (13, false), (4, true), (14, true), (15, true), (16, true)] rfl rfl (by kernel_rfl) (by kernel_rfl) rfl ?_
            refine a_ix hT _ rfl rfl rfl rfl rfl rfl (by first | omega | assumption) (by first | assumption | rfl) ?_
            refine a_ix hT _ rfl rfl rfl rfl rfl rfl (by first | omega | assumption) (by first | assumption | rfl) ?_
            refine a_ix hT _ rfl rfl rfl rfl rfl rfl (by first | omega | assumption) (by first | assumption | rfl) ?_
            refine a_call hT rfl rfl rfl (by kernel_rfl) hyO [] [] rfl rfl ?_
            rintro _ _ ⟨rfl, rfl⟩
            refine a_call hT rfl rfl rfl (by kernel_rfl) hyC [] [] rfl rfl ?_
            rintro _ _ ⟨rfl, rfl⟩
            refine a_call hT rfl rfl rfl (by kernel_rfl) hyS [] [] rfl rfl ?_
            rintro _ _ ⟨rfl, rfl⟩
            refine a_f hT rfl rfl rfl ?_
            exact a_next hT (j + 1) [20] rfl rfl ⟨by show j + 1 ≤ vs.length; omega, by show vs.length - (j + 1) < vs.length - j; omega⟩ ⟨rfl, rfl, rfl, rfl, rfl, rfl, rfl, by show Value.int .i64 _ = Value.int .i64 _; rw [hw2], trivial⟩ rfl ⟨⟨rfl, rfl, ⟨rfl, rfl, rfl, rfl, rfl, rfl, rfl, trivial⟩⟩, trivial⟩
          · refine a_f hT rfl rfl (decide_eq_false (by show ¬ (j : Int) < (vs.length : Int); omega)) ?_
            refine a_ret hT [] rfl rfl rfl rfl rfl rfl ?_
            exact ⟨rfl, rfl⟩
      · refine a_f hT rfl rfl (decide_eq_false (by show ¬ (i : Int) < (fs.length : Int); omega)) ?_
        rw [List.drop_eq_nil_of_le hil] at i3
        rw [← i3]
        refine a_ret hT [] rfl rfl rfl rfl rfl rfl ?_
        exact ⟨rfl, rfl⟩
    · obtain ⟨k, n, u, b, s, t, fs⟩ := x
      have hk7 : k ≠ 7 := fun e => hk ⟨n, u, b, s, t, fs, by rw [e]⟩
      obtain ⟨hm1, hg1⟩ := notmsg (n := n) (u := u) (b := b) (s := s) (t := t) (fs := fs) hk7
      rw [hm1] at hmu
      rw [hg1] at hGet
      refine a_enter hT [ndA (.mk k n u b s t fs), .v (kI num) 0] [] Tryd.func3 rfl rfl rfl ⟨Fit.refl _, rfl, trivial⟩ fun c' => ?_
      refine a_box hT 20 rfl rfl rfl rfl fun g => ?_
      refine a_call hT rfl rfl rfl (by kernel_rfl) hAw [] [] rfl rfl ?_
      rintro _ _ ⟨rfl, rfl⟩
      refine a_gf hT rfl rfl rfl rfl ?_
      refine a_call hT rfl rfl rfl (by kernel_rfl) hSm [] [] rfl rfl ?_
      rintro _ _ ⟨rfl, rfl⟩
      refine a_f hT rfl rfl rfl ?_
      refine a_call hT rfl rfl rfl (by kernel_rfl) hTh [] [] rfl rfl ?_
      rintro _ _ ⟨rfl, rfl⟩
      refine a_call hT rfl rfl rfl (by kernel_rfl) hmu [] [] rfl rfl ?_
      rintro _ _ ⟨rfl, rfl⟩
      refine a_new hT hZ 21 rfl rfl rfl rfl fun g1 => ?_
      refine a_draw hT [] false [(0, false), (1, false), (2, false), (3, false), (4, false), (5, false), (6, false), (7, false), (8, false), (9, false), (10, false), (11, false), (13, false), (12, true), (14, true), (15, true), (16, true), (17, true), (18, true)] rfl rfl (by kernel_rfl) (by kernel_rfl) rfl ?_
      refine a_g hT rfl rfl rfl (fun h => ?_) (fun h => ?_)
      · simp at h
        (exfalso; first | omega | contradiction)
      · simp at h
        refine a_g hT rfl rfl rfl (fun h1 => ?_) (fun h1 => ?_)
        · have h1 := eq_of_beq h1
          (exfalso; first | omega | contradiction)
        · have h1 := ne_of_beq_false h1
          refine a_f hT rfl rfl rfl ?_
          refine a_call hT rfl rfl rfl (by kernel_rfl) hTh [] [] rfl rfl ?_
          rintro _ _ ⟨rfl, rfl⟩
          refine a_call hT rfl rfl rfl (by kernel_rfl) hGet [] [] rfl rfl ?_
          rintro _ _ ⟨rfl, rfl⟩
          refine a_if hT rfl rfl (fun h2 => ?_) (fun h2 => ?_)
          · have h2 := eq_of_beq h2
            (exfalso; first | omega | contradiction)
          · have h2 := ne_of_beq_false h2
            refine a_ret hT [] rfl rfl rfl rfl rfl rfl ?_
            first | exact ⟨rfl, rfl⟩ | rfl
  · rw [decide_eq_false hs] at hSm
    obtain ⟨k, n, u, b, s, t, fs⟩ := x
    refine a_enter hT [ndA (.mk k n u b s t fs), .v (kI num) 0] [] Tryd.func3 rfl rfl rfl ⟨Fit.refl _, rfl, trivial⟩ fun c' => ?_
    refine a_box hT 20 rfl rfl rfl rfl fun g => ?_
    refine a_call hT rfl rfl rfl (by kernel_rfl) hAw [] [] rfl rfl ?_
    rintro _ _ ⟨rfl, rfl⟩
    refine a_gf hT rfl rfl rfl rfl ?_
    refine a_call hT rfl rfl rfl (by kernel_rfl) hSm [] [] rfl rfl ?_
    rintro _ _ ⟨rfl, rfl⟩
    refine a_t hT rfl rfl rfl ?_
    refine a_call hT rfl rfl rfl (by kernel_rfl) hAw [] [] rfl rfl ?_
    rintro _ _ ⟨rfl, rfl⟩
    refine a_ret hT [] rfl rfl rfl rfl rfl rfl ?_
    first | exact ⟨rfl, rfl⟩ | rfl
end Go.Proofs.YtjcolfogmmjaoaaDoor
end

section
/- Layer 9: from the row's reading to nodes; ValueMusts' walk as the row wants it. -/
set_option linter.unusedVariables false
set_option linter.unusedSimpArgs false
set_option maxRecDepth 100000
set_option maxHeartbeats 1000000
namespace Go.Proofs.YtjcolfogmmjaoaaDoor
open V A
section
variable {P : Program} {g : Nat} {t : TypeId} {ds : List A.Dat}
theorem sh_int {k : IntKind} (hu : P.underlying t = some (.int k)) (h : ShT P g t ds) : ∃ m, ds = [.v (.int k m)] ∧ (Lit.int k m).wf = true := by
  cases g with
  | zero => unfold ShT at h; exact h.elim
  | succ g => unfold ShT at h; simpa only [hu] using h
theorem sh_bool (hu : P.underlying t = some .bool) (h : ShT P g t ds) : ∃ b, ds = [.v (.bool b)] := by
  cases g with
  | zero => unfold ShT at h; exact h.elim
  | succ g => unfold ShT at h; simpa only [hu] using h
theorem sh_str (hu : P.underlying t = some .string) (h : ShT P g t ds) : ∃ b : ByteArray, ds = [.v (.string b)] ∧ b.size ≤ reachBytes := by
  cases g with
  | zero => unfold ShT at h; exact h.elim
  | succ g => unfold ShT at h; simpa only [hu] using h
theorem sh_sl {e : TypeId} (hu : P.underlying t = some (.slice e)) (h : ShT P g t ds) : ∃ g', g' < g ∧ ∃ xs : List (List A.Dat), ds = [.sl (P.cellsOf e) xs] ∧ xs.length ≤ reachBytes ∧ ∀ x ∈ xs, ShT P g' e x := by
  cases g with
  | zero => unfold ShT at h; exact h.elim
  | succ g => unfold ShT at h; exact ⟨g, Nat.lt_succ_self g, by simpa only [hu] using h⟩
theorem sh_st {fs : Array Field} (hu : P.underlying t = some (.struct fs)) (h : ShT P g t ds) : ∃ g', g' < g ∧ ShF P (ShT P g') fs.toList ds := by
  cases g with
  | zero => unfold ShT at h; exact h.elim
  | succ g => unfold ShT at h; exact ⟨g, Nat.lt_succ_self g, by simpa only [hu] using h⟩
end
theorem rb : reachBytes = reachN := by decide
theorem list_nd : ∀ {xs : List (List A.Dat)}, (∀ x ∈ xs, ∃ y, x = ndD y ∧ BdN y) → ∃ ys, xs = ndsD ys ∧ ∀ y ∈ ys, BdN y
  | [], _ => ⟨[], rfl, by simp⟩
  | x :: xs, h => by
    obtain ⟨y, e, hy⟩ := h x (by simp)
    obtain ⟨ys, e2, hys⟩ := list_nd (xs := xs) fun x hx => h x (by simp [hx])
    refine ⟨y :: ys, by unfold ndsD; rw [e, e2], fun z hz => ?_⟩
    rcases List.mem_cons.1 hz with rfl | hz
    · exact hy
    · exact hys z hz
theorem list_nf : ∀ {xs : List (List A.Dat)}, (∀ x ∈ xs, ∃ num vs, x = nfD (.mk num vs) ∧ vs.length ≤ reachN ∧ ∀ y ∈ vs, BdN y) → ∃ fs, xs = nfsD fs ∧ ∀ num vs, NF.mk num vs ∈ fs → vs.length ≤ reachN ∧ ∀ y ∈ vs, BdN y
  | [], _ => ⟨[], rfl, by simp⟩
  | x :: xs, h => by
    obtain ⟨num, vs, e, hy⟩ := h x (by simp)
    obtain ⟨fs, e2, hys⟩ := list_nf (xs := xs) fun x hx => h x (by simp [hx])
    refine ⟨.mk num vs :: fs, by unfold nfsD; rw [e, e2], fun n2 v2 hz => ?_⟩
    rcases List.mem_cons.1 hz with hz | hz
    · cases hz; exact hy
    · exact hys n2 v2 hz
theorem cNode : Tryd.prog.cellsOf 25 = 7 := by kernel_rfl
theorem cField : Tryd.prog.cellsOf 43 = 2 := by kernel_rfl
theorem sh_nf {g : Nat} (ih : ∀ g', g' < g → ∀ ds, ShT Tryd.prog g' 25 ds → ∃ x, ds = ndD x ∧ BdN x) {ds : List A.Dat} (h : ShT Tryd.prog g 43 ds) : ∃ num vs, ds = nfD (.mk num vs) ∧ vs.length ≤ reachN ∧ ∀ y ∈ vs, BdN y := by
  obtain ⟨g1, hg1, h⟩ := sh_st Tryd.underlying43 h
  obtain ⟨a0, r, rfl, h0, h⟩ := h
  obtain ⟨a1, r, rfl, h1, h⟩ := h
  have h : r = [] := h
  subst h
  obtain ⟨num, rfl, _⟩ := sh_int Tryd.underlying3 h0
  obtain ⟨g2, hg2, xs, rfl, hl, hx⟩ := sh_sl Tryd.underlying41 h1
  obtain ⟨ys, rfl, hy⟩ := list_nd fun x hx' => ih g2 (by omega) x (hx x hx')
  rw [cNode]
  exact ⟨num, ys, rfl, by rw [← rb]; rw [ndsD_map, List.length_map] at hl; exact hl, hy⟩
theorem sh_nd : ∀ (g : Nat) (ds : List A.Dat), ShT Tryd.prog g 25 ds → ∃ x, ds = ndD x ∧ BdN x := by
  intro g
  induction g using Nat.strongRecOn with
  | _ g ih =>
  intro ds h
  obtain ⟨g1, hg1, h⟩ := sh_st Tryd.underlying25 h
  obtain ⟨a0, r, rfl, h0, h⟩ := h
  obtain ⟨a1, r, rfl, h1, h⟩ := h
  obtain ⟨a2, r, rfl, h2, h⟩ := h
  obtain ⟨a3, r, rfl, h3, h⟩ := h
  obtain ⟨a4, r, rfl, h4, h⟩ := h
  obtain ⟨a5, r, rfl, h5, h⟩ := h
  obtain ⟨a6, r, rfl, h6, h⟩ := h
  have h : r = [] := h
  subst h
  obtain ⟨k, rfl, _⟩ := sh_int Tryd.underlying3 h0
  obtain ⟨n, rfl, _⟩ := sh_int Tryd.underlying2 h1
  obtain ⟨u, rfl, _⟩ := sh_int Tryd.underlying22 h2
  obtain ⟨b, rfl⟩ := sh_bool Tryd.underlying4 h3
  obtain ⟨s, rfl, hs⟩ := sh_str Tryd.underlying9 h4
  obtain ⟨t, rfl, _⟩ := sh_int Tryd.underlying3 h5
  obtain ⟨g2, hg2, xs, rfl, hl, hx⟩ := sh_sl Tryd.underlying23 h6
  obtain ⟨fs, rfl, hf⟩ := list_nf fun x hx' => sh_nf (fun g' hg' => ih g' (by omega)) (hx x hx')
  rw [cField]
  exact ⟨.mk k n u b s t fs, rfl, .mk (by rw [← rb]; exact hs) (by rw [← rb]; rw [nfsD_map, List.length_map] at hl; exact hl) (fun num vs hm => (hf num vs hm).1) (fun num vs x hm hx => (hf num vs hm).2 x hx)⟩
theorem nd_of' : ∀ (ds : List A.Dat), Les (ds.map .d) (ds.map nd)
  | [] => .nil
  | d :: ds => .cons nd_of (nd_of' ds)
theorem argT_one {w : World} {d : A.Dat} {v : Value} (h2 : A.VRep no w [d] v.cells.toList) (hf : ∀ cs, v ≠ .agg cs) : A.DRep no w d v := by
  have hc : v.cells = #[v] := by cases v <;> first | rfl | exact absurd rfl (hf _)
  rw [hc] at h2
  unfold A.VRep at h2
  obtain ⟨x, r, e, hd, hr⟩ := h2
  simp at e
  obtain ⟨rfl, _⟩ := e
  exact hd
/-- An argument is a node. -/
theorem argT_nd {w : World} {v : Value} (h : ArgT Tryd.prog w 25 v) : ∃ x, Rep no w (ndA x) v ∧ BdN x := by
  obtain ⟨⟨g, ds, h1, h2⟩, h3⟩ := h
  obtain ⟨x, rfl, hx⟩ := sh_nd g ds h1
  refine ⟨x, ?_, hx⟩
  rw [h3.1 (by kernel_rfl)]
  unfold ndA
  have := (nd_of' (ndD x)).reps (Reps.ofV h2)
  unfold Rep
  exact ⟨_, by simp, this, h2.one⟩
theorem argT_int {w : World} {t : TypeId} {k : IntKind} {v : Value} (hu : Tryd.prog.underlying t = some (.int k)) (hs : isStruct Tryd.prog t = false) (h : ArgT Tryd.prog w t v) : ∃ m, v = .int k m ∧ (Lit.int k m).wf = true := by
  obtain ⟨⟨g, ds, h1, h2⟩, h3⟩ := h
  obtain ⟨m, rfl, hm⟩ := sh_int hu h1
  have := argT_one h2 (h3.2 hs)
  unfold A.DRep at this
  exact ⟨m, this.1, hm⟩
theorem valueMusts_row (W : World) (args : Array Value) (ha : ArgsT Tryd.prog W Tryd.f3.params.toList args.toList) : Calls Tryd.prog 3 args W (LawR W) := by
  obtain ⟨v1, r, e, h1, ha⟩ := argsT_cons ha
  obtain ⟨v2, r, rfl, h2, ha⟩ := argsT_cons ha
  obtain rfl := argsT_nil ha
  have e : args = #[v1, v2] := Array.ext' e
  subst e
  obtain ⟨x, hr, hb⟩ := argT_nd h1
  obtain ⟨num, rfl, _⟩ := argT_int Tryd.underlying3 (by kernel_rfl) h2
  exact law_of ((valueMusts_walk hb).mono fun a cs h => h.1) (Reps.cons hr (Reps.cons mk_v Reps.nil))
end Go.Proofs.YtjcolfogmmjaoaaDoor
end
