import Derived.Test.YtjcolfogmmjaoaaDoorQDecodePacked9
import Derived.Tactics
import Derived.Tactics2
import Derived.Defers
import Derived.Recover
import Derived.Laws.Pointers
import Derived.Laws.NewBlocks
import Derived.Test.YtjcolfogmmjaoaaDoorQDecodePacked10
import Derived.Test.YtjcolfogmmjaoaaDoorQDecodePacked8
section
/- Layer 9: must, with the panic and its recovery. -/
set_option linter.unusedVariables false
set_option linter.unusedSimpArgs false
set_option maxRecDepth 100000
set_option maxHeartbeats 1000000
namespace Go.Proofs.YtjcolfogmmjaoaaDoor
open V A
def ptrOk (P : Program) (t : TypeId) : Bool := match P.underlying t with
  | some (.pointer _) => true
  | _ => false
theorem tae_ok : ptrOk Tryd.prog Tryd.prog.rt.typeAssertionError = true := by kernel_rfl
theorem must_no {x : Value} (hx : x = .nilIface ∨ ∃ t' u, x = .iface t' u ∧ t' ≠ 30) (w : World) : ∃ u pv o, (Instr.typeAssert x 34 30 false).run Tryd.prog w = .halt (.panic (.iface u pv)) (w.alloc o) := by
  obtain ⟨d, hd, hne⟩ := noIfc hT (t := 30) (fun e => by cases e) (fun e => by cases e)
  have hp := tae_ok
  unfold ptrOk at hp
  split at hp
  · rename_i e he
    unfold Instr.typeAssert
    simp only [Sem.run_bind, underlying, run_program, Result.andThen_ok, hd, Sem.run_pure]
    rcases hx with rfl | ⟨t', u, rfl, htt⟩
    · cases d <;> first | exact absurd rfl (hne _) | (simp [runtimePanic, elemOf, underlying, he, newVar, newRow, goPanic]; exact ⟨_, rfl⟩)
    · cases d <;> first | exact absurd rfl (hne _) | (simp [htt, runtimePanic, elemOf, underlying, he, newVar, newRow, goPanic]; exact ⟨_, rfl⟩)
  · cases hp
theorem Must_panics {x : Value} (hx : x = .nilIface ∨ ∃ t' u, x = .iface t' u ∧ t' ≠ 30) (w : World) :
    Calls Tryd.prog 23 #[x] w fun e w' => ∃ u pv o o2, e = .panicked [{ v := .iface u pv, recovered := false }] ∧ w' = (w.alloc o).alloc o2 := by
  obtain ⟨u, pv, o, ho⟩ := must_no hx (w.alloc (Obj.cells #[Value.int IntKind.i64 0, Value.slice none 0 0, Value.string { data := #[] }] 30))
  go_enter Tryd.func23, Tryd.ntmps23
  go_wp2
  simp [bodyPost]
  exact ⟨_, _, rfl⟩
theorem catch_panicking (p : Addr) (x : Bool) (u : TypeId) (pv : Value) (older : List PanicEntry) (w : World) (hc : w.cell? p = some (.bool x)) (hz : w.frozen? p = false) :
    CallsD Tryd.prog 22 #[.pointer (some p)] (.panicking ({ v := .iface u pv, recovered := false } :: older)) w fun e u' w' =>
      e = .returned (.tuple #[]) ∧ u' = .panicking ({ v := .iface u pv, recovered := true } :: older) ∧ w' = w.setCell p (.bool true) := by
  refine callsD_of_wpS Tryd.func22 rfl fun c₀ cs hu => ?_
  apply wpS_seq
  apply wpS_region
  simp [wpOpsS, go_sem, recoverD, hu, Tryd.ntmps22, Exit.thenS]
  refine wpS_cond (t := true) (by simp [Act.eval, Array.replicate]) ?_
  simp only [if_true]
  apply wpS_region
  simp [wpOpsS, go_sem, hc, hz, bodyPostS, results, Tryd.results22]
theorem catch_idle (p : Addr) (w : World) :
    CallsD Tryd.prog 22 #[.pointer (some p)] .returning w fun e u' w' => e = .returned (.tuple #[]) ∧ u' = .returning ∧ w' = w := by
  refine callsD_of_wpS Tryd.func22 rfl fun c₀ cs hu => ?_
  apply wpS_seq
  apply wpS_region
  simp [wpOpsS, go_sem, recoverD, hu, Tryd.ntmps22, Exit.thenS]
  refine wpS_cond (t := false) (by simp [Act.eval, Array.replicate]) ?_
  simp only [Bool.false_eq_true, if_false]
  refine wpS_of_wp (wp_skip ?_)
  cases c₀
  simp_all [bodyPostS, results, Tryd.results22]
theorem must_panics {x : Value} (hx : x = .nilIface ∨ ∃ t' u, x = .iface t' u ∧ t' ≠ 30) (w : World) :
    Calls Tryd.prog 8 #[x] w fun e w' => e = .returned (.tuple #[.agg #[.int .i64 0, .slice none 0 0, .string ByteArray.empty], .bool true]) ∧ Ev no w w' := by
  have hmf : ∀ (fn : Fn) (first cap : Array Value) (w : World), (Instr.makeFunc fn first cap).run Tryd.prog w = .ok (.func fn first cap) w := fun _ _ _ _ => rfl
  go_enter_defers Tryd.func8, Tryd.ntmps8
  go_wp2_with (go_at_call 23; refine (Must_panics hx _).mono ?_; rintro e w' ⟨u, pv, o, o2, rfl, rfl⟩)
  refine leaves_cons (f := 22) (args := #[.pointer (some ⟨w.heap.size + 1, 0, none⟩)]) (by simp) (by simp [go_sem]) ?_
  clear hmf
  generalize hwa : w.alloc (Obj.cells #[Value.int IntKind.i64 0, Value.slice none 0 0, Value.string { data := #[] }] 30) = wa
  have hsa : wa.heap.size = w.heap.size + 1 := by rw [← hwa]; simp
  have ha : ∀ i, wa.cell? ⟨w.heap.size, i, none⟩ = #[Value.int IntKind.i64 0, Value.slice none 0 0, Value.string { data := #[] }][i]? := fun i => by rw [← hwa]; exact World.cell?_alloc_at _ _ _ _ rfl
  have hea : Ev no w wa := by rw [← hwa]; exact Ev.alloc _ _
  generalize hwb : wa.alloc (Obj.cells #[Value.bool false] 4) = wb
  have hsb : wb.heap.size = w.heap.size + 2 := by rw [← hwb]; simp [hsa]
  have hb : wb.cell? ⟨w.heap.size + 1, 0, none⟩ = some (.bool false) := by rw [← hwb, World.cell?_alloc_at _ _ _ _ hsa.symm]; rfl
  have hbf : wb.frozen? ⟨w.heap.size + 1, 0, none⟩ = false := by rw [← hwb, World.frozen?_alloc_at _ _ _ _ hsa.symm]
  have heb : Ev no wa wb := by rw [← hwb]; exact Ev.alloc _ _
  generalize hwc : (wb.alloc o).alloc o2 = wc
  have hec : Ev no wb wc := by rw [← hwc]; exact (Ev.alloc _ _).trans (Ev.alloc _ _)
  have hc : wc.cell? ⟨w.heap.size + 1, 0, none⟩ = some (.bool false) := hec.cell hb id
  have hcf : wc.frozen? ⟨w.heap.size + 1, 0, none⟩ = false := by rw [← hwc, World.frozen?_alloc_past _ _ _ (by simp; omega), World.frozen?_alloc_past _ _ _ (by omega)]; exact hbf
  have hcm : ∀ i x, #[Value.int IntKind.i64 0, Value.slice none 0 0, Value.string { data := #[] }][i]? = some x → wc.cell? ⟨w.heap.size, i, none⟩ = some x := fun i x hx => hec.cell (heb.cell (by rw [ha, hx]) id) id
  clear hwa hwb hwc
  refine (catch_panicking ⟨w.heap.size + 1, 0, none⟩ false u pv [] _ hc hcf).mono ?_
  rintro e u' w'' ⟨rfl, rfl, rfl⟩
  have hd0 : (wc.setCell ⟨w.heap.size + 1, 0, none⟩ (.bool true)).cell? ⟨w.heap.size + 1, 0, none⟩ = some (.bool true) := World.cell?_setCell_same _ _ _ hc
  have hdm : ∀ i x, #[Value.int IntKind.i64 0, Value.slice none 0 0, Value.string { data := #[] }][i]? = some x → (wc.setCell ⟨w.heap.size + 1, 0, none⟩ (.bool true)).cell? ⟨w.heap.size, i, none⟩ = some x := fun i x hx => by rw [World.cell?_setCell_other _ _ _ _ (by simp)]; exact hcm i x hx
  have hed : Ev no w (wc.setCell ⟨w.heap.size + 1, 0, none⟩ (.bool true)) := ((hea.trans heb).trans hec).then (Ev.setCell _ _ _) fun i hi h => by unfold at1 at h; simp at h; omega
  generalize wc.setCell ⟨w.heap.size + 1, 0, none⟩ (.bool true) = wd at hd0 hdm hed
  have h0 := hdm 0 _ rfl
  have h1 := hdm 1 _ rfl
  have h2 := hdm 2 _ rfl
  simp [Leaves, settle, results, Tryd.results8, go_sem, hd0, h0, h1, h2]
  exact ⟨rfl, hed⟩
theorem Must_tells {t : Int} {A : Option Addr} {n c : Nat} {s : ByteArray} (w : World) :
    Calls Tryd.prog 23 #[.iface 30 (.agg #[.int .i64 t, .slice A n c, .string s])] w fun e w' => e = .returned (.agg #[.int .i64 t, .slice A n c, .string s]) ∧ w' = w.alloc (.cells #[.int .i64 t, .slice A n c, .string s] 30) := by
  have hm : ∀ w, (Instr.typeAssert (.iface 30 (.agg #[.int .i64 t, .slice A n c, .string s])) 34 30 false).run Tryd.prog w = .ok (.agg #[.int .i64 t, .slice A n c, .string s]) w := by
    obtain ⟨d, hd, hne⟩ := noIfc hT (t := 30) (fun e => by cases e) (fun e => by cases e)
    intro w
    unfold Instr.typeAssert
    simp only [Sem.run_bind, underlying, run_program, Result.andThen_ok, hd, Sem.run_pure]
    cases d <;> first | exact absurd rfl (hne _) | simp
  go_enter Tryd.func23, Tryd.ntmps23
  go_wp2
  simp [bodyPost, results, Tryd.results23, go_sem]
theorem door_world {w w' : World} {o : Obj} (h : w' = ((w.alloc (Obj.cells #[Value.int IntKind.i64 0, Value.slice none 0 0, Value.string { data := #[] }] 30)).alloc (Obj.cells #[Value.bool false] 4)).alloc o) :
    (w'.cell? ⟨w.heap.size, 0, none⟩ = some (.int .i64 0) ∧ w'.cell? ⟨w.heap.size, 1, none⟩ = some (.slice none 0 0) ∧ w'.cell? ⟨w.heap.size, 2, none⟩ = some (.string { data := #[] }) ∧ w'.cell? ⟨w.heap.size + 1, 0, none⟩ = some (.bool false)) ∧
    (w'.frozen? ⟨w.heap.size, 0, none⟩ = false ∧ w'.frozen? ⟨w.heap.size, 1, none⟩ = false ∧ w'.frozen? ⟨w.heap.size, 2, none⟩ = false ∧ w'.frozen? ⟨w.heap.size + 1, 0, none⟩ = false) ∧ Ev no w w' := by
  generalize hwa : w.alloc (Obj.cells #[Value.int IntKind.i64 0, Value.slice none 0 0, Value.string { data := #[] }] 30) = wa at h
  have hsa : wa.heap.size = w.heap.size + 1 := by rw [← hwa]; simp
  have ha : ∀ i, wa.cell? ⟨w.heap.size, i, none⟩ = #[Value.int IntKind.i64 0, Value.slice none 0 0, Value.string { data := #[] }][i]? := fun i => by rw [← hwa]; exact World.cell?_alloc_at _ _ _ _ rfl
  have haf : ∀ i, wa.frozen? ⟨w.heap.size, i, none⟩ = false := fun i => by rw [← hwa]; exact World.frozen?_alloc_at _ _ _ _ rfl
  have hea : Ev no w wa := by rw [← hwa]; exact Ev.alloc _ _
  generalize hwb : wa.alloc (Obj.cells #[Value.bool false] 4) = wb at h
  have hsb : wb.heap.size = w.heap.size + 2 := by rw [← hwb]; simp [hsa]
  have hb : wb.cell? ⟨w.heap.size + 1, 0, none⟩ = some (.bool false) := by rw [← hwb, World.cell?_alloc_at _ _ _ _ hsa.symm]; rfl
  have hbf : wb.frozen? ⟨w.heap.size + 1, 0, none⟩ = false := by rw [← hwb, World.frozen?_alloc_at _ _ _ _ hsa.symm]
  have hbaf : ∀ i, wb.frozen? ⟨w.heap.size, i, none⟩ = false := fun i => by rw [← hwb, World.frozen?_alloc_past _ _ _ (by omega)]; exact haf i
  have heb : Ev no wa wb := by rw [← hwb]; exact Ev.alloc _ _
  have hec : Ev no wb w' := by rw [h]; exact Ev.alloc _ _
  have hcm : ∀ i x, #[Value.int IntKind.i64 0, Value.slice none 0 0, Value.string { data := #[] }][i]? = some x → w'.cell? ⟨w.heap.size, i, none⟩ = some x := fun i x hx => hec.cell (heb.cell (by rw [ha, hx]) id) id
  have hcf : ∀ a i, a < wb.heap.size → wb.frozen? ⟨a, i, none⟩ = false → w'.frozen? ⟨a, i, none⟩ = false := fun a i h1 h2 => by rw [h, World.frozen?_alloc_past _ _ _ h1]; exact h2
  exact ⟨⟨hcm 0 _ rfl, hcm 1 _ rfl, hcm 2 _ rfl, hec.cell hb id⟩, ⟨hcf _ _ (by omega) (hbaf 0), hcf _ _ (by omega) (hbaf 1), hcf _ _ (by omega) (hbaf 2), hcf _ _ (by omega) hbf⟩, (hea.trans heb).trans hec⟩
theorem must_tells {t : Int} {A : Option Addr} {n c : Nat} {s : ByteArray} (w : World) :
    Calls Tryd.prog 8 #[.iface 30 (.agg #[.int .i64 t, .slice A n c, .string s])] w fun e w' => e = .returned (.tuple #[.agg #[.int .i64 t, .slice A n c, .string s], .bool false]) ∧ Ev no w w' := by
  have hmf : ∀ (fn : Fn) (first cap : Array Value) (w : World), (Instr.makeFunc fn first cap).run Tryd.prog w = .ok (.func fn first cap) w := fun _ _ _ _ => rfl
  go_enter_defers Tryd.func8, Tryd.ntmps8
  go_wp2_with (go_at_call 23; refine (Must_tells _).mono ?_; rintro e w' ⟨rfl, hw'⟩; obtain ⟨⟨c0, c1, c2, c3⟩, ⟨f0, f1, f2, f3⟩, hev⟩ := door_world hw'; clear hw')
  refine leaves_cons (f := 22) (args := #[.pointer (some ⟨w.heap.size + 1, 0, none⟩)]) (by simp) (by simp [go_sem]) ?_
  refine (catch_idle ⟨w.heap.size + 1, 0, none⟩ _).mono ?_
  rintro e u' w'' ⟨rfl, rfl, rfl⟩
  have hne : ∀ i : Nat, (⟨w.heap.size + 1, 0, none⟩ : Addr) ≠ ⟨w.heap.size, i, none⟩ := fun i h => by injection h with h1 _ _; omega
  have hne' : ∀ i : Nat, (⟨w.heap.size, i, none⟩ : Addr) ≠ ⟨w.heap.size + 1, 0, none⟩ := fun i h => hne i h.symm
  have hij : ∀ i j : Nat, i ≠ j → (⟨w.heap.size, i, none⟩ : Addr) ≠ ⟨w.heap.size, j, none⟩ := fun i j h e => by injection e with _ h2 _; exact h h2
  have hw1 : Ev (fun b => b = w.heap.size ∨ b = w.heap.size + 1) w' ((((w'.setCell ⟨w.heap.size, 0, none⟩ (.int .i64 t)).setCell ⟨w.heap.size, 1, none⟩ (.slice A n c)).setCell ⟨w.heap.size, 2, none⟩ (.string s)).setCell ⟨w.heap.size + 1, 0, none⟩ (.bool false)) :=
    ((((Ev.setCell _ _ _).mono fun b _ h => .inl (by simpa [at1] using h)).trans ((Ev.setCell _ _ _).mono fun b _ h => .inl (by simpa [at1] using h))).trans ((Ev.setCell _ _ _).mono fun b _ h => .inl (by simpa [at1] using h))).trans ((Ev.setCell _ _ _).mono fun b _ h => .inr (by simpa [at1] using h))
  have hev2 := hev.then hw1 fun i hi h => by rcases h with h | h <;> omega
  have g0 : ((((w'.setCell ⟨w.heap.size, 0, none⟩ (.int .i64 t)).setCell ⟨w.heap.size, 1, none⟩ (.slice A n c)).setCell ⟨w.heap.size, 2, none⟩ (.string s)).setCell ⟨w.heap.size + 1, 0, none⟩ (.bool false)).cell? ⟨w.heap.size, 0, none⟩ = some (.int .i64 t) := by
    rw [World.cell?_setCell_other _ _ _ _ (hne 0), World.cell?_setCell_other _ _ _ _ (hij 2 0 (by decide)), World.cell?_setCell_other _ _ _ _ (hij 1 0 (by decide)), World.cell?_setCell_same _ _ _ c0]
  have g1 : ((((w'.setCell ⟨w.heap.size, 0, none⟩ (.int .i64 t)).setCell ⟨w.heap.size, 1, none⟩ (.slice A n c)).setCell ⟨w.heap.size, 2, none⟩ (.string s)).setCell ⟨w.heap.size + 1, 0, none⟩ (.bool false)).cell? ⟨w.heap.size, 1, none⟩ = some (.slice A n c) := by
    rw [World.cell?_setCell_other _ _ _ _ (hne 1), World.cell?_setCell_other _ _ _ _ (hij 2 1 (by decide)), World.cell?_setCell_same _ _ _ (u := .slice none 0 0) (by rw [World.cell?_setCell_other _ _ _ _ (hij 0 1 (by decide))]; exact c1)]
  have g2 : ((((w'.setCell ⟨w.heap.size, 0, none⟩ (.int .i64 t)).setCell ⟨w.heap.size, 1, none⟩ (.slice A n c)).setCell ⟨w.heap.size, 2, none⟩ (.string s)).setCell ⟨w.heap.size + 1, 0, none⟩ (.bool false)).cell? ⟨w.heap.size, 2, none⟩ = some (.string s) := by
    rw [World.cell?_setCell_other _ _ _ _ (hne 2), World.cell?_setCell_same _ _ _ (u := .string { data := #[] }) (by rw [World.cell?_setCell_other _ _ _ _ (hij 1 2 (by decide)), World.cell?_setCell_other _ _ _ _ (hij 0 2 (by decide))]; exact c2)]
  have g3 : ((((w'.setCell ⟨w.heap.size, 0, none⟩ (.int .i64 t)).setCell ⟨w.heap.size, 1, none⟩ (.slice A n c)).setCell ⟨w.heap.size, 2, none⟩ (.string s)).setCell ⟨w.heap.size + 1, 0, none⟩ (.bool false)).cell? ⟨w.heap.size + 1, 0, none⟩ = some (.bool false) := World.cell?_setCell_same _ _ _ (u := .bool false) (by rw [World.cell?_setCell_other _ _ _ _ (hne' 2), World.cell?_setCell_other _ _ _ _ (hne' 1), World.cell?_setCell_other _ _ _ _ (hne' 0)]; exact c3)
  generalize (((w'.setCell ⟨w.heap.size, 0, none⟩ (.int .i64 t)).setCell ⟨w.heap.size, 1, none⟩ (.slice A n c)).setCell ⟨w.heap.size, 2, none⟩ (.string s)).setCell ⟨w.heap.size + 1, 0, none⟩ (.bool false) = wd at g0 g1 g2 g3 hev2
  simp [Leaves, settle, results, Tryd.results8, go_sem, g0, g1, g2, g3]
  exact hev2
def mustA : VL → AV
  | .msg t fs s => .tup [.agg [.v (kI t) 0, .d (.sl 2 (vfsD fs)), .v (.string s) 0], bA false]
  | _ => .tup [.agg [.v (kI 0) 0, .v (.slice none 0 0) 0, .v (.string .empty) 0], bA true]
theorem must_spec {v : VL} : FSpec Tryd.prog 8 [.d (vlD v)] [] fun a cs => a = mustA v ∧ cs = [] := by
  refine ⟨fun X S w xs h1 h2 h3 h4 => ?_⟩
  unfold Reps at h4
  obtain ⟨x, r, rfl, hx, hr⟩ := h4
  unfold Reps at hr
  subst hr
  have key : (∃ t fs s, v = .msg t fs s) ∨ (mustA v = .tup [.agg [.v (kI 0) 0, .v (.slice none 0 0) 0, .v (.string .empty) 0], bA true] ∧ ifcNot 30 (.d (vlD v)) = true) := by
    cases v with
    | msg t fs s => exact .inl ⟨t, fs, s, rfl⟩
    | _ => exact .inr ⟨rfl, rfl⟩
  rcases key with ⟨t, fs, s, rfl⟩ | ⟨hm, hn⟩
  · unfold Rep vlD DRep at hx
    obtain ⟨u, rfl, hu, _, hv⟩ := hx
    have hu := hu rfl
    unfold A.VRep at hv
    obtain ⟨x0, r, e0, hx0, hv⟩ := hv
    unfold A.VRep at hv
    obtain ⟨x1, r, rfl, hx1, hv⟩ := hv
    unfold A.VRep at hv
    obtain ⟨x2, r, rfl, hx2, hv⟩ := hv
    unfold A.VRep at hv
    subst hv
    have hx1' := hx1
    unfold DRep at hx0 hx1 hx2
    obtain ⟨rfl, _⟩ := hx0
    obtain ⟨A, c, rfl, _⟩ := hx1
    obtain ⟨rfl, _⟩ := hx2
    have hu2 : u = .agg #[kI t, .slice A (vfsD fs).length c, .string s] := by
      rw [hu]
      congr 1
      apply Array.ext'
      simpa using e0
    clear hu e0
    subst hu2
    refine (must_tells w).mono fun e w' ⟨he, hev⟩ => ⟨_, _, [], S, he, ⟨rfl, rfl⟩, ?_, ?_, hev.no, fun b hb => .inl hb⟩
    · unfold mustA Rep
      refine ⟨_, rfl, Reps.cons ?_ (Reps.cons mk_v Reps.nil)⟩
      unfold Rep
      refine ⟨[kI t, .slice A (vfsD fs).length c, .string s], rfl, Reps.cons mk_v (Reps.cons ?_ (Reps.cons mk_v Reps.nil)), ?_⟩
      · unfold Rep
        exact DRep.ev hev (fun b _ h => h.elim (fun h => h.elim) id) hx1'
      · intro u hu
        simp at hu
        rcases hu with rfl | rfl | rfl <;> rfl
    · exact h3
  · have hx2 := ifcNot_rep hn hx
    refine (must_panics hx2 w).mono fun e w' ⟨he, hev⟩ => ⟨_, _, [], S, he, ⟨rfl, rfl⟩, ?_, ?_, hev.no, fun b hb => .inl hb⟩
    · rw [hm]
      unfold Rep
      refine ⟨_, rfl, Reps.cons ?_ (Reps.cons mk_v Reps.nil)⟩
      unfold Rep
      refine ⟨[kI 0, .slice none 0 0, .string .empty], rfl, Reps.cons mk_v (Reps.cons mk_v (Reps.cons mk_v Reps.nil)), ?_⟩
      intro u hu
      simp at hu
      rcases hu with rfl | rfl | rfl <;> rfl
    · exact h3
end Go.Proofs.YtjcolfogmmjaoaaDoor
end

section
/- Layer 9: awake. -/
set_option linter.unusedVariables false
set_option linter.unusedSimpArgs false
set_option maxRecDepth 100000
set_option maxHeartbeats 1000000
namespace Go.Proofs.YtjcolfogmmjaoaaDoor
open V A
theorem Split0_spec : FSpec Tryd.prog 47 [.d (.sl 1 [])] [] fun a cs => a = .tup [.v (.slice none 0 0) 0, .v (.slice none 0 0) 0, .v (kI 0) 0] ∧ cs = [] := by
  refine a_enter hT [.d (.sl 1 [])] [] Tryd.func47 rfl rfl rfl ⟨Fit.refl _, trivial⟩ fun c' => ?_
  refine a_loop hT [0, 2, 3] (fun _ : Unit => [.d (.sl 1 []), .v (.slice none 0 0) 0, .v (.slice none 0 0) 0]) (fun _ => []) (fun _ => True) (fun _ => 0) () [] rfl rfl trivial ⟨rfl, rfl, rfl, trivial⟩ rfl trivial ?_
  rintro _ _
  refine a_f hT rfl rfl rfl ?_
  refine a_ret hT [] rfl rfl rfl rfl rfl rfl ?_
  first | exact ⟨rfl, rfl⟩ | rfl
theorem IndexF0_spec {f : FuncId} {cap : List AV} : FSpec Tryd.prog 80 [.v (.slice none 0 0) 0, .fn f cap] [] fun a cs => a = .v (kI (-1)) 0 ∧ cs = [] := by
  refine a_enter hT [.v (.slice none 0 0) 0, .fn f cap] [] Tryd.func80 rfl rfl rfl ⟨rfl, Fit.refl _, trivial⟩ fun c' => ?_
  refine a_loop hT [0, 1, 7, 8] (fun _ : Unit => [.v (.slice none 0 0) 0, .fn f cap, .v (kI 0) 0, .v (kI 0) 0]) (fun _ => []) (fun _ => True) (fun _ => 0) () [] rfl rfl trivial ⟨rfl, Fit.refl _, rfl, rfl, trivial⟩ rfl trivial ?_
  rintro _ _
  refine a_f hT rfl rfl rfl ?_
  refine a_ret hT [] rfl rfl rfl rfl rfl rfl ?_
  first | exact ⟨rfl, rfl⟩ | rfl
theorem ContainsF0_spec {f : FuncId} {cap : List AV} : FSpec Tryd.prog 52 [.v (.slice none 0 0) 0, .fn f cap] [] fun a cs => a = bA false ∧ cs = [] := by
  refine a_enter hT [.v (.slice none 0 0) 0, .fn f cap] [] Tryd.func52 rfl rfl rfl ⟨rfl, Fit.refl _, trivial⟩ fun c' => ?_
  have hF := IndexF0_spec (f := f) (cap := cap)
  refine a_call hT rfl rfl rfl (by kernel_rfl) hF [] [] rfl rfl ?_
  rintro _ _ ⟨rfl, rfl⟩
  refine a_ret hT [] rfl rfl rfl rfl rfl rfl ?_
  first | exact ⟨rfl, rfl⟩ | rfl
def mA : MDP := ⟨mkS [65], []⟩
def s0 : SchP := ⟨[mA], [], []⟩
theorem fits0_spec : FSpec Tryd.prog 31 [schA s0, .v (kI 0) 0, .d (vlD (.msg 0 [] .empty)), .v (kI 1) 0] [] fun a cs => a = bA true ∧ cs = [] := by
  have hS := Split0_spec
  refine a_enter hT [schA s0, .v (kI 0) 0, .d (vlD (.msg 0 [] .empty)), .v (kI 1) 0] [] Tryd.func31 rfl rfl rfl ⟨Fit.refl _, rfl, Fit.refl _, rfl, trivial⟩ fun c' => ?_
  refine a_box hT 20 rfl rfl rfl rfl fun g => ?_
  refine a_new hT hZ 21 rfl rfl rfl rfl fun g1 => ?_
  refine a_gf hT rfl rfl rfl rfl ?_
  refine a_gf hT rfl rfl rfl rfl ?_
  refine a_f hT rfl rfl rfl ?_
  refine a_ix hT _ rfl rfl rfl rfl rfl rfl (by first | omega | assumption) (by first | assumption | rfl) ?_
  refine a_new hT hZ 22 rfl rfl rfl rfl fun g2 => ?_
  refine a_bytes hT rfl rfl rfl rfl rfl rfl rfl (by decide) ?_
  have hS : FSpec Tryd.prog 47 [.d (bytesD ByteArray.empty.data.toList)] [] fun a cs => a = .tup [.v (.slice none 0 0) 0, .v (.slice none 0 0) 0, .v (kI 0) 0] ∧ cs = [] := Split0_spec
  have hC := ContainsF0_spec (f := 53) (cap := [.v (.pointer (some ⟨g2, 0, none⟩)) 22])
  refine a_call hT rfl rfl rfl (by kernel_rfl) hS [] [] rfl rfl ?_
  rintro _ _ ⟨rfl, rfl⟩
  refine a_gf hT rfl rfl rfl rfl ?_
  refine a_call hT rfl rfl rfl (by kernel_rfl) hC [] [] rfl rfl ?_
  rintro _ _ ⟨rfl, rfl⟩
  refine a_f hT rfl rfl rfl ?_
  refine a_loop hT [60, 61, 62] (fun _ : Unit => [.d (.sl 2 (vfsD [])), .v (kI 0) 0, .v (kI 0) 0]) (fun _ => []) (fun _ => True) (fun _ => 0) () [] rfl rfl trivial ⟨rfl, rfl, rfl, trivial⟩ rfl trivial ?_
  rintro _ _
  refine a_f hT rfl rfl rfl ?_
  refine a_ret hT [] rfl rfl rfl rfl rfl rfl ?_
  first | exact ⟨rfl, rfl⟩ | rfl
theorem plain_s0 : Plain0 s0 := ⟨rfl, rfl, by decide, by decide, by decide, by decide, by decide⟩
theorem formed_s0 : formedS s0.ms = true := by kernel_rfl
theorem Fits0_spec : FSpec Tryd.prog 19 [schA s0, .v (kI 0) 0, .d (vlD (.msg 0 [] .empty))] [] fun a cs => a = bA true ∧ cs = [] := by
  have hF := Formed0_spec (ms := s0.ms) plain_s0
  rw [formed_s0] at hF
  refine a_enter hT [schA s0, .v (kI 0) 0, .d (vlD (.msg 0 [] .empty))] [] Tryd.func19 rfl rfl rfl ⟨Fit.refl _, rfl, Fit.refl _, trivial⟩ fun c' => ?_
  have hf := fits0_spec
  refine a_box hT 20 rfl rfl rfl rfl fun g => ?_
  refine a_call hT rfl rfl rfl (by kernel_rfl) hF [] [] rfl rfl ?_
  rintro _ _ ⟨rfl, rfl⟩
  refine a_gt hT rfl rfl rfl rfl ?_
  refine a_gt hT rfl rfl rfl rfl ?_
  refine a_gt hT rfl rfl rfl rfl ?_
  refine a_call hT rfl rfl rfl (by kernel_rfl) hf [] [] rfl rfl ?_
  rintro _ _ ⟨rfl, rfl⟩
  refine a_ret hT [] rfl rfl rfl rfl rfl rfl ?_
  first | exact ⟨rfl, rfl⟩ | rfl
theorem UintKind_spec {n : Int} : FSpec Tryd.prog 20 [.v (kU n) 0] [] fun a cs => a = .v (kI 2) 0 ∧ cs = [] := by
  refine a_enter hT [.v (kU n) 0] [] Tryd.func20 rfl rfl rfl ⟨rfl, trivial⟩ fun c' => ?_
  refine a_ret hT [] rfl rfl rfl rfl rfl rfl ?_
  first | exact ⟨rfl, rfl⟩ | rfl
theorem le_s0 : Le (.agg [.d (.sl 2 [[.v (.string (mkS [65])), .v (.slice none 0 0)]]), .v (.slice none 0 0) 0, .v (.slice none 0 0) 0]) (schA s0) :=
  Le.agg (.cons (DLe.le (DLe.sl (.cons (.cons (DLe.refl _) (.cons (DLe.nil 5) .nil)) .nil))) (.cons le_nil (.cons le_nil .nil)))
theorem awake9_spec : FSpec Tryd.prog 6 [] [] fun a cs => a = bA true ∧ cs = [] := by
  refine a_enter hT [] [] Tryd.func6 rfl rfl rfl trivial fun c' => ?_
  have hF := Fits0_spec
  have hU := UintKind_spec (n := 5)
  refine a_build hT hZ [.v (.string (mkS [65])) 0, .v (.slice none 0 0) 0] rfl rfl rfl rfl rfl rfl ?_
  refine a_lit hT 20 rfl rfl rfl rfl (by kernel_rfl) rfl rfl rfl rfl fun x20 => ?_
  refine a_freeze 2 20 rfl rfl rfl rfl ?_
  refine a_build hT hZ [.d (.sl 2 [[.v (.string (mkS [65])), .v (.slice none 0 0)]]), .v (.slice none 0 0) 0, .v (.slice none 0 0) 0] rfl rfl rfl rfl rfl rfl ?_
  refine a_asL 3 rfl le_s0 ?_
  refine a_build hT hZ [.v (.int .i64 0) 0, .v (.slice none 0 0) 0, .v (.string .empty) 0] rfl rfl rfl rfl rfl rfl ?_
  refine a_run hT 1 rfl rfl ?_
  refine a_asL 5 (b := .d (vlD (.msg 0 [] .empty))) rfl (Le.trans (le_ifcA rfl) (DLe.le (DLe.ifc (.cons (DLe.refl _) (.cons (DLe.nil 2) (.cons (DLe.refl _) .nil)))))) ?_
  refine a_call hT rfl rfl rfl (by kernel_rfl) hF [] [] rfl rfl ?_
  rintro _ _ ⟨rfl, rfl⟩
  refine a_gt hT rfl rfl rfl rfl ?_
  refine a_call hT rfl rfl rfl (by kernel_rfl) hU [] [] rfl rfl ?_
  rintro _ _ ⟨rfl, rfl⟩
  refine a_ret hT [] rfl rfl rfl rfl rfl rfl ?_
  first | exact ⟨rfl, rfl⟩ | rfl
end Go.Proofs.YtjcolfogmmjaoaaDoor
end

section
/- Layer 9: ValueMusts. -/
set_option linter.unusedVariables false
set_option linter.unusedSimpArgs false
set_option maxRecDepth 100000
set_option maxHeartbeats 1000000
namespace Go.Proofs.YtjcolfogmmjaoaaDoor
open V A
theorem bdLeaf {k n u : Int} {b : Bool} {s : ByteArray} (h : s.size ≤ reachN) : BdN (.mk k n u b s 0 []) := .mk h (Nat.zero_le _) (fun _ _ h => by simp at h) (fun _ _ _ h => by simp at h)
mutual
theorem bdC : ∀ (x : ND), BdN x → BdN (oursP (theirsP x))
  | .mk k n u b s t fs, h => by
    cases h with
    | mk hs hl hvl hv =>
    have he : ByteArray.empty.size ≤ reachN := by decide
    unfold theirsP
    split
    · exact bdLeaf he
    split
    · exact bdLeaf he
    split
    · exact bdLeaf he
    split
    · exact bdLeaf hs
    split
    · exact bdLeaf hs
    split
    · exact bdLeaf he
    split
    · unfold oursP
      refine .mk hs (by rw [oursFs_map, List.length_map, theirsFs_map, List.length_map]; exact hl) (fun num vs hm => ?_) (fun num vs x hm hx => bdC_fs fs hv num vs x hm hx)
      rw [oursFs_map, theirsFs_map, List.map_map] at hm
      obtain ⟨f, hf, he⟩ := List.mem_map.1 hm
      obtain ⟨num', vs'⟩ := f
      simp only [Function.comp] at he
      unfold theirsF oursF at he
      cases he
      rw [oursVs_map, List.length_map, theirsVs_map, List.length_map]
      exact hvl _ _ hf
    · exact bdLeaf he
theorem bdC_fs : ∀ (fs : List NF), (∀ num vs x, NF.mk num vs ∈ fs → x ∈ vs → BdN x) → ∀ num vs x, NF.mk num vs ∈ oursFs (theirsFs fs) → x ∈ vs → BdN x
  | [], hv, num, vs, x, hm, hx => by unfold theirsFs oursFs at hm; simp at hm
  | .mk n' vs' :: fs, hv, num, vs, x, hm, hx => by
    unfold theirsFs oursFs at hm
    rcases List.mem_cons.1 hm with he | hm
    · unfold theirsF oursF at he
      cases he
      exact bdC_vs vs' (fun x hx => hv n' vs' x (by simp) hx) x hx
    · exact bdC_fs fs (fun num vs x hm hx => hv num vs x (by simp [hm]) hx) num vs x hm hx
theorem bdC_vs : ∀ (vs : List ND), (∀ x ∈ vs, BdN x) → ∀ x ∈ oursVs (theirsVs vs), BdN x
  | [], hv, x, hx => by unfold theirsVs oursVs at hx; simp at hx
  | y :: vs, hv, x, hx => by
    unfold theirsVs oursVs at hx
    rcases List.mem_cons.1 hx with rfl | hx
    · exact bdC y (hv y (by simp))
    · exact bdC_vs vs (fun x hx => hv x (by simp [hx])) x hx
end
theorem Same_refl_spec {z : ND} (hz : BdN z) : FSpec Tryd.prog 10 [ndA z, ndA z] [] fun a cs => a = bA true ∧ cs = [] := by
  have := Same_spec hz (y := z)
  rw [sameN_refl] at this
  exact this
theorem notmsg {k n u : Int} {b : Bool} {s : ByteArray} {t : Int} {fs : List NF} (hk : k ≠ 7) : mustA (theirsP (.mk k n u b s t fs)) = .tup [.agg [.v (kI 0) 0, .v (.slice none 0 0) 0, .v (.string .empty) 0], bA true] ∧ ∀ num, getP (theirsP (.mk k n u b s t fs)) num = [] := by
  unfold theirsP
  rw [if_neg hk]
  repeat' split
  all_goals exact ⟨rfl, fun _ => rfl⟩
theorem valueMusts_walk {x : ND} {num : Int} (hb : BdN x) : FSpec Tryd.prog 3 [ndA x, .v (kI num) 0] [] fun a cs => a = bA true ∧ cs = [] := by
  have hSm := Small_spec hb
  have hAw := awake9_spec
  have hbz := bdC x hb
  by_cases hs : 0 ≤ smallP x 0 400
  · rw [decide_eq_true hs] at hSm
    have hok := ok_small x 0 400 (by decide) hs
    have hokv := okV_theirs x hok
    have hTh := Theirs_spec hok
    have hGet := (Get_spec hokv (k := num)).ofNd
    have hmu := must_spec (v := theirsP x)
    have hCl := Clean_spec hok
    have hSa := Same_refl_spec hbz
    by_cases hk : ∃ n u b s t fs, x = .mk 7 n u b s t fs
    · obtain ⟨n, u, b, s, t, fs, rfl⟩ := hk
      have hth : theirsP (.mk 7 n u b s t fs) = .msg t (theirsFs fs) s := by unfold theirsP; simp
      have hOu := (Ours_spec hokv).ofNd
      rw [hth] at hmu hOu
      have hL : getP (theirsP (.mk 7 n u b s t fs)) num = getFs (theirsFs fs) num := by rw [hth]; rfl
      rw [hL] at hGet
      cases hok with
      | mk hl hvl hv =>
      cases hb with
      | mk hbs hbl hbvl hbv =>
      have hlen : (nfsD fs).length = fs.length := by rw [nfsD_map, List.length_map]
      have hO2 : FSpec Tryd.prog 11 [.ifc 30 (.agg [.v (kI t) 0, .d (.sl 2 (vfsD (theirsFs fs))), .v (.string s) 0])] [] fun a cs => a = ndA (oursP (theirsP (.mk 7 n u b s t fs))) ∧ cs = [] := by
        rw [hth]; exact hOu.les (.cons (le_ifcA rfl) .nil)
      generalize oursP (theirsP (.mk 7 n u b s t fs)) = z at hO2 hCl hSa
      obtain ⟨zk, zn, zu, zb, zs, zt, zf⟩ := z
      refine a_enter hT [ndA (.mk 7 n u b s t fs), .v (kI num) 0] [] Tryd.func3 rfl rfl rfl ⟨Fit.refl _, rfl, trivial⟩ fun c' => ?_
      refine a_box hT 20 rfl rfl rfl rfl fun g => ?_
      refine a_call hT rfl rfl rfl (by kernel_rfl) hAw [] [] rfl rfl ?_
      rintro _ _ ⟨rfl, rfl⟩
      refine a_gf hT rfl rfl rfl rfl ?_
      refine a_call hT rfl rfl rfl (by kernel_rfl) hSm [] [] rfl rfl ?_
      rintro _ _ ⟨rfl, rfl⟩
      refine a_f hT rfl rfl rfl ?_
      refine a_call hT rfl rfl rfl (by kernel_rfl) hTh [] [] rfl rfl ?_
      rintro _ _ ⟨rfl, rfl⟩
      refine a_call hT rfl rfl rfl (by kernel_rfl) hmu [] [] rfl rfl ?_
      rintro _ _ ⟨rfl, rfl⟩
      refine a_new hT hZ 21 rfl rfl rfl rfl fun g1 => ?_
      refine a_draw hT [] false [(0, false), (1, false), (2, false), (3, false), (4, false), (5, false), (6, false), (7, false), (8, false), (9, false), (10, false), (11, false), (13, false), (12, true), (14, true), (15, true), (16, true), (17, true), (18, true)] rfl rfl (by kernel_rfl) (by kernel_rfl) rfl ?_
      refine a_gf hT rfl rfl rfl rfl ?_
      refine a_gt hT rfl rfl rfl rfl ?_
      refine a_call hT rfl rfl rfl (by kernel_rfl) hO2 [] [] rfl rfl ?_
      rintro _ _ ⟨rfl, rfl⟩
      refine a_call hT rfl rfl rfl (by kernel_rfl) hCl [] [] rfl rfl ?_
      rintro _ _ ⟨rfl, rfl⟩
      refine a_call hT rfl rfl rfl (by kernel_rfl) hSa [] [] rfl rfl ?_
      rintro _ _ ⟨rfl, rfl⟩
      refine a_f hT rfl rfl rfl ?_
      refine a_call hT rfl rfl rfl (by kernel_rfl) hTh [] [] rfl rfl ?_
      rintro _ _ ⟨rfl, rfl⟩
      refine a_call hT rfl rfl rfl (by kernel_rfl) hGet [] [] rfl rfl ?_
      rintro _ _ ⟨rfl, rfl⟩
      refine a_t hT rfl rfl rfl ?_
      refine a_loop hT [1, 2, 7, 52, 53] (fun i : Nat => [.v (kI num) 0, .v (.pointer (some ⟨g, 0, none⟩)) 20, .d (.sl 1 (vlsD (getFs (theirsFs fs) num))), .v (kI fs.length) 0, .v (kI i) 0]) (fun _ => [(20, .blk g 25 [.v (kI 7) 0, .v (kI n) 0, .v (kU u) 0, .v (Value.bool b) 0, .v (Value.string s) 0, .v (kI t) 0, .d (A.Dat.sl 2 (nfsD fs))])]) (fun i => i ≤ fs.length ∧ getFs (theirsFs (fs.drop i)) num = getFs (theirsFs fs) num) (fun i => fs.length - i) 0 [20] rfl rfl ⟨Nat.zero_le _, rfl⟩ ⟨rfl, rfl, rfl, by rw [← hlen]; rfl, rfl, trivial⟩ rfl ⟨⟨rfl, rfl, ⟨rfl, rfl, rfl, rfl, rfl, rfl, rfl, trivial⟩⟩, trivial⟩ ?_
      rintro i ⟨i2, i3⟩
      have hw := wN i (by omega)
      rcases Nat.lt_or_ge i fs.length with hil | hil
      · have hat : (nfsD fs)[(i : Int).toNat]? = some (nfD fs[i]) := by rw [nfsD_map]; simp [hil]
        have hmem := List.getElem_mem hil
        rw [drop_at hil] at i3
        generalize fs[i] = f at hat hmem i3
        obtain ⟨num2, vs⟩ := f
        have hvs := hvl num2 vs hmem
        have i4 : (if num2 = num then theirsVs vs else getFs (theirsFs (fs.drop (i + 1))) num) = getFs (theirsFs fs) num := by rw [← i3]; conv => rhs; unfold theirsFs theirsF getFs
        refine a_t hT rfl rfl (decide_eq_true (by show (i : Int) < (fs.length : Int); omega)) ?_
        refine a_ix hT _ rfl rfl rfl rfl rfl rfl (by first | omega | assumption) (by first | assumption | rfl) ?_
        refine a_if hT rfl rfl (fun h => ?_) (fun h => ?_)
        · have h := bne_iff_ne.1 h
          rw [if_neg h] at i4
          exact a_next hT (i + 1) [20] rfl rfl ⟨⟨by show i + 1 ≤ fs.length; omega, i4⟩, by show fs.length - (i + 1) < fs.length - i; omega⟩ ⟨rfl, rfl, rfl, rfl, by show Value.int .i64 _ = Value.int .i64 _; rw [hw], trivial⟩ rfl ⟨⟨rfl, rfl, ⟨rfl, rfl, rfl, rfl, rfl, rfl, rfl, trivial⟩⟩, trivial⟩
        · simp at h
          rw [if_pos h] at i4
          rw [← i4]
          have hlv : (ndsD vs).length = vs.length := by rw [ndsD_map, List.length_map]
          have hlt : (vlsD (theirsVs vs)).length = vs.length := by rw [vlsD_map, List.length_map, theirsVs_map, List.length_map]
          refine a_ix hT _ rfl rfl rfl rfl rfl rfl (by first | omega | assumption) (by first | assumption | rfl) ?_
          refine a_f hT rfl rfl (by show ((((vlsD (theirsVs vs)).length : Int)) != ((ndsD vs).length : Int)) = false; rw [hlv, hlt]; simp) ?_
          refine a_loop hT [1, 2, 7, 8, 52, 53, 75, 76] (fun j : Nat => [.v (kI num) 0, .v (.pointer (some ⟨g, 0, none⟩)) 20, .d (.sl 1 (vlsD (theirsVs vs))), .v (kI i) 0, .v (kI fs.length) 0, .v (kI i) 0, .v (kI vs.length) 0, .v (kI j) 0]) (fun _ => [(20, .blk g 25 [.v (kI 7) 0, .v (kI n) 0, .v (kU u) 0, .v (Value.bool b) 0, .v (Value.string s) 0, .v (kI t) 0, .d (A.Dat.sl 2 (nfsD fs))])]) (fun j => j ≤ vs.length) (fun j => vs.length - j) 0 [20] rfl rfl (Nat.zero_le _) ⟨rfl, rfl, rfl, rfl, rfl, rfl, by rw [← hlt]; rfl, rfl, trivial⟩ rfl ⟨⟨rfl, rfl, ⟨rfl, rfl, rfl, rfl, rfl, rfl, rfl, trivial⟩⟩, trivial⟩ ?_
          rintro j j2
          have hw2 := wN j (by omega)
          rcases Nat.lt_or_ge j vs.length with hjl | hjl
          · have hat2 : (ndsD vs)[(j : Int).toNat]? = some (ndD vs[j]) := by rw [ndsD_map]; simp [hjl]
            have hat3 : (vlsD (theirsVs vs))[(j : Int).toNat]? = some [vlD (theirsP vs[j])] := by rw [vlsD_map, theirsVs_map]; simp [hjl]
            have hyk := hv num2 vs vs[j] hmem (List.getElem_mem hjl)
            have hyb := hbv num2 vs vs[j] hmem (List.getElem_mem hjl)
            generalize vs[j] = y at hat2 hat3 hyk hyb
            have hyO := Ours_spec (okV_theirs y hyk)
            have hyC := Clean_spec hyk
            have hyS := Same_refl_spec (bdC y hyb)
            generalize oursP (theirsP y) = q at hyO hyC hyS
            obtain ⟨yk, yn, yu, yb, ys, yt, yf⟩ := y
            obtain ⟨qk, qn, qu, qb, qs, qt, qf⟩ := q
            refine a_t hT rfl rfl (decide_eq_true (by show (j : Int) < (vs.length : Int); omega)) ?_
            refine a_draw hT [] false [(0, false), (1, false), (2, false), (3, false), (5, false), (6, false), (7, false), (8, false), (9, false), (10, false), (11, false), (12, false), (13, false), (4, true), (14, true), (15, true), (16, true)] rfl rfl (by kernel_rfl) (by kernel_rfl) rfl ?_
            refine a_ix hT _ rfl rfl rfl rfl rfl rfl (by first | omega | assumption) (by first | assumption | rfl) ?_
            refine a_ix hT _ rfl rfl rfl rfl rfl rfl (by first | omega | assumption) (by first | assumption | rfl) ?_
            refine a_ix hT _ rfl rfl rfl rfl rfl rfl (by first | omega | assumption) (by first | assumption | rfl) ?_
            refine a_call hT rfl rfl rfl (by kernel_rfl) hyO [] [] rfl rfl ?_
            rintro _ _ ⟨rfl, rfl⟩
            refine a_call hT rfl rfl rfl (by kernel_rfl) hyC [] [] rfl rfl ?_
            rintro _ _ ⟨rfl, rfl⟩
            refine a_call hT rfl rfl rfl (by kernel_rfl) hyS [] [] rfl rfl ?_
            rintro _ _ ⟨rfl, rfl⟩
            refine a_f hT rfl rfl rfl ?_
            exact a_next hT (j + 1) [20] rfl rfl ⟨by show j + 1 ≤ vs.length; omega, by show vs.length - (j + 1) < vs.length - j; omega⟩ ⟨rfl, rfl, rfl, rfl, rfl, rfl, rfl, by show Value.int .i64 _ = Value.int .i64 _; rw [hw2], trivial⟩ rfl ⟨⟨rfl, rfl, ⟨rfl, rfl, rfl, rfl, rfl, rfl, rfl, trivial⟩⟩, trivial⟩
          · refine a_f hT rfl rfl (decide_eq_false (by show ¬ (j : Int) < (vs.length : Int); omega)) ?_
            refine a_ret hT [] rfl rfl rfl rfl rfl rfl ?_
            exact ⟨rfl, rfl⟩
      · refine a_f hT rfl rfl (decide_eq_false (by show ¬ (i : Int) < (fs.length : Int); omega)) ?_
        rw [List.drop_eq_nil_of_le hil] at i3
        rw [← i3]
        refine a_ret hT [] rfl rfl rfl rfl rfl rfl ?_
        exact ⟨rfl, rfl⟩
    · obtain ⟨k, n, u, b, s, t, fs⟩ := x
      have hk7 : k ≠ 7 := fun e => hk ⟨n, u, b, s, t, fs, by rw [e]⟩
      obtain ⟨hm1, hg1⟩ := notmsg (n := n) (u := u) (b := b) (s := s) (t := t) (fs := fs) hk7
      rw [hm1] at hmu
      rw [hg1] at hGet
      refine a_enter hT [ndA (.mk k n u b s t fs), .v (kI num) 0] [] Tryd.func3 rfl rfl rfl ⟨Fit.refl _, rfl, trivial⟩ fun c' => ?_
      refine a_box hT 20 rfl rfl rfl rfl fun g => ?_
      refine a_call hT rfl rfl rfl (by kernel_rfl) hAw [] [] rfl rfl ?_
      rintro _ _ ⟨rfl, rfl⟩
      refine a_gf hT rfl rfl rfl rfl ?_
      refine a_call hT rfl rfl rfl (by kernel_rfl) hSm [] [] rfl rfl ?_
      rintro _ _ ⟨rfl, rfl⟩
      refine a_f hT rfl rfl rfl ?_
      refine a_call hT rfl rfl rfl (by kernel_rfl) hTh [] [] rfl rfl ?_
      rintro _ _ ⟨rfl, rfl⟩
      refine a_call hT rfl rfl rfl (by kernel_rfl) hmu [] [] rfl rfl ?_
      rintro _ _ ⟨rfl, rfl⟩
      refine a_new hT hZ 21 rfl rfl rfl rfl fun g1 => ?_
      refine a_draw hT [] false [(0, false), (1, false), (2, false), (3, false), (4, false), (5, false), (6, false), (7, false), (8, false), (9, false), (10, false), (11, false), (13, false), (12, true), (14, true), (15, true), (16, true), (17, true), (18, true)] rfl rfl (by kernel_rfl) (by kernel_rfl) rfl ?_
      refine a_g hT rfl rfl rfl (fun h => ?_) (fun h => ?_)
      · simp at h
        (exfalso; first | omega | contradiction)
      · simp at h
        refine a_g hT rfl rfl rfl (fun h1 => ?_) (fun h1 => ?_)
        · have h1 := eq_of_beq h1
          (exfalso; first | omega | contradiction)
        · have h1 := ne_of_beq_false h1
          refine a_f hT rfl rfl rfl ?_
          refine a_call hT rfl rfl rfl (by kernel_rfl) hTh [] [] rfl rfl ?_
          rintro _ _ ⟨rfl, rfl⟩
          refine a_call hT rfl rfl rfl (by kernel_rfl) hGet [] [] rfl rfl ?_
          rintro _ _ ⟨rfl, rfl⟩
          refine a_if hT rfl rfl (fun h2 => ?_) (fun h2 => ?_)
          · have h2 := eq_of_beq h2
            (exfalso; first | omega | contradiction)
          · have h2 := ne_of_beq_false h2
            refine a_ret hT [] rfl rfl rfl rfl rfl rfl ?_
            first | exact ⟨rfl, rfl⟩ | rfl
  · rw [decide_eq_false hs] at hSm
    obtain ⟨k, n, u, b, s, t, fs⟩ := x
    refine a_enter hT [ndA (.mk k n u b s t fs), .v (kI num) 0] [] Tryd.func3 rfl rfl rfl ⟨Fit.refl _, rfl, trivial⟩ fun c' => ?_
    refine a_box hT 20 rfl rfl rfl rfl fun g => ?_
    refine a_call hT rfl rfl rfl (by kernel_rfl) hAw [] [] rfl rfl ?_
    rintro _ _ ⟨rfl, rfl⟩
    refine a_gf hT rfl rfl rfl rfl ?_
    refine a_call hT rfl rfl rfl (by kernel_rfl) hSm [] [] rfl rfl ?_
    rintro _ _ ⟨rfl, rfl⟩
    refine a_t hT rfl rfl rfl ?_
    refine a_call hT rfl rfl rfl (by kernel_rfl) hAw [] [] rfl rfl ?_
    rintro _ _ ⟨rfl, rfl⟩
    refine a_ret hT [] rfl rfl rfl rfl rfl rfl ?_
    first | exact ⟨rfl, rfl⟩ | rfl
end Go.Proofs.YtjcolfogmmjaoaaDoor
end

section
/- []byte("..") of a literal: bytes converted to bytes; a mark is laid on them. It holds of any program. -/
set_option linter.unusedVariables false
set_option linter.unusedSimpArgs false
set_option maxRecDepth 100000
namespace Go.Proofs.YtjcolfogmmjaoaaDoor.A
open V
mutual
theorem DRep.cells {M : Nat → Prop} {w w' : World} (hc : ∀ b, w'.cell? b = w.cell? b) (hz : w.heap.size ≤ w'.heap.size) : ∀ {d : Dat} {x : Value}, DRep M w d x → DRep M w' d x
  | .v u, x, h => by unfold DRep at h ⊢; exact h
  | .sl k es, x, h => by
    unfold DRep at h ⊢
    obtain ⟨A, c, e, h1, hk, hr⟩ := h
    refine ⟨A, c, e, h1, hk, fun hn => ?_⟩
    obtain ⟨ad, ha, hM, hlt, hL⟩ := hr hn
    exact ⟨ad, ha, hM, Nat.lt_of_lt_of_le hlt hz, SRep.cells hc hz hL⟩
  | .ifc t ag ds, x, h => by
    unfold DRep at h ⊢
    obtain ⟨u, e, h1, h2, h3⟩ := h
    exact ⟨u, e, h1, h2, VRep.cells hc hz h3⟩
  | .p ds, x, h => by
    unfold DRep at h ⊢
    obtain ⟨ad, e, hM, hlt, hL⟩ := h
    exact ⟨ad, e, hM, Nat.lt_of_lt_of_le hlt hz, LRep.cells hc hz hL⟩
theorem LRep.cells {M : Nat → Prop} {w w' : World} (hc : ∀ b, w'.cell? b = w.cell? b) (hz : w.heap.size ≤ w'.heap.size) : ∀ {ds : List Dat} {ad : Addr} {i : Nat}, LRep M w ds ad i → LRep M w' ds ad i
  | [], _, _, _ => by unfold LRep; trivial
  | d :: ds, ad, i, h => by
    unfold LRep at h ⊢
    obtain ⟨⟨x, h1, hx⟩, h2⟩ := h
    exact ⟨⟨x, by rw [hc]; exact h1, DRep.cells hc hz hx⟩, LRep.cells hc hz h2⟩
theorem SRep.cells {M : Nat → Prop} {w w' : World} (hc : ∀ b, w'.cell? b = w.cell? b) (hz : w.heap.size ≤ w'.heap.size) : ∀ {es : List (List Dat)} {ad : Addr} {i : Nat}, SRep M w es ad i → SRep M w' es ad i
  | [], _, _, _ => by unfold SRep; trivial
  | e :: es, ad, i, h => by
    unfold SRep at h ⊢
    exact ⟨LRep.cells hc hz h.1, SRep.cells hc hz h.2⟩
theorem VRep.cells {M : Nat → Prop} {w w' : World} (hc : ∀ b, w'.cell? b = w.cell? b) (hz : w.heap.size ≤ w'.heap.size) : ∀ {ds : List Dat} {xs : List Value}, VRep M w ds xs → VRep M w' ds xs
  | [], xs, h => by unfold VRep at h ⊢; exact h
  | d :: ds, xs, h => by
    unfold VRep at h ⊢
    obtain ⟨x, r, e, hx, h2⟩ := h
    exact ⟨x, r, e, DRep.cells hc hz hx, VRep.cells hc hz h2⟩
end
section
variable {P : Program} {L : List TD} {n : Nat} {Q : Exit → Act → World → Prop} {c : Ctx}
variable {s : AMS} {f f' : AEnv} {σ σ' : Store} {κ : List Kt} {all : Array Oper} {dec : List Nat} {rest : List (Oper × Bool)} {m : Mode} {o : Oper} {al : Bool} {ob : Obs}
theorem a_mark (hT : TOk P L) {src e : TypeId} {x : Operand} {v v' : Value} {k h0 : Nat} {es : List (List Dat)} (h : machA L n fuel s f σ [] = ⟨.op m κ all dec o true rest, f', σ', ob⟩) (hob : ob.map (·.1) = ob.map (·.2)) (ho : o.op = .convert src src x) (hs : tl L src = .sl e k) (he : tl L e = .int .u8)
    (hx : evA n f' x = .row v h0) (hl : look σ' h0 = some (.row v' e k es)) (hvv : v = v') (hne : es ≠ []) (hk : DenA c P n Q (.ops (m.hap true) κ all dec rest) (putA f' o.dst (.d (.sl k es))) (del σ' h0)) : DenA c P n Q s f σ := by
  subst hvv
  refine a_eff hT (fun a σ1 => a = .d (.sl k es) ∧ σ1 = del σ' h0) h hob (fun Y Su w fc hd hY hh henv => ?_) (fun a σ1 ⟨ha, hs⟩ => by subst ha; subst hs; exact hk)
  obtain ⟨S1, S2, hS, hdis, hc, hrest⟩ := hh.take hl
  have hfr := row_frozen hc hS hdis hd
  obtain ⟨hS1, hkl, xs, hown, hv⟩ := hc
  have hxv := henv.eval (n := n) x
  rw [hx] at hxv
  unfold Rep at hxv
  rcases hown.2 with ⟨rfl, h2⟩ | ⟨g, cap, cur, rfl, _⟩
  · exact absurd (List.eq_nil_of_length_eq_zero h2) hne
  have h1 := (sl_tl hT hs).1
  have h2 := int_tl hT he
  have hrun : ∃ w', (convert src src (.slice (some ⟨g, 0, none⟩) es.length cap)).run P w = .ok (.slice (some ⟨g, 0, none⟩) es.length cap) w' ∧ Ev (at1 g) w w' ∧ ∀ b, w'.cell? b = w.cell? b := by
    unfold convert
    simp only [Sem.run_bind, run_underlying h1, Result.andThen_ok, run_underlying h2, beq_self_eq_true, markStringish, run_shape]
    cases hsh : w.shape? g with
    | none => exact ⟨w, by simp, Ev.refl _ _, fun _ => rfl⟩
    | some p =>
      obtain ⟨t, q⟩ := p
      exact ⟨_, by simp only [Sem.run_bind, run_freeze, Result.andThen_ok, Sem.run_pure], Ev.freeze w ⟨g, q, none⟩ 1, cell_freeze w _ _⟩
  obtain ⟨w', hrun, hev, hcl⟩ := hrun
  have hrun' : (execOp (ev n fc) o).run P w = .ok (.value (.slice (some ⟨g, 0, none⟩) es.length cap)) w' := by
    unfold execOp
    simp only [ho, Sem.run_bind, Sem.run_pure, hxv.1, hrun, Result.andThen_ok]
  rw [hrun']
  have hg : S1 g := (hS1 g).2 rfl
  refine ⟨_, _, S2, ⟨rfl, rfl⟩, ?_, hrest.ev hev (fun b _ h => ?_) (fun b hb h => ?_), hev.mono fun b _ h => ?_, fun b hb => .inl ((hS b).2 (.inr hb))⟩
  · unfold Rep
    exact DRep.cells hcl hev.size hfr
  · rcases h with h | h | h
    · unfold at1 at h; subst h; exact .inl ((hS b).2 (.inl hg))
    · exact .inl ((hS b).2 (.inr h))
    · exact .inr h
  · unfold at1 at h; subst h; exact hdis b hg hb
  · unfold at1 at h; subst h; exact (hS b).2 (.inl hg)
end
end Go.Proofs.YtjcolfogmmjaoaaDoor.A
end

section
/- Layer 11: awake. -/
set_option linter.unusedVariables false
set_option linter.unusedSimpArgs false
set_option maxRecDepth 100000
set_option maxHeartbeats 1000000
namespace Go.Proofs.YtjcolfogmmjaoaaDoor
open V A
def fX : FDP := ⟨1, mkS [120], 1, false, 0⟩
def mX : MDP := ⟨mkS [65], [fX]⟩
def sX : List MDP := [mX]
theorem plain_sX : Plain0 ⟨sX, [], []⟩ := ⟨rfl, rfl, by decide, by decide, by decide, by decide, by decide⟩
theorem formed_sX : formedS sX = true := by kernel_rfl
theorem flat_mX : FlatM mX := ⟨by decide, by decide, by decide, by decide⟩
def vX : VL := .msg 0 [.mk 1 [.int 2]] (mkS [])
theorem msg_X : msgP mX ((0 : Nat) : Int) [8, 1, 8, 2] = some vX := by rfl
theorem okV_X : OkV vX := .msg (by decide) (fun num vs h => by simp at h; obtain ⟨rfl, rfl⟩ := h; decide) (fun num vs x h hx => by simp at h; obtain ⟨rfl, rfl⟩ := h; simp at hx; subst hx; exact .int 2)
def zX : ND := .mk 7 0 0 false .empty 0 [.mk 1 [.mk 1 2 0 false .empty 0 []]]
theorem ours_X : oursP vX = zX := by rfl
theorem bd_zX : BdN zX := .mk (by decide) (by decide) (fun num vs h => by simp at h; obtain ⟨rfl, rfl⟩ := h; decide) (fun num vs x h hx => by simp at h; obtain ⟨rfl, rfl⟩ := h; simp at hx; subst hx; exact bdLeaf (by decide))
theorem awake11_spec : FSpec Tryd.prog 15 [] [] fun a cs => a = bA true ∧ cs = [] := by
  have hD := Decode_spec (d := mX) (t := 0) (bs := [8, 1, 8, 2]) plain_sX formed_sX rfl flat_mX (by decide)
  rw [msg_X] at hD
  have hO := (Ours_spec okV_X).ofNd
  rw [ours_X] at hO
  have hSm := Same_refl_spec bd_zX
  refine a_enter hT [] [] Tryd.func15 rfl rfl rfl trivial fun c' => ?_
  refine a_build hT hZ [.v (kI 1) 0, .v (.string (mkS [120])) 0, .v (kI 1) 0, .v (.bool false) 0, .v (kI 0) 0] rfl rfl rfl rfl rfl rfl ?_
  refine a_lit hT 20 rfl rfl rfl rfl (by kernel_rfl) rfl rfl rfl rfl fun x20 => ?_
  refine a_freeze 5 20 rfl rfl rfl rfl ?_
  refine a_build hT hZ [.v (.string (mkS [65])) 0, .d (.sl 5 [eF fX])] rfl rfl rfl rfl rfl rfl ?_
  refine a_lit hT 21 rfl rfl rfl rfl (by kernel_rfl) rfl rfl rfl rfl fun x21 => ?_
  refine a_freeze 7 21 rfl rfl rfl rfl ?_
  refine a_build hT hZ [.d (.sl 2 [eM mX]), .v (.slice none 0 0) 0, .v (.slice none 0 0) 0] rfl rfl rfl rfl rfl rfl ?_
  refine a_new hT hZ 22 rfl rfl rfl rfl fun g => ?_
  refine a_run hT 1 rfl rfl ?_
  refine a_cellL 22 1 (b := .d (.sl 2 [])) rfl rfl rfl le_nil ?_
  refine a_cellL 22 2 (b := .d (.sl 5 [])) rfl rfl rfl le_nil ?_
  refine a_lit hT 23 rfl rfl rfl rfl (by kernel_rfl) rfl rfl rfl rfl fun x23 => ?_
  refine a_mark hT rfl rfl rfl rfl rfl rfl rfl rfl (fun h => by cases h) ?_
  refine a_call hT rfl rfl rfl (by kernel_rfl) hD [] [] rfl rfl ?_
  rintro _ _ ⟨rfl, rfl⟩
  refine a_gt hT rfl rfl rfl rfl ?_
  refine a_call hT rfl rfl rfl (by kernel_rfl) hO [] [] rfl rfl ?_
  rintro _ _ ⟨rfl, rfl⟩
  refine a_build hT hZ [.v (Value.int IntKind.i64 1) 0, .v (Value.int IntKind.i64 2) 0, .v (Value.int IntKind.u64 0) 0, .v (Value.bool false) 0, .v (Value.string ByteArray.empty) 0, .v (Value.int IntKind.i64 0) 0, .v (Value.slice none 0 0) 0] rfl rfl rfl rfl rfl rfl ?_
  refine a_lit hT 23 rfl rfl rfl rfl (by kernel_rfl) rfl rfl rfl rfl fun x23 => ?_
  refine a_freeze 22 23 rfl rfl rfl rfl ?_
  refine a_build hT hZ [.v (kI 1) 0, .d (.sl 7 [[.v (kI 1), .v (kI 2), .v (kU 0), .v (.bool false), .v (.string .empty), .v (kI 0), .v (.slice none 0 0)]])] rfl rfl rfl rfl rfl rfl ?_
  refine a_lit hT 24 rfl rfl rfl rfl (by kernel_rfl) rfl rfl rfl rfl fun x24 => ?_
  refine a_freeze 24 24 rfl rfl rfl rfl ?_
  refine a_build hT hZ [.v (kI 7) 0, .v (kI 0) 0, .v (kU 0) 0, .v (.bool false) 0, .v (.string .empty) 0, .v (kI 0) 0, .d (.sl 2 [[.v (kI 1), .sl 7 [[.v (kI 1), .v (kI 2), .v (kU 0), .v (.bool false), .v (.string .empty), .v (kI 0), .v (.slice none 0 0)]]]])] rfl rfl rfl rfl rfl rfl ?_
  refine a_asL 25 (b := ndA zX) rfl (Le.agg (.cons (Le.refl _) (.cons (Le.refl _) (.cons (Le.refl _) (.cons (Le.refl _) (.cons (Le.refl _) (.cons (Le.refl _) (.cons (DLe.le (DLe.sl (.cons (.cons (DLe.refl _) (.cons (DLe.sl (.cons (.cons (DLe.refl _) (.cons (DLe.refl _) (.cons (DLe.refl _) (.cons (DLe.refl _) (.cons (DLe.refl _) (.cons (DLe.refl _) (.cons (DLe.nil 2) .nil))))))) .nil)) .nil)) .nil))) .nil)))))))) ?_
  refine a_call hT rfl rfl rfl (by kernel_rfl) hSm [] [] rfl rfl ?_
  rintro _ _ ⟨rfl, rfl⟩
  refine a_ret hT [] rfl rfl rfl rfl rfl rfl ?_
  first | exact ⟨rfl, rfl⟩ | rfl
end Go.Proofs.YtjcolfogmmjaoaaDoor
end

section
/- Layer 11: DecodePacked, plainly. -/
set_option linter.unusedVariables false
set_option linter.unusedSimpArgs false
set_option maxRecDepth 100000
set_option maxHeartbeats 1000000
namespace Go.Proofs.YtjcolfogmmjaoaaDoor
open V A
theorem takeP_vb : ∀ (m i acc : Nat) (rest : List UInt8), i ≤ 9 → acc < 2 ^ (7 * i) → m * 2 ^ (7 * i) < 18446744073709551616 → takeP (vb m ++ rest) i acc = (acc + m * 2 ^ (7 * i), i + (vb m).length, 0) := by
  intro m
  induction m using Nat.strongRecOn with
  | _ m ih =>
  intro i acc rest hi ha hm
  have hvm : vb m = vb m := rfl
  conv at hvm => rhs; unfold vb
  by_cases h : 127 < m
  · rw [if_pos h] at hvm
    have hc : (UInt8.ofNat (m % 128 + 128)).toNat = m % 128 + 128 := by simp [UInt8.toNat_ofNat']; omega
    have hi9 : i ≠ 9 := fun e => by subst e; have : (2 : Nat) ^ (7 * 9) = 9223372036854775808 := by decide
                                    omega
    rw [hvm, List.cons_append]
    unfold takeP
    rw [if_neg (fun h => hi9 h.1), if_neg (by rw [hc]; omega), hc]
    have e1 : (m % 128 + 128) % 128 = m % 128 := by omega
    rw [e1]
    have e2 : (2 : Nat) ^ (7 * (i + 1)) = 2 ^ (7 * i) * 128 := by rw [show 7 * (i + 1) = 7 * i + 7 by omega, Nat.pow_add]
    have e3 : m * 2 ^ (7 * i) = m % 128 * 2 ^ (7 * i) + m / 128 * (2 ^ (7 * i) * 128) := by
      conv => lhs; rw [← Nat.div_add_mod m 128]
      rw [Nat.add_mul]
      generalize 2 ^ (7 * i) = z
      rw [Nat.mul_comm 128 (m / 128), Nat.mul_assoc, Nat.mul_comm 128 z]
      omega
    have e4 : m % 128 * 2 ^ (7 * i) ≤ 127 * 2 ^ (7 * i) := Nat.mul_le_mul_right _ (by omega)
    rw [ih (m / 128) (by omega) (i + 1) _ rest (by omega) (by rw [e2]; omega) (by rw [e2]; omega), e2]
    simp only [List.length_cons]
    congr 1
    · omega
    · congr 1
      omega
  · rw [if_neg h] at hvm
    have hc : (UInt8.ofNat m).toNat = m := by simp [UInt8.toNat_ofNat']; omega
    rw [hvm]
    show takeP (UInt8.ofNat m :: rest) i acc = _
    unfold takeP
    rw [if_neg (by
      rintro ⟨rfl, h2⟩
      rw [hc] at h2
      have : (2 : Nat) ^ (7 * 9) = 9223372036854775808 := by decide
      omega), if_pos (by rw [hc]; omega), hc]
    have : m % 128 = m := by omega
    rw [this]
    rfl
theorem takeP_vb0 {n : Nat} (h : n < 18446744073709551616) (rest : List UInt8) : takeP (vb n ++ rest) 0 0 = (n, (vb n).length, 0) := by
  rw [takeP_vb n 0 0 rest (by decide) (by decide) (by simpa using h)]
  simp
theorem vb_pos (n : Nat) : 1 ≤ (vb n).length := by
  unfold vb
  split <;> simp
theorem takeFP_2 {data rest : List UInt8} (h : data.length < 18446744073709551616) : takeFP (34 :: (vb data.length ++ (data ++ rest))) = (⟨4, 2, 0, data⟩, 1 + ((vb data.length).length + data.length), 0) := by
  have h0 : takeP (34 :: (vb data.length ++ (data ++ rest))) 0 0 = (34, 1, 0) := by unfold takeP; rfl
  unfold takeFP
  rw [h0]
  have h1 := takeP_vb0 h (data ++ rest)
  have hf : formedW ⟨min (34 / 8) 536870912, 34 % 8, 0, []⟩ = true := by decide
  simp only [hf, List.drop_succ_cons, List.drop_zero, h1]
  have hlen : ¬ (vb data.length ++ (data ++ rest)).length - (vb data.length).length < data.length := by simp
  rw [if_neg (by simp), if_neg (by simp), if_neg (by simp), if_neg (by simp), if_neg (by simp), if_neg (by simp), if_neg hlen, List.drop_left, List.take_left]
  rfl
theorem takeFP_0 {n : Nat} {rest : List UInt8} (h : n < 18446744073709551616) : takeFP (32 :: (vb n ++ rest)) = (⟨4, 0, n, []⟩, 1 + (vb n).length, 0) := by
  have h0 : takeP (32 :: (vb n ++ rest)) 0 0 = (32, 1, 0) := by unfold takeP; rfl
  unfold takeFP
  rw [h0]
  have h1 := takeP_vb0 h rest
  have hf : formedW ⟨min (32 / 8) 536870912, 32 % 8, 0, []⟩ = true := by decide
  simp only [hf, List.drop_succ_cons, List.drop_zero, h1]
  rw [if_neg (by simp), if_neg (by simp), if_pos (by simp), if_neg (by simp)]
  rfl
/-- A field of bytes, as it is written. -/
def pk (data : List UInt8) : List UInt8 := 34 :: (vb data.length ++ data)
def one1 (n : Nat) : List UInt8 := 32 :: vb n
theorem split_pk {data rest : List UInt8} (h : data.length < 18446744073709551616) : splitW (pk data ++ rest) = (splitW rest).map ((⟨4, 2, 0, data⟩, pk data) :: ·) := by
  unfold pk
  have e : (34 :: (vb data.length ++ data)) ++ rest = 34 :: (vb data.length ++ (data ++ rest)) := by simp
  rw [e, splitW_cons (by simp), takeFP_2 h, if_neg (by simp)]
  have e1 : (34 :: (vb data.length ++ (data ++ rest))) = (34 :: (vb data.length ++ data)) ++ rest := by simp
  have e2 : 1 + ((vb data.length).length + data.length) = (34 :: (vb data.length ++ data)).length := by simp; omega
  dsimp only
  rw [e1, e2, List.drop_left, List.take_left]
theorem split_one {n : Nat} {rest : List UInt8} (h : n < 18446744073709551616) : splitW (one1 n ++ rest) = (splitW rest).map ((⟨4, 0, n, []⟩, one1 n) :: ·) := by
  unfold one1
  rw [List.cons_append, splitW_cons (by simp), takeFP_0 h, if_neg (by simp)]
  have e1 : (32 :: (vb n ++ rest)) = (32 :: vb n) ++ rest := by simp
  have e2 : 1 + (vb n).length = (32 :: vb n).length := by simp; omega
  dsimp only
  rw [e1, e2, List.drop_left, List.take_left]
theorem split_ones : ∀ (ns : List Nat), (∀ n ∈ ns, n < 18446744073709551616) → splitW (ns.flatMap one1) = some (ns.map fun n => (⟨4, 0, n, []⟩, one1 n))
  | [], _ => rfl
  | n :: ns, h => by
    rw [List.flatMap_cons, split_one (h n (by simp)), split_ones ns fun m hm => h m (by simp [hm])]
    rfl
def fP (kk : Int) : FDP := ⟨4, mkS [108], kk, true, 0⟩
def mP (kk : Int) : MDP := ⟨mkS [65], [fP kk]⟩
theorem up_vb {kk : Int} (hk : wireK kk = 0) : ∀ (ns : List Nat), (∀ n ∈ ns, n < 18446744073709551616) → upW kk (ns.flatMap vb) = some (ns.map (numP kk))
  | [], _ => rfl
  | n :: ns, h => by
    have hp := vb_pos n
    rw [List.flatMap_cons, upW_cons (fun e => by have h9 := congrArg List.length e; rw [List.length_append] at h9; have : ([] : List UInt8).length = 0 := rfl; omega)]
    have ht : takeK (wireK kk) (vb n ++ ns.flatMap vb) = (n, (vb n).length, 0) := by
      unfold takeK
      rw [if_pos hk, takeP_vb0 (h n (by simp))]
    rw [ht, if_neg (by simp)]
    dsimp only
    rw [List.drop_left, up_vb hk ns fun m hm => h m (by simp [hm])]
    rfl
theorem kn2 {kk : Int} (hk : wireK kk = 0) : knownP (mP kk) (4 : Nat) (2 : Nat) = true := by
  unfold knownP mP fP
  simp [packedK, hk]
theorem kn0 {kk : Int} (hk : wireK kk = 0) : knownP (mP kk) (4 : Nat) (0 : Nat) = true := by
  unfold knownP mP fP
  simp [hk]
/-- Entries that are all known, of the field alone. -/
theorem msg_of {kk : Int} {bs : List UInt8} {ws : List (FW × List UInt8)} {l : List VL} (hs : splitW bs = some ws) (hn : ∀ x ∈ ws, x.1.num = 4) (hkn : ∀ x ∈ ws, knownP (mP kk) x.1.num x.1.typ = true) (hv : valsP (fP kk) (ws.map (·.1)) = some l) :
    msgP (mP kk) ((0 : Nat) : Int) bs = some (.msg 0 (if l.isEmpty then [] else [.mk 4 l]) (mkS [])) := by
  unfold msgP
  rw [hs]
  have h1 : knP (mP kk) ws 4 = ws.map (·.1) := by
    unfold knP
    rw [List.filter_eq_self]
    intro x hx
    obtain ⟨y, hy, rfl⟩ := List.mem_map.1 hx
    rw [hkn y hy, hn y hy]
    rfl
  have h2 : unkP (mP kk) ws = [] := by
    unfold unkP
    rw [List.filter_eq_nil_iff.2 (fun x hx => by rw [hkn x hx]; simp)]
    rfl
  show Option.map _ (fldsP (knP (mP kk) ws) [fP kk]) = _
  unfold fldsP
  have h3 : ownP (fP kk) (knP (mP kk) ws (fP kk).num) = ws.map (·.1) := by
    show ownP (fP kk) (knP (mP kk) ws 4) = _
    rw [h1]
    unfold ownP fP
    simp
  rw [h3, hv, h2]
  have h4 : keepP (fP kk) l = !l.isEmpty := by unfold keepP fP; simp
  show some (VL.msg 0 (if keepP (fP kk) l then _ else _) _) = _
  rw [h4]
  cases l <;> rfl
def outP (kk : Int) (ns : List Nat) : VL := .msg 0 (if (ns.map (numP kk)).isEmpty then [] else [.mk 4 (ns.map (numP kk))]) (mkS [])
theorem packed_msg {kk : Int} (hk : wireK kk = 0) {ns : List Nat} (h : ∀ n ∈ ns, n < 18446744073709551616) (hl : (ns.flatMap vb).length < 18446744073709551616) : msgP (mP kk) ((0 : Nat) : Int) (pk (ns.flatMap vb)) = some (outP kk ns) := by
  refine msg_of (ws := [(⟨4, 2, 0, ns.flatMap vb⟩, pk (ns.flatMap vb))]) ?_ (by simp) (fun x hx => by simp at hx; subst hx; exact kn2 hk) ?_
  · have := split_pk (rest := []) hl
    rw [List.append_nil] at this
    rw [this]
    rfl
  · show (valuesP (fP kk) ⟨4, 2, 0, ns.flatMap vb⟩).bind _ = _
    have : valuesP (fP kk) ⟨4, 2, 0, ns.flatMap vb⟩ = some (ns.map (numP kk)) := by
      unfold valuesP
      rw [if_pos rfl]
      exact up_vb hk ns h
    rw [this]
    simp [valsP]
theorem parted_msg {kk : Int} (hk : wireK kk = 0) {n1 n2 : List Nat} (h1 : ∀ n ∈ n1, n < 18446744073709551616) (h2 : ∀ n ∈ n2, n < 18446744073709551616) (hl1 : (n1.flatMap vb).length < 18446744073709551616) (hl2 : (n2.flatMap vb).length < 18446744073709551616) : msgP (mP kk) ((0 : Nat) : Int) (pk (n1.flatMap vb) ++ pk (n2.flatMap vb)) = some (outP kk (n1 ++ n2)) := by
  have hv : ∀ ns : List Nat, (∀ n ∈ ns, n < 18446744073709551616) → valuesP (fP kk) ⟨4, 2, 0, ns.flatMap vb⟩ = some (ns.map (numP kk)) := fun ns h => by
    unfold valuesP
    rw [if_pos rfl]
    exact up_vb hk ns h
  refine msg_of (ws := [(⟨4, 2, 0, n1.flatMap vb⟩, pk (n1.flatMap vb)), (⟨4, 2, 0, n2.flatMap vb⟩, pk (n2.flatMap vb))]) ?_ (by simp) (fun x hx => by simp at hx; rcases hx with rfl | rfl <;> exact kn2 hk) ?_
  · rw [split_pk hl1]
    have := split_pk (rest := []) hl2
    rw [List.append_nil] at this
    rw [this]
    rfl
  · show (valuesP (fP kk) ⟨4, 2, 0, n1.flatMap vb⟩).bind (fun a => ((valuesP (fP kk) ⟨4, 2, 0, n2.flatMap vb⟩).bind _).map (a ++ ·)) = _
    rw [hv n1 h1, hv n2 h2]
    simp [valsP]
theorem alone_vals {kk : Int} : ∀ ns : List Nat, valsP (fP kk) (ns.map fun n => ⟨4, 0, n, []⟩) = some (ns.map (numP kk))
  | [] => rfl
  | n :: ns => by
    show (valuesP (fP kk) ⟨4, 0, n, []⟩).bind (fun a => (valsP (fP kk) (ns.map fun n => ⟨4, 0, n, []⟩)).map (a ++ ·)) = _
    rw [alone_vals ns]
    have : valuesP (fP kk) ⟨4, 0, n, []⟩ = some [numP kk n] := by unfold valuesP; rw [if_neg (show ¬ (0 : Nat) = 2 by decide)]; rfl
    rw [this]
    rfl
theorem alone_msg {kk : Int} (hk : wireK kk = 0) {ns : List Nat} (h : ∀ n ∈ ns, n < 18446744073709551616) : msgP (mP kk) ((0 : Nat) : Int) (ns.flatMap one1) = some (outP kk ns) := by
  refine msg_of (split_ones ns h) (fun x hx => by obtain ⟨n, _, rfl⟩ := List.mem_map.1 hx; rfl) (fun x hx => by obtain ⟨n, _, rfl⟩ := List.mem_map.1 hx; exact kn0 hk) ?_
  rw [List.map_map]
  exact alone_vals ns
end Go.Proofs.YtjcolfogmmjaoaaDoor
end

section
/- Layer 9: from the row's reading to nodes; ValueMusts' walk as the row wants it. -/
set_option linter.unusedVariables false
set_option linter.unusedSimpArgs false
set_option maxRecDepth 100000
set_option maxHeartbeats 1000000
namespace Go.Proofs.YtjcolfogmmjaoaaDoor
open V A
section
variable {P : Program} {g : Nat} {t : TypeId} {ds : List A.Dat}
theorem sh_int {k : IntKind} (hu : P.underlying t = some (.int k)) (h : ShT P g t ds) : ∃ m, ds = [.v (.int k m)] ∧ (Lit.int k m).wf = true := by
  cases g with
  | zero => unfold ShT at h; exact h.elim
  | succ g => unfold ShT at h; simpa only [hu] using h
theorem sh_bool (hu : P.underlying t = some .bool) (h : ShT P g t ds) : ∃ b, ds = [.v (.bool b)] := by
  cases g with
  | zero => unfold ShT at h; exact h.elim
  | succ g => unfold ShT at h; simpa only [hu] using h
theorem sh_str (hu : P.underlying t = some .string) (h : ShT P g t ds) : ∃ b : ByteArray, ds = [.v (.string b)] ∧ b.size ≤ reachBytes := by
  cases g with
  | zero => unfold ShT at h; exact h.elim
  | succ g => unfold ShT at h; simpa only [hu] using h
theorem sh_sl {e : TypeId} (hu : P.underlying t = some (.slice e)) (h : ShT P g t ds) : ∃ g', g' < g ∧ ∃ xs : List (List A.Dat), ds = [.sl (P.cellsOf e) xs] ∧ xs.length ≤ reachBytes ∧ ∀ x ∈ xs, ShT P g' e x := by
  cases g with
  | zero => unfold ShT at h; exact h.elim
  | succ g => unfold ShT at h; exact ⟨g, Nat.lt_succ_self g, by simpa only [hu] using h⟩
theorem sh_st {fs : Array Field} (hu : P.underlying t = some (.struct fs)) (h : ShT P g t ds) : ∃ g', g' < g ∧ ShF P (ShT P g') fs.toList ds := by
  cases g with
  | zero => unfold ShT at h; exact h.elim
  | succ g => unfold ShT at h; exact ⟨g, Nat.lt_succ_self g, by simpa only [hu] using h⟩
end
theorem rb : reachBytes = reachN := by decide
theorem list_nd : ∀ {xs : List (List A.Dat)}, (∀ x ∈ xs, ∃ y, x = ndD y ∧ BdN y) → ∃ ys, xs = ndsD ys ∧ ∀ y ∈ ys, BdN y
  | [], _ => ⟨[], rfl, by simp⟩
  | x :: xs, h => by
    obtain ⟨y, e, hy⟩ := h x (by simp)
    obtain ⟨ys, e2, hys⟩ := list_nd (xs := xs) fun x hx => h x (by simp [hx])
    refine ⟨y :: ys, by unfold ndsD; rw [e, e2], fun z hz => ?_⟩
    rcases List.mem_cons.1 hz with rfl | hz
    · exact hy
    · exact hys z hz
theorem list_nf : ∀ {xs : List (List A.Dat)}, (∀ x ∈ xs, ∃ num vs, x = nfD (.mk num vs) ∧ vs.length ≤ reachN ∧ ∀ y ∈ vs, BdN y) → ∃ fs, xs = nfsD fs ∧ ∀ num vs, NF.mk num vs ∈ fs → vs.length ≤ reachN ∧ ∀ y ∈ vs, BdN y
  | [], _ => ⟨[], rfl, by simp⟩
  | x :: xs, h => by
    obtain ⟨num, vs, e, hy⟩ := h x (by simp)
    obtain ⟨fs, e2, hys⟩ := list_nf (xs := xs) fun x hx => h x (by simp [hx])
    refine ⟨.mk num vs :: fs, by unfold nfsD; rw [e, e2], fun n2 v2 hz => ?_⟩
    rcases List.mem_cons.1 hz with hz | hz
    · cases hz; exact hy
    · exact hys n2 v2 hz
theorem cNode : Tryd.prog.cellsOf 25 = 7 := by kernel_rfl
theorem cField : Tryd.prog.cellsOf 43 = 2 := by kernel_rfl
theorem sh_nf {g : Nat} (ih : ∀ g', g' < g → ∀ ds, ShT Tryd.prog g' 25 ds → ∃ x, ds = ndD x ∧ BdN x) {ds : List A.Dat} (h : ShT Tryd.prog g 43 ds) : ∃ num vs, ds = nfD (.mk num vs) ∧ vs.length ≤ reachN ∧ ∀ y ∈ vs, BdN y := by
  obtain ⟨g1, hg1, h⟩ := sh_st Tryd.underlying43 h
  obtain ⟨a0, r, rfl, h0, h⟩ := h
  obtain ⟨a1, r, rfl, h1, h⟩ := h
  have h : r = [] := h
  subst h
  obtain ⟨num, rfl, _⟩ := sh_int Tryd.underlying3 h0
  obtain ⟨g2, hg2, xs, rfl, hl, hx⟩ := sh_sl Tryd.underlying41 h1
  obtain ⟨ys, rfl, hy⟩ := list_nd fun x hx' => ih g2 (by omega) x (hx x hx')
  rw [cNode]
  exact ⟨num, ys, rfl, by rw [← rb]; rw [ndsD_map, List.length_map] at hl; exact hl, hy⟩
theorem sh_nd : ∀ (g : Nat) (ds : List A.Dat), ShT Tryd.prog g 25 ds → ∃ x, ds = ndD x ∧ BdN x := by
  intro g
  induction g using Nat.strongRecOn with
  | _ g ih =>
  intro ds h
  obtain ⟨g1, hg1, h⟩ := sh_st Tryd.underlying25 h
  obtain ⟨a0, r, rfl, h0, h⟩ := h
  obtain ⟨a1, r, rfl, h1, h⟩ := h
  obtain ⟨a2, r, rfl, h2, h⟩ := h
  obtain ⟨a3, r, rfl, h3, h⟩ := h
  obtain ⟨a4, r, rfl, h4, h⟩ := h
  obtain ⟨a5, r, rfl, h5, h⟩ := h
  obtain ⟨a6, r, rfl, h6, h⟩ := h
  have h : r = [] := h
  subst h
  obtain ⟨k, rfl, _⟩ := sh_int Tryd.underlying3 h0
  obtain ⟨n, rfl, _⟩ := sh_int Tryd.underlying2 h1
  obtain ⟨u, rfl, _⟩ := sh_int Tryd.underlying22 h2
  obtain ⟨b, rfl⟩ := sh_bool Tryd.underlying4 h3
  obtain ⟨s, rfl, hs⟩ := sh_str Tryd.underlying9 h4
  obtain ⟨t, rfl, _⟩ := sh_int Tryd.underlying3 h5
  obtain ⟨g2, hg2, xs, rfl, hl, hx⟩ := sh_sl Tryd.underlying23 h6
  obtain ⟨fs, rfl, hf⟩ := list_nf fun x hx' => sh_nf (fun g' hg' => ih g' (by omega)) (hx x hx')
  rw [cField]
  exact ⟨.mk k n u b s t fs, rfl, .mk (by rw [← rb]; exact hs) (by rw [← rb]; rw [nfsD_map, List.length_map] at hl; exact hl) (fun num vs hm => (hf num vs hm).1) (fun num vs x hm hx => (hf num vs hm).2 x hx)⟩
theorem nd_of' : ∀ (ds : List A.Dat), Les (ds.map .d) (ds.map nd)
  | [] => .nil
  | d :: ds => .cons nd_of (nd_of' ds)
theorem argT_one {w : World} {d : A.Dat} {v : Value} (h2 : A.VRep no w [d] v.cells.toList) (hf : ∀ cs, v ≠ .agg cs) : A.DRep no w d v := by
  have hc : v.cells = #[v] := by cases v <;> first | rfl | exact absurd rfl (hf _)
  rw [hc] at h2
  unfold A.VRep at h2
  obtain ⟨x, r, e, hd, hr⟩ := h2
  simp at e
  obtain ⟨rfl, _⟩ := e
  exact hd
/-- An argument is a node. -/
theorem argT_nd {w : World} {v : Value} (h : ArgT Tryd.prog w 25 v) : ∃ x, Rep no w (ndA x) v ∧ BdN x := by
  obtain ⟨⟨g, ds, h1, h2⟩, h3⟩ := h
  obtain ⟨x, rfl, hx⟩ := sh_nd g ds h1
  refine ⟨x, ?_, hx⟩
  rw [h3.1 (by kernel_rfl)]
  unfold ndA
  have := (nd_of' (ndD x)).reps (Reps.ofV h2)
  unfold Rep
  exact ⟨_, by simp, this, h2.one⟩
theorem argT_int {w : World} {t : TypeId} {k : IntKind} {v : Value} (hu : Tryd.prog.underlying t = some (.int k)) (hs : isStruct Tryd.prog t = false) (h : ArgT Tryd.prog w t v) : ∃ m, v = .int k m ∧ (Lit.int k m).wf = true := by
  obtain ⟨⟨g, ds, h1, h2⟩, h3⟩ := h
  obtain ⟨m, rfl, hm⟩ := sh_int hu h1
  have := argT_one h2 (h3.2 hs)
  unfold A.DRep at this
  exact ⟨m, this.1, hm⟩
theorem valueMusts_row (W : World) (args : Array Value) (ha : ArgsT Tryd.prog W Tryd.f3.params.toList args.toList) : Calls Tryd.prog 3 args W (LawR W) := by
  obtain ⟨v1, r, e, h1, ha⟩ := argsT_cons ha
  obtain ⟨v2, r, rfl, h2, ha⟩ := argsT_cons ha
  obtain rfl := argsT_nil ha
  have e : args = #[v1, v2] := Array.ext' e
  subst e
  obtain ⟨x, hr, hb⟩ := argT_nd h1
  obtain ⟨num, rfl, _⟩ := argT_int Tryd.underlying3 (by kernel_rfl) h2
  exact law_of ((valueMusts_walk hb).mono fun a cs h => h.1) (Reps.cons hr (Reps.cons mk_v Reps.nil))
end Go.Proofs.YtjcolfogmmjaoaaDoor
end

section
/- Layer 11: DecodePacked. -/
set_option linter.unusedVariables false
set_option linter.unusedSimpArgs false
set_option maxRecDepth 100000
set_option maxHeartbeats 2000000
namespace Go.Proofs.YtjcolfogmmjaoaaDoor
open V A
def eU (n : Nat) : List A.Dat := [.v (kU n)]
theorem kk_cases {q : Nat} : (q % 4 + 1 = 1 ∨ q % 4 + 1 = 2 ∨ q % 4 + 1 = 3 ∨ q % 4 + 1 = 4) := by omega
theorem kk_facts (kk : Nat) (h : kk = 1 ∨ kk = 2 ∨ kk = 3 ∨ kk = 4) : Plain0 ⟨[mP kk], [], []⟩ ∧ formedS [mP kk] = true ∧ FlatM (mP kk) ∧ wireK kk = 0 ∧ (∀ n, NN (numP kk n)) ∧ ∀ n, OkV (numP kk n) := by
  rcases h with rfl | rfl | rfl | rfl
  · exact ⟨⟨rfl, rfl, by decide, by decide, by decide, by decide, by decide⟩, by kernel_rfl, ⟨by decide, by decide, by decide, by decide⟩, rfl, fun n => .int _, fun n => .int _⟩
  · exact ⟨⟨rfl, rfl, by decide, by decide, by decide, by decide, by decide⟩, by kernel_rfl, ⟨by decide, by decide, by decide, by decide⟩, rfl, fun n => .uint _, fun n => .uint _⟩
  · exact ⟨⟨rfl, rfl, by decide, by decide, by decide, by decide, by decide⟩, by kernel_rfl, ⟨by decide, by decide, by decide, by decide⟩, rfl, fun n => .int _, fun n => .int _⟩
  · exact ⟨⟨rfl, rfl, by decide, by decide, by decide, by decide, by decide⟩, by kernel_rfl, ⟨by decide, by decide, by decide, by decide⟩, rfl, fun n => .bool _, fun n => .bool _⟩
theorem flat_len {ns : List Nat} (h : ∀ n ∈ ns, n < 18446744073709551616) : (ns.flatMap vb).length ≤ 10 * ns.length := by
  induction ns with
  | nil => simp
  | cons n ns ih =>
    have := vb_len10 (h n (by simp))
    have := ih fun m hm => h m (by simp [hm])
    rw [List.flatMap_cons, List.length_append, List.length_cons]
    omega
theorem flat_one {ns : List Nat} (h : ∀ n ∈ ns, n < 18446744073709551616) : (ns.flatMap one1).length ≤ 11 * ns.length := by
  induction ns with
  | nil => simp
  | cons n ns ih =>
    have := vb_len10 (h n (by simp))
    have := ih fun m hm => h m (by simp [hm])
    have h1 : (one1 n).length = (vb n).length + 1 := by unfold one1; simp
    rw [List.flatMap_cons, List.length_append, List.length_cons]
    omega
theorem out_nn {kk : Int} {ns : List Nat} (h : ∀ n, NN (numP kk n)) (hl : ns.length ≤ 60) : NN (outP kk ns) := by
  unfold outP
  split
  · exact .msg (by simp) (fun num vs hm => by simp at hm) (fun num vs x hm hx => by simp at hm)
  · refine .msg (by simp) (fun num vs hm => ?_) (fun num vs x hm hx => ?_)
    · simp at hm
      obtain ⟨rfl, rfl⟩ := hm
      rw [List.length_map]
      omega
    · simp at hm
      obtain ⟨rfl, rfl⟩ := hm
      obtain ⟨n, _, rfl⟩ := List.mem_map.1 hx
      exact h n
theorem out_ok {kk : Int} {ns : List Nat} (h : ∀ n, OkV (numP kk n)) (hl : ns.length ≤ 60) : OkV (outP kk ns) := by
  unfold outP
  split
  · exact .msg (by simp) (fun num vs hm => by simp at hm) (fun num vs x hm hx => by simp at hm)
  · refine .msg (by simp) (fun num vs hm => ?_) (fun num vs x hm hx => ?_)
    · simp at hm
      obtain ⟨rfl, rfl⟩ := hm
      rw [List.length_map]
      omega
    · simp at hm
      obtain ⟨rfl, rfl⟩ := hm
      obtain ⟨n, _, rfl⟩ := List.mem_map.1 hx
      exact h n
theorem out_get (kk : Int) (ns : List Nat) : getP (outP kk ns) 4 = ns.map (numP kk) := by
  show getFs (if (ns.map (numP kk)).isEmpty then [] else [.mk 4 (ns.map (numP kk))]) 4 = _
  cases h : ns.map (numP kk) <;> rfl
theorem pk_eq (data : List UInt8) : vb (8 * 4 + 2) ++ vb data.length ++ data = pk data := by rw [show vb (8 * 4 + 2) = [34] by unfold vb; rfl]; simp [pk]
theorem vb32 : vb (8 * 4) = [32] := by unfold vb; rfl
theorem vb34 : vb (8 * 4 + 2) = [34] := by unfold vb; rfl
theorem decodePacked_spec {q cut : Nat} {ns : List Nat} (hq : q < 256) (hc : cut < 256) (hn : ∀ n ∈ ns, n < 18446744073709551616) (hl : ns.length ≤ reachN) : FSpec Tryd.prog 5 [.v (.int .u8 q) 0, .d (.sl 1 (ns.map eU)), .v (.int .u8 cut) 0] [] fun a cs => a = bA true ∧ cs = [] := by
  have hlim : lim = 4294967296 := rfl
  have hAw := awake11_spec
  have hnl : (ns.map eU).length = ns.length := List.length_map _
  refine a_enter hT [.v (.int .u8 q) 0, .d (.sl 1 (ns.map eU)), .v (.int .u8 cut) 0] [] Tryd.func5 rfl rfl rfl ⟨rfl, Fit.refl _, rfl, trivial⟩ fun c' => ?_
  refine a_call hT rfl rfl rfl (by kernel_rfl) hAw [] [] rfl rfl ?_
  rintro _ _ ⟨rfl, rfl⟩
  refine a_gf hT rfl rfl rfl rfl ?_
  by_cases h60 : 60 < ns.length
  · refine a_t hT rfl rfl (decide_eq_true (by show ((ns.map eU).length : Int) > 60; rw [hnl]; omega)) ?_
    refine a_call hT rfl rfl rfl (by kernel_rfl) hAw [] [] rfl rfl ?_
    rintro _ _ ⟨rfl, rfl⟩
    refine a_ret hT [] rfl rfl rfl rfl rfl rfl ?_
    first | exact ⟨rfl, rfl⟩ | rfl
  · refine a_f hT rfl rfl (decide_eq_false (by show ¬ ((ns.map eU).length : Int) > 60; rw [hnl]; omega)) ?_
    have hkk := kk_facts (q % 4 + 1) kk_cases
    have hix : (IntKind.i64.wrap (q : Int)).tmod 4 = ((q % 4 : Nat) : Int) := by rw [w64 (by omega) (by omega), Int.tmod_eq_emod_of_nonneg (by omega)]; omega
    have hat : ([[A.Dat.v (kI 1)], [A.Dat.v (kI 2)], [A.Dat.v (kI 3)], [A.Dat.v (kI 4)]] : List (List A.Dat))[(((q % 4 : Nat) : Int)).toNat]? = some [A.Dat.v (kI ((q % 4 + 1 : Nat) : Int))] := by
      have : q % 4 = 0 ∨ q % 4 = 1 ∨ q % 4 = 2 ∨ q % 4 = 3 := by omega
      rcases this with h | h | h | h <;> rw [h] <;> rfl
    refine a_lit hT 20 rfl rfl rfl rfl (by kernel_rfl) rfl rfl rfl rfl fun x20 => ?_
    refine a_freeze 31 20 rfl rfl rfl rfl ?_
    refine a_bin hT _ rfl rfl rfl (by decide) rfl rfl (fun w => (bin_rem (by decide) w)) ?_
    refine a_ix hT _ rfl rfl rfl rfl rfl rfl (by show 0 ≤ (IntKind.i64.wrap (q : Int)).tmod 4; rw [hix]; omega) (by show _[((IntKind.i64.wrap (q : Int)).tmod 4).toNat]? = _; rw [hix]; exact hat) ?_
    generalize hkq : q % 4 + 1 = kk at hkk hat
    obtain ⟨hp, hf, hfl, hwk, hnn, hokn⟩ := hkk
    refine a_build hT hZ [.v (kI 4) 0, .v (.string (mkS [108])) 0, .v (kI kk) 0, .v (.bool true) 0, .v (kI 0) 0] rfl rfl rfl rfl rfl rfl ?_
    refine a_lit hT 21 rfl rfl rfl rfl (by kernel_rfl) rfl rfl rfl rfl fun x21 => ?_
    refine a_freeze 39 21 rfl rfl rfl rfl ?_
    refine a_build hT hZ [.v (.string (mkS [65])) 0, .d (.sl 5 [eF (fP kk)])] rfl rfl rfl rfl rfl rfl ?_
    refine a_lit hT 22 rfl rfl rfl rfl (by kernel_rfl) rfl rfl rfl rfl fun x22 => ?_
    refine a_freeze 41 22 rfl rfl rfl rfl ?_
    refine a_build hT hZ [.d (.sl 2 [eM (mP kk)]), .v (.slice none 0 0) 0, .v (.slice none 0 0) 0] rfl rfl rfl rfl rfl rfl ?_
    refine a_new hT hZ 23 rfl rfl rfl rfl fun g => ?_
    refine a_run hT 1 rfl rfl ?_
    refine a_cellL 23 1 (b := .d (.sl 2 [])) rfl rfl rfl le_nil ?_
    refine a_cellL 23 2 (b := .d (.sl 5 [])) rfl rfl rfl le_nil ?_
    refine a_freezeK 8 23 rfl rfl rfl rfl rfl ?_
    refine a_run hT 8 rfl rfl ?_
    refine a_nilrow 9 30 5 1 rfl rfl ?_
    refine a_nilrow 10 31 5 1 rfl rfl ?_
    refine a_nilrow 11 32 5 1 rfl rfl ?_
    refine a_nilrow 12 33 5 1 rfl rfl ?_
    refine a_loop hT [1, 2, 8, 9, 10, 11, 12, 44, 45] (fun x : Nat × Value × Value × Value × Value => [.d (.sl 1 (ns.map eU)), .v (.int .u8 cut) 0, .d (.p (schD ⟨[mP kk], [], []⟩)), .row x.2.1 30, .row x.2.2.1 31, .row x.2.2.2.1 32, .row x.2.2.2.2 33, .v (kI ns.length) 0, .v (kI x.1) 0]) (fun x => [(30, .row x.2.1 5 1 (((ns.take x.1).flatMap vb).map eB)), (31, .row x.2.2.1 5 1 ((((ns.take x.1).drop cut).flatMap vb).map eB)), (32, .row x.2.2.2.1 5 1 (((ns.take x.1).flatMap one1).map eB)), (33, .row x.2.2.2.2 5 1 ((((ns.take x.1).take cut).flatMap vb).map eB))]) (fun x => x.1 ≤ ns.length) (fun x => ns.length - x.1) (0, .slice none 0 0, .slice none 0 0, .slice none 0 0, .slice none 0 0) [30, 31, 32, 33] rfl rfl (Nat.zero_le _) ⟨rfl, rfl, rfl, rfl, rfl, rfl, rfl, by rw [← hnl]; rfl, rfl, trivial⟩ rfl ⟨⟨rfl, rfl, rfl, rfl⟩, ⟨rfl, rfl, rfl, by simp⟩, ⟨rfl, rfl, rfl, rfl⟩, ⟨rfl, rfl, rfl, by simp⟩, trivial⟩ ?_
    rintro ⟨i, v1, v2, v3, v4⟩ i2
    dsimp only at i2
    have hw := wN i (by omega)
    have hti : ∀ n ∈ ns.take i, n < 18446744073709551616 := fun n h => hn n (List.mem_of_mem_take h)
    have hlt : (ns.take i).length = i := by rw [List.length_take]; omega
    have f1 := flat_len hti
    have f2 := flat_one hti
    have f3 := flat_len (ns := (ns.take i).take cut) fun n h => hti n (List.mem_of_mem_take h)
    have f4 := flat_len (ns := (ns.take i).drop cut) fun n h => hti n (List.mem_of_mem_drop h)
    have hlt3 : ((ns.take i).take cut).length ≤ i := by rw [List.length_take]; omega
    have hlt4 : ((ns.take i).drop cut).length ≤ i := by rw [List.length_drop]; omega
    rcases Nat.lt_or_ge i ns.length with hil | hil
    · have hat2 : (ns.map eU)[(i : Int).toNat]? = some (eU ns[i]) := by simp [hil]
      have hn64 := hn _ (List.getElem_mem hil)
      have htk : ns.take (i + 1) = ns.take i ++ [ns[i]] := List.take_succ_eq_append_getElem hil
      generalize ns[i] = n at hat2 hn64 htk
      have hv10 := vb_len10 hn64
      have hV := RVarint0_spec (hh := 0) hn64
      have hB := (RBytes0_spec (num := 4) (data := []) (by decide) hn64).les (args := [.agg [.v (kI 4) 0, .v (kI 0) 0, .v (kU n) 0, .v (.slice none 0 0) 0]]) (.cons (Le.agg (.cons (Le.refl _) (.cons (Le.refl _) (.cons (Le.refl _) (.cons le_nil .nil))))) .nil)
      rw [vb32] at hB
      have hwc : IntKind.i64.wrap (cut : Int) = cut := w64 (by omega) (by omega)
      refine a_t hT rfl rfl (decide_eq_true (by show (i : Int) < (ns.length : Int); omega)) ?_
      refine a_ix hT _ rfl rfl rfl rfl rfl rfl (by first | omega | assumption) (by first | assumption | rfl) ?_
      refine a_call hT rfl rfl rfl (by kernel_rfl) hV [] [1] rfl rfl ?_
      rintro _ _ ⟨v, rfl, rfl⟩
      have hon : (one1 n).length ≤ 11 := by unfold one1; rw [List.length_cons]; omega
      refine a_app hT 30 _ rfl rfl rfl rfl (by kernel_rfl) rfl rfl rfl rfl rfl rfl (by simp only [List.length_map, List.length_append, List.length_cons, List.length_nil]; omega) fun w1 => ?_
      refine a_if hT rfl rfl (fun h => ?_) (fun h => ?_)
      · have h := of_decide_eq_true h
        have hic : i < cut := by have : (i : Int) < IntKind.i64.wrap (cut : Int) := h; rw [hwc] at this; omega
        have a1 : (ns.take i ++ [n]).take cut = ns.take i ++ [n] := List.take_of_length_le (by rw [List.length_append, hlt]; simp; omega)
        have a2 : (ns.take i).take cut = ns.take i := List.take_of_length_le (by rw [hlt]; omega)
        have a3 : (ns.take i ++ [n]).drop cut = [] := List.drop_eq_nil_of_le (by rw [List.length_append, hlt]; simp; omega)
        have a4 : (ns.take i).drop cut = [] := List.drop_eq_nil_of_le (by rw [hlt]; omega)
        have ht1 : (ns.take (i + 1)).take cut = (ns.take i).take cut ++ [n] := by rw [htk, a1, a2]
        have hd1 : (ns.take (i + 1)).drop cut = (ns.take i).drop cut := by rw [htk, a3, a4]
        refine a_app hT 33 _ rfl rfl rfl rfl (by kernel_rfl) rfl rfl rfl rfl rfl rfl (by simp only [List.length_map, List.length_append, List.length_cons, List.length_nil]; omega) fun w4 => ?_
        refine a_ix hT _ rfl rfl rfl rfl rfl rfl (by first | omega | assumption) (by first | assumption | rfl) ?_
        refine a_build hT hZ [.v (kI 4) 0, .v (kI 0) 0, .v (kU n) 0, .v (.slice none 0 0) 0] rfl rfl rfl rfl rfl rfl ?_
        refine a_call hT rfl rfl rfl (by kernel_rfl) hB [] [] rfl rfl ?_
        rintro _ _ ⟨rfl, rfl⟩
        refine a_app hT 32 _ rfl rfl rfl rfl (by kernel_rfl) rfl rfl rfl rfl rfl rfl (by simp only [List.length_map, List.length_append, List.length_cons, List.length_nil]; omega) fun w3 => ?_
        exact a_next hT (i + 1, w1, v2, w3, w4) [30, 31, 32, 33] rfl rfl ⟨by show i + 1 ≤ ns.length; omega, by show ns.length - (i + 1) < ns.length - i; omega⟩ ⟨rfl, rfl, rfl, rfl, rfl, rfl, rfl, rfl, by show Value.int .i64 _ = Value.int .i64 _; rw [hw], trivial⟩ rfl ⟨⟨rfl, rfl, rfl, by show _ = ((ns.take (i + 1)).flatMap vb).map eB; rw [htk, List.flatMap_append, List.map_append]; simp⟩, ⟨rfl, rfl, rfl, by show _ = (((ns.take (i + 1)).drop cut).flatMap vb).map eB; rw [hd1]⟩, ⟨rfl, rfl, rfl, by show _ = ((ns.take (i + 1)).flatMap one1).map eB; rw [htk, List.flatMap_append, List.map_append]; simp [one1]⟩, ⟨rfl, rfl, rfl, by show _ = (((ns.take (i + 1)).take cut).flatMap vb).map eB; rw [ht1, List.flatMap_append, List.map_append]; simp⟩, trivial⟩
      · have h := of_decide_eq_false h
        have hic : cut ≤ i := by have : ¬ (i : Int) < IntKind.i64.wrap (cut : Int) := h; rw [hwc] at this; omega
        have ht1 : (ns.take (i + 1)).take cut = (ns.take i).take cut := by rw [htk, List.take_append_of_le_length (by rw [hlt]; exact hic)]
        have hd1 : (ns.take (i + 1)).drop cut = (ns.take i).drop cut ++ [n] := by rw [htk, List.drop_append_of_le_length (by rw [hlt]; exact hic)]
        refine a_app hT 31 _ rfl rfl rfl rfl (by kernel_rfl) rfl rfl rfl rfl rfl rfl (by simp only [List.length_map, List.length_append, List.length_cons, List.length_nil]; omega) fun w2 => ?_
        refine a_ix hT _ rfl rfl rfl rfl rfl rfl (by first | omega | assumption) (by first | assumption | rfl) ?_
        refine a_build hT hZ [.v (kI 4) 0, .v (kI 0) 0, .v (kU n) 0, .v (.slice none 0 0) 0] rfl rfl rfl rfl rfl rfl ?_
        refine a_call hT rfl rfl rfl (by kernel_rfl) hB [] [] rfl rfl ?_
        rintro _ _ ⟨rfl, rfl⟩
        refine a_app hT 32 _ rfl rfl rfl rfl (by kernel_rfl) rfl rfl rfl rfl rfl rfl (by simp only [List.length_map, List.length_append, List.length_cons, List.length_nil]; omega) fun w3 => ?_
        exact a_next hT (i + 1, w1, w2, w3, v4) [30, 31, 32, 33] rfl rfl ⟨by show i + 1 ≤ ns.length; omega, by show ns.length - (i + 1) < ns.length - i; omega⟩ ⟨rfl, rfl, rfl, rfl, rfl, rfl, rfl, rfl, by show Value.int .i64 _ = Value.int .i64 _; rw [hw], trivial⟩ rfl ⟨⟨rfl, rfl, rfl, by show _ = ((ns.take (i + 1)).flatMap vb).map eB; rw [htk, List.flatMap_append, List.map_append]; simp⟩, ⟨rfl, rfl, rfl, by show _ = (((ns.take (i + 1)).drop cut).flatMap vb).map eB; rw [hd1, List.flatMap_append, List.map_append]; simp⟩, ⟨rfl, rfl, rfl, by show _ = ((ns.take (i + 1)).flatMap one1).map eB; rw [htk, List.flatMap_append, List.map_append]; simp [one1]⟩, ⟨rfl, rfl, rfl, by show _ = (((ns.take (i + 1)).take cut).flatMap vb).map eB; rw [ht1]⟩, trivial⟩
    · refine a_f hT rfl rfl (decide_eq_false (by show ¬ (i : Int) < (ns.length : Int); omega)) ?_
      have hi : i = ns.length := by omega
      subst hi
      rw [List.take_length] at f1 f2 f3 f4 hlt3 hlt4 hti ⊢
      refine a_freeze 9 30 rfl rfl rfl rfl ?_
      refine a_freeze 10 31 rfl rfl rfl rfl ?_
      refine a_freeze 11 32 rfl rfl rfl rfl ?_
      refine a_freeze 12 33 rfl rfl rfl rfl ?_
      have hP1 := RBytes2_spec (num := 4) (data := ns.flatMap vb) (by decide) (by omega)
      have hP2 := RBytes2_spec (num := 4) (data := (ns.take cut).flatMap vb) (by decide) (by omega)
      have hP3 := RBytes2_spec (num := 4) (data := (ns.drop cut).flatMap vb) (by decide) (by omega)
      rw [pk_eq] at hP1 hP2 hP3
      have hP1 := hP1.freeze
      have hP3 := hP3.freeze
      have hl1 := vb_len10 (n := (ns.flatMap vb).length) (by omega)
      have hl2 := vb_len10 (n := ((ns.take cut).flatMap vb).length) (by omega)
      have hl3 := vb_len10 (n := ((ns.drop cut).flatMap vb).length) (by omega)
      have hk1 : (pk (ns.flatMap vb)).length ≤ 700 := by unfold pk; simp only [List.length_cons, List.length_append]; omega
      have hk2 : (pk ((ns.take cut).flatMap vb)).length ≤ 700 := by unfold pk; simp only [List.length_cons, List.length_append]; omega
      have hk3 : (pk ((ns.drop cut).flatMap vb)).length ≤ 700 := by unfold pk; simp only [List.length_cons, List.length_append]; omega
      have hD1 := Decode_spec (d := mP kk) (t := 0) (bs := pk (ns.flatMap vb)) hp hf rfl hfl (by omega)
      have hD2 := Decode_spec (d := mP kk) (t := 0) (bs := pk ((ns.take cut).flatMap vb) ++ pk ((ns.drop cut).flatMap vb)) hp hf rfl hfl (by rw [List.length_append]; omega)
      have hD3 := Decode_spec (d := mP kk) (t := 0) (bs := ns.flatMap one1) hp hf rfl hfl (by omega)
      rw [packed_msg hwk hn (by omega)] at hD1
      rw [parted_msg hwk (fun n h => hn n (List.mem_of_mem_take h)) (fun n h => hn n (List.mem_of_mem_drop h)) (by omega) (by omega), List.take_append_drop] at hD2
      rw [alone_msg hwk hn] at hD3
      have hSm := (VSame_spec (out_nn (ns := ns) hnn (by omega))).les (.cons nd_of (.cons nd_of .nil))
      have hG := (Get_spec (out_ok (ns := ns) hokn (by omega)) (k := 4)).ofNd
      rw [out_get] at hG
      have hgl := vlsD_len (ns.map (numP kk))
      rw [List.length_map] at hgl
      generalize outP kk ns = V at hD1 hD2 hD3 hSm hG
      refine a_build hT hZ [.v (kI 4) 0, .v (kI 2) 0, .v (kU 0) 0, .d (A.bytesD (ns.flatMap vb))] rfl rfl rfl rfl rfl rfl ?_
      refine a_call hT rfl rfl rfl (by kernel_rfl) hP1 [] [] rfl rfl ?_
      rintro _ _ ⟨rfl, rfl⟩
      refine a_build hT hZ [.v (kI 4) 0, .v (kI 2) 0, .v (kU 0) 0, .d (A.bytesD ((ns.take cut).flatMap vb))] rfl rfl rfl rfl rfl rfl ?_
      refine a_call hT rfl rfl rfl (by kernel_rfl) hP2 [] [1] rfl rfl ?_
      rintro _ _ ⟨v, rfl, rfl⟩
      refine a_build hT hZ [.v (kI 4) 0, .v (kI 2) 0, .v (kU 0) 0, .d (A.bytesD ((ns.drop cut).flatMap vb))] rfl rfl rfl rfl rfl rfl ?_
      refine a_call hT rfl rfl rfl (by kernel_rfl) hP3 [] [] rfl rfl ?_
      rintro _ _ ⟨rfl, rfl⟩
      refine a_app hT 2 ((pk ((ns.take cut).flatMap vb) ++ pk ((ns.drop cut).flatMap vb)).map eB) rfl rfl rfl rfl (by kernel_rfl) rfl rfl rfl rfl rfl (by rw [List.map_append]) (by simp only [List.length_map]; omega) fun w2 => ?_
      refine a_freeze 84 2 rfl rfl rfl rfl ?_
      refine a_call hT rfl rfl rfl (by kernel_rfl) hD1 [] [] rfl rfl ?_
      rintro _ _ ⟨rfl, rfl⟩
      refine a_call hT rfl rfl rfl (by kernel_rfl) hD2 [] [] rfl rfl ?_
      rintro _ _ ⟨rfl, rfl⟩
      refine a_call hT rfl rfl rfl (by kernel_rfl) hD3 [] [] rfl rfl ?_
      rintro _ _ ⟨rfl, rfl⟩
      refine a_gt hT rfl rfl rfl rfl ?_
      refine a_gt hT rfl rfl rfl rfl ?_
      refine a_gt hT rfl rfl rfl rfl ?_
      refine a_call hT rfl rfl rfl (by kernel_rfl) hSm [] [] rfl rfl ?_
      rintro _ _ ⟨rfl, rfl⟩
      refine a_gt hT rfl rfl rfl rfl ?_
      refine a_call hT rfl rfl rfl (by kernel_rfl) hSm [] [] rfl rfl ?_
      rintro _ _ ⟨rfl, rfl⟩
      refine a_gt hT rfl rfl rfl rfl ?_
      refine a_call hT rfl rfl rfl (by kernel_rfl) hG [] [] rfl rfl ?_
      rintro _ _ ⟨rfl, rfl⟩
      refine a_ret hT [] rfl rfl rfl rfl rfl rfl ?_
      exact ⟨congrArg (fun z => AV.v (.bool z) 0) (show (((vlsD (ns.map (numP kk))).length : Int) == ((ns.map eU).length : Int)) = true by rw [hgl, hnl]; simp), rfl⟩
theorem decodePacked_row (W : World) (args : Array Value) (ha : ArgsT Tryd.prog W Tryd.f5.params.toList args.toList) : Calls Tryd.prog 5 args W (LawR W) := by
  obtain ⟨v1, r, e, h1, ha⟩ := argsT_cons ha
  obtain ⟨v2, r, rfl, h2, ha⟩ := argsT_cons ha
  obtain ⟨v3, r, rfl, h3, ha⟩ := argsT_cons ha
  obtain rfl := argsT_nil ha
  have e : args = #[v1, v2, v3] := Array.ext' e
  subst e
  obtain ⟨q, rfl, hq⟩ := argT_int Tryd.underlying5 (by kernel_rfl) h1
  obtain ⟨cut, rfl, hc⟩ := argT_int Tryd.underlying5 (by kernel_rfl) h3
  have hb : ∀ m : Int, (Lit.int .u8 m).wf = true → ∃ k : Nat, m = (k : Int) ∧ k < 256 := fun m h => by
    simp [Lit.wf, IntKind.min, IntKind.max, IntKind.bits, IntKind.signed] at h
    exact ⟨m.toNat, by omega, by omega⟩
  obtain ⟨q', rfl, hq2⟩ := hb q hq
  obtain ⟨cut', rfl, hc2⟩ := hb cut hc
  obtain ⟨ns, hr, hn, hl⟩ : ∃ ns : List Nat, Rep no W (.d (.sl 1 (ns.map eU))) v2 ∧ (∀ n ∈ ns, n < 18446744073709551616) ∧ ns.length ≤ reachN := by
    obtain ⟨⟨g, ds, k1, k2⟩, k3⟩ := h2
    obtain ⟨g', hg, xs, rfl, hl, hx⟩ := sh_sl Tryd.underlying47 k1
    have := argT_one k2 (k3.2 (by kernel_rfl))
    have key : ∀ l : List (List A.Dat), (∀ x ∈ l, ShT Tryd.prog g' 22 x) → ∃ ns : List Nat, l = ns.map eU ∧ ∀ n ∈ ns, n < 18446744073709551616 := by
      intro l
      induction l with
      | nil => exact fun _ => ⟨[], rfl, by simp⟩
      | cons x l ih =>
        intro h
        obtain ⟨ns, rfl, h5⟩ := ih fun y hy => h y (by simp [hy])
        obtain ⟨m, rfl, hm⟩ := sh_int Tryd.underlying22 (h x (by simp))
        simp [Lit.wf, IntKind.min, IntKind.max, IntKind.bits, IntKind.signed] at hm
        refine ⟨m.toNat :: ns, by show _ = eU m.toNat :: _; unfold eU kU; rw [Int.toNat_of_nonneg (by omega)], fun n hn => ?_⟩
        rcases List.mem_cons.1 hn with rfl | hn
        · omega
        · exact h5 n hn
    obtain ⟨ns, rfl, h5⟩ := key xs hx
    refine ⟨ns, ?_, h5, by rw [← rb]; rw [List.length_map] at hl; exact hl⟩
    unfold Rep
    rw [show Tryd.prog.cellsOf 22 = 1 by kernel_rfl] at this
    exact this
  exact law_of ((decodePacked_spec hq2 hc2 hn hl).mono fun a cs h => h.1) (Reps.cons mk_v (Reps.cons hr (Reps.cons mk_v Reps.nil)))
end Go.Proofs.YtjcolfogmmjaoaaDoor
end
