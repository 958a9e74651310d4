/- The steps of a walk: calls, loops, drawn regions, the end; what is told otherwise. They hold of any program. -/
import Derived.Test.YtepjnmocepkfjaaH
set_option linter.unusedVariables false
set_option linter.unusedSimpArgs false
namespace Go.Proofs.Ytepjnmocepkfjaa.A
open V

section
variable {P : Program} {L : List TD} {Z : List (List Value)} {n : Nat} {Q : Exit → Act → World → Prop} {c : Ctx}
variable {s : AMS} {f f' : AEnv} {σ σ' : Store} {ob : Obs} {κ : List Kt} {all : Array Oper} {dec : List Nat} {o : Oper} {al : Bool} {rest : List (Oper × Bool)} {m : Mode}

/-! ### Calls -/
theorem call_does {Y Su : Nat → Prop} {w : World} {g : FuncId} {args : List AV} {cs : List Chunk} {σr : Store} {R : AV → List Chunk → Prop} {ks ks' : List Nat} {xs : List Value} (spec : FSpec P g args cs R) (hY : ∀ b, Y b → b < w.heap.size) (hd : ∀ b, Su b → ¬ Y b)
    (hh : Holds (or2 Su Y) w σ' Su) (ht : takes σ' ks = some (cs, σr)) (hr : Reps (or2 Su Y) w args xs) :
    Calls P g xs.toArray w fun e w1 => ∃ v, e = .returned v ∧ After Y Su w (fun a σ1 => ∃ cs', R a cs' ∧ σ1 = zipk ks' cs' ++ σr) v w1 := by
  obtain ⟨S1, S2, h1, h2, hS, hdis⟩ := hh.takes ht
  have hM : ∀ b, or2 S1 (or2 S2 Y) b → or2 Su Y b := fun b h => h.elim (fun h => .inl ((hS b).2 (.inl h))) fun h => h.elim (fun h => .inl ((hS b).2 (.inr h))) .inr
  refine (spec.out (or2 S2 Y) S1 w xs (fun b hb h => h.elim (hdis b hb) (hd b ((hS b).2 (.inl hb)))) (fun b h => h.elim (h2.lt b) (hY b)) (Holds.of h1 fun b _ h => hM b h) (hr.of fun b _ h => hM b h)).mono ?_
  rintro e w1 ⟨v, a, cs', S', rfl, hR, hrep, hh', hev, hsub⟩
  have hM2 : ∀ b, or2 (or2 S' S2) Y b → or2 S' (or2 S2 Y) b := fun b h => h.elim (fun h => h.elim .inl fun h => .inr (.inl h)) fun h => .inr (.inr h)
  have hm : ∀ b, b < w.heap.size → S1 b ∨ or2 (or2 S' S2) Y b → or2 Su Y b := fun b hb h => by
    rcases h with h | (h | h) | h
    · exact .inl ((hS b).2 (.inl h))
    · rcases hsub b h with h | h
      · exact .inl ((hS b).2 (.inl h))
      · omega
    · exact .inl ((hS b).2 (.inr h))
    · exact .inr h
  refine ⟨v, rfl, a, zipk ks' cs' ++ σr, or2 S' S2, ⟨cs', hR, rfl⟩, hrep.of fun b _ h => hM2 b h, Holds.append ((hh'.zip ks').of fun b _ h => hM2 b h) (h2.ev hev hm fun b hb h => hdis b h hb) (fun b hb h => ?_) (fun b => Iff.rfl), hev.mono fun b _ h => (hS b).2 (.inl h), fun b hb => ?_⟩
  · rcases hsub b hb with h' | h'
    · exact hdis b h' h
    · have := h2.lt b h; omega
  · rcases hb with h | h
    · exact (hsub b h).imp (fun h => (hS b).2 (.inl h)) id
    · exact .inl ((hS b).2 (.inr h))
/-- A function is called. ks: the keys of the memory that it gets; ks': the keys of what it leaves. -/
theorem a_call (hT : TOk P L) {g : FuncId} {xs : Array Operand} {ts : Array TypeId} {args : List AV} {cs : List Chunk} {σr : Store} {R : AV → List Chunk → Prop} (h : machA L n fuel s f σ [] = ⟨.op m κ all dec o true rest, f', σ', ob⟩) (hob : ob.map (·.1) = ob.map (·.2)) (ho : o.op = .call ⟨.value (.func g), xs, ts⟩) (hb : callOk P g = true)
    (spec : FSpec P g args cs R) (ks ks' : List Nat) (ha : evAs n f' xs.toList = args) (ht : takes σ' ks = some (cs, σr))
    (hk : ∀ a cs', R a cs' → rekK ks' cs' σr fun σ1 => DenA c P n Q (.ops (m.hap true) κ all dec rest) (putA f' o.dst a) σ1) : DenA c P n Q s f σ := by
  refine a_eff hT (fun a σ1 => ∃ cs', R a cs' ∧ σ1 = zipk ks' cs' ++ σr) h hob (fun Y Su w fc hd hY hh he => ?_) (fun a σ1 ⟨cs', hR, hs⟩ => by subst hs; have := hk a cs' hR; rwa [rekK_eq] at this)
  have hr := he.evals (n := n) xs.toList
  rw [ha] at hr
  have hrun : (execOp (ev n fc) o).run P w = .ok (.enter g (xs.toList.map (ev n fc)).toArray) w := by
    have : xs.map (ev n fc) = (xs.toList.map (ev n fc)).toArray := by obtain ⟨xs⟩ := xs; simp
    simp [execOp, ho, resolve, invoke, ev, evK, Deferred.ofValue, run_callFunc hb, this]
  rw [hrun]
  exact call_does spec hY hd hh ht hr
/-- .. its arguments told otherwise. -/
theorem a_callF (hT : TOk P L) {g : FuncId} {xs : Array Operand} {ts : Array TypeId} {args : List AV} {cs cs0 : List Chunk} {σr : Store} {R : AV → List Chunk → Prop} (h : machA L n fuel s f σ [] = ⟨.op m κ all dec o true rest, f', σ', ob⟩) (hob : ob.map (·.1) = ob.map (·.2)) (ho : o.op = .call ⟨.value (.func g), xs, ts⟩) (hb : callOk P g = true)
    (spec : FSpec P g args cs R) (ks ks' : List Nat) (ha : Fits (evAs n f' xs.toList) args) (ht : takes σ' ks = some (cs0, σr)) (hc : CFits cs0 cs)
    (hk : ∀ a cs', R a cs' → rekK ks' cs' σr fun σ1 => DenA c P n Q (.ops (m.hap true) κ all dec rest) (putA f' o.dst a) σ1) : DenA c P n Q s f σ :=
  a_call hT h hob ho hb (spec.fit ha hc) ks ks' rfl ht hk
/-- A function's value is called. -/
theorem a_callv (hT : TOk P L) {g : FuncId} {y : Operand} {xs : Array Operand} {ts : Array TypeId} {args cap : List AV} {cs : List Chunk} {σr : Store} {R : AV → List Chunk → Prop} (h : machA L n fuel s f σ [] = ⟨.op m κ all dec o true rest, f', σ', ob⟩) (hob : ob.map (·.1) = ob.map (·.2)) (ho : o.op = .call ⟨.value y, xs, ts⟩) (hy : evA n f' y = .fn g cap) (hb : callOk P g = true)
    (spec : FSpec P g args cs R) (ks ks' : List Nat) (ha : evAs n f' xs.toList ++ cap = args) (ht : takes σ' ks = some (cs, σr))
    (hk : ∀ a cs', R a cs' → rekK ks' cs' σr fun σ1 => DenA c P n Q (.ops (m.hap true) κ all dec rest) (putA f' o.dst a) σ1) : DenA c P n Q s f σ := by
  refine a_eff hT (fun a σ1 => ∃ cs', R a cs' ∧ σ1 = zipk ks' cs' ++ σr) h hob (fun Y Su w fc hd hY hh he => ?_) (fun a σ1 ⟨cs', hR, hs⟩ => by subst hs; have := hk a cs' hR; rwa [rekK_eq] at this)
  have hr := he.evals (n := n) xs.toList
  have hv := he.eval (n := n) y
  rw [hy] at hv
  unfold Rep at hv
  obtain ⟨ys, hv, hrc⟩ := hv
  have hr2 := hr.app hrc
  rw [ha] at hr2
  have hrun : (execOp (ev n fc) o).run P w = .ok (.enter g (xs.toList.map (ev n fc) ++ ys).toArray) w := by
    have : xs.map (ev n fc) ++ ys.toArray = (xs.toList.map (ev n fc) ++ ys).toArray := by obtain ⟨xs⟩ := xs; simp
    simp [execOp, ho, resolve, invoke, hv, Deferred.ofValue, run_callFunc hb, this]
  rw [hrun]
  exact call_does spec hY hd hh ht hr2

/-! ### Loops -/
def overA : List Nat → List AV → AEnv
  | t :: l, v :: vs => (t, v) :: overA l vs
  | _, _ => []
def InvA (c : Ctx) (n : Nat) {X : Type} (l : List Nat) (vs : X → List AV) (sg : X → Store) (φ : X → Prop) : Act → World → Prop := fun a w => ∃ x fc S, a = act n fc ∧ φ x ∧ Sat c w S (overA l (vs x)) fc ∧ Holds (or2 S c.X) w (sg x) S
theorem fits_over {M : Nat → Prop} {w : World} {f : AEnv} {fc : Env} (he : EnvRep M w f fc) : ∀ {l : List Nat} {vs : List AV}, Fits (l.map (getA f)) vs → EnvRep M w (overA l vs) fc
  | [], vs, h => fun t => by cases vs <;> (show Rep M w .any _; unfold Rep; trivial)
  | x :: l, [], h => fun t => by show Rep M w .any _; unfold Rep; trivial
  | x :: l, v :: vs, h => by
    rw [List.map_cons] at h
    unfold Fits at h
    intro t
    show Rep M w (getA ((x, v) :: overA l vs) t) _
    rw [getA_cons]
    split
    · rename_i e; subst e; exact h.1.rep (he t)
    · exact fits_over he h.2 t
theorem sat_part {w : World} {S : Nat → Prop} {fc : Env} {ks : List Nat} {cs cs' : List Chunk} {σr τ : Store} (hs : Sat c w S f fc) (hh : Holds (or2 S c.X) w σ S) (ht : takes σ ks = some (cs, σr)) (hc : CFits cs cs') (hτ : τ.map (·.2) = cs') :
    ∃ S', Sat c w S' f fc ∧ Holds (or2 S' c.X) w τ S' := by
  obtain ⟨S1, S2, h1, h2, hS, hdis⟩ := hh.takes ht
  have hM : ∀ b, or2 S1 c.X b → or2 S c.X b := fun b h => h.elim (fun h => .inl ((hS b).2 (.inl h))) .inr
  refine ⟨S1, ⟨hs.env.of fun b _ h => hM b h, hs.ev, fun b hb => hs.sub b ((hS b).2 (.inl hb))⟩, ?_⟩
  have := (hc.holds h1).zip (τ.map (·.1))
  refine Holds.keys (this.of fun b _ h => hM b h) ?_
  rw [zipk_snd, hτ]
/-- A loop. Of X's members one is the round's: what the slots of l hold, what memory of one's own there is, what is so; and what gets less. -/
theorem a_loop (hT : TOk P L) {X : Type} (l : List Nat) (vs : X → List AV) (sg : X → Store) (φ : X → Prop) (μ : X → Nat) {cd : Code} {cs : List Chunk} {σr : Store} (x0 : X) (ks : List Nat) (h : machA L n fuel s f σ [] = ⟨.loop κ cd, f', σ', ob⟩) (hob : ob.map (·.1) = ob.map (·.2)) (h0 : φ x0) (hf : Fits (l.map (getA f')) (vs x0))
    (ht : takes σ' ks = some (cs, σr)) (hc : CFits cs ((sg x0).map (·.2)))
    (hr : ∀ x, φ x → DenA c P n Q (.code (.inv (InvA c n l vs sg fun x' => φ x' ∧ μ x' < μ x) :: κ) cd) (overA l (vs x)) (sg x)) : DenA c P n Q s f σ := by
  refine a_go hT h hob fun hok w S fc Sg hs hh => ?_
  obtain ⟨S', hs', hh'⟩ := sat_part hs hh ht hc rfl
  show (Code.loop cd).wp P (post P Q κ) (act n fc) w
  refine wp_loop_ghost (fun m a w => ∃ x fc S, a = act n fc ∧ φ x ∧ Sat c w S (overA l (vs x)) fc ∧ Holds (or2 S c.X) w (sg x) S ∧ μ x = m) (μ x0) ⟨x0, fc, S', rfl, h0, ⟨fits_over hs'.env hf, hs'.ev, hs'.sub⟩, hh', rfl⟩ ?_
  rintro m a w ⟨x, fc, S, rfl, hx, hs, hh, rfl⟩
  refine wp_mono ((hr x hx).out trivial w S fc (fun _ => True) hs hh) ?_
  intro e a' w' hq
  cases e with
  | normal =>
    obtain ⟨x', fc', S', rfl, ⟨hx', hlt⟩, hs', hh'⟩ := hq
    exact ⟨_, hlt, x', fc', S', rfl, hx', hs', hh', rfl⟩
  | exit id => exact hq
  | goto l => exact hq
  | ret => exact hq
  | panic ch => exact hq
  | outgrown => exact hq
/-- The round's end; or where ways meet. -/
theorem a_next (hT : TOk P L) {X : Type} {l : List Nat} {vs : X → List AV} {sg : X → Store} {φ : X → Prop} {cs : List Chunk} {σr : Store} (x' : X) (ks : List Nat) (h : machA L n fuel s f σ [] = ⟨.nrm (.inv (InvA c n l vs sg φ) :: κ), f', σ', ob⟩) (hob : ob.map (·.1) = ob.map (·.2)) (hx : φ x')
    (hf : Fits (l.map (getA f')) (vs x')) (ht : takes σ' ks = some (cs, σr)) (hc : CFits cs ((sg x').map (·.2))) : DenA c P n Q s f σ := by
  refine a_go hT h hob fun hok w S fc Sg hs hh => ?_
  obtain ⟨S', hs', hh'⟩ := sat_part hs hh ht hc rfl
  show InvA c n l vs sg φ (act n fc) w
  exact ⟨x', fc, S', rfl, hx, ⟨fits_over hs'.env hf, hs'.ev, hs'.sub⟩, hh'⟩
/-- A cut: behind cd the ways meet; what follows is shown once. -/
theorem a_cut (hT : TOk P L) {X : Type} (l : List Nat) (vs : X → List AV) (sg : X → Store) (φ : X → Prop) {κ : List Kt} {cd d : Code} {f : AEnv} {σ : Store}
    (h1 : DenA c P n Q (.code (.inv (InvA c n l vs sg φ) :: κ) cd) f σ) (h2 : ∀ x, φ x → DenA c P n Q (.code κ d) (overA l (vs x)) (sg x)) : DenA c P n Q (.code κ (.seq cd d)) f σ := by
  refine ⟨fun hok w S fc Sg hs hh => ?_⟩
  show (Code.seq cd d).wp P (post P Q κ) (act n fc) w
  refine wp_seq (wp_mono (h1.out trivial w S fc Sg hs hh) ?_)
  intro e a' w' hq
  cases e with
  | normal =>
    obtain ⟨x', fc', S', rfl, hx', hs', hh'⟩ := hq
    exact (h2 x' hx').out trivial w' S' fc' (fun _ => True) hs' hh'
  | exit id => exact hq
  | goto l => exact hq
  | ret => exact hq
  | panic ch => exact hq
  | outgrown => exact hq
/-- .. where the machine stands at a sequence. -/
theorem a_cutM (hT : TOk P L) {X : Type} (l : List Nat) (vs : X → List AV) (sg : X → Store) (φ : X → Prop) {cd d : Code} (q : Nat) (h : machA L n q s f σ [] = ⟨.st (.code κ (.seq cd d)), f', σ', ob⟩) (hob : ob.map (·.1) = ob.map (·.2))
    (h1 : DenA c P n Q (.code (.inv (InvA c n l vs sg φ) :: κ) cd) f' σ') (h2 : ∀ x, φ x → DenA c P n Q (.code κ d) (overA l (vs x)) (sg x)) : DenA c P n Q s f σ :=
  ⟨machA_sound hT q s f σ [] (by rw [h]; exact OT.of hob) (by rw [h]; exact (a_cut hT l vs sg φ h1 h2).out)⟩

/-! ### Drawn regions -/
theorem reg_begin {w : World} {S : Nat → Prop} {fc : Env} {us : List Nat} {ex : Ex} {cu : List Chunk} {σp : Store} (hs : Sat c w S f fc) (hh : Holds (or2 S c.X) w σ S) (ht : takes σ us = some (cu, σp)) :
    ∃ Sg : World → Prop, Sg w.drew ∧ Sat c w.drew S f fc ∧ HoldsM (.reg true σp ex) (or2 S c.X) S w.drew (zipk us cu) Sg := by
  obtain ⟨S1, S2, h1, h2, hS, hdis⟩ := hh.takes ht
  have hev : Ev no w w.drew := Ev.drew w
  have hm : ∀ b, b < w.heap.size → no b ∨ or2 S c.X b → or2 S c.X b := fun b _ h => h.elim (fun h => h.elim) id
  refine ⟨SgOf w.drew S1, fun b _ _ => rfl, ⟨hs.env.pass hev hm, hs.ev.to hev, hs.sub⟩, w.drew, S1, S2, S1, rfl, fun b _ _ => rfl, Nat.le_refl _, h2.ev hev hm (fun _ _ h => h), (h1.zip us).ev hev hm (fun _ _ h => h), fun b => (hS b).trans or_comm, fun b h h' => hdis b h' h, fun b h => .inl h, fun b h => ⟨fun h' => hdis b h' h, h2.lt b h⟩, fun _ => ⟨rfl, fun b h => h⟩⟩
/-- A region whose order is drawn. us: the keys of the memory that it turns ahead of its last operation; ex: the last one stands alone. -/
theorem a_draw (hT : TOk P L) {fn : Func} {R : Ending → World → Prop} {id : Nat} {ops : Array Oper} {cu : List Chunk} {σp : Store} (us : List Nat) (ex : Bool) (ord : List (Nat × Bool)) (h : machA L n fuel s f σ [] = ⟨.draw κ id ops, f', σ', ob⟩) (hob : ob.map (·.1) = ob.map (·.2)) (hm : P.follows .mixedOrders = true)
    (ho : (Nat.beq ord.length ops.size && Region.noSelect ops && ordOk ops (Array.replicate ops.size false) ord && (!ex || waitsAll .any ops (lastI ord)) && xOk (if ex then lastI ord else ops.size) ord) = true) (ht : takes σ' us = some (cu, σp))
    (hk : DenA c P n (bodyPost P fn R) (.ops (.reg true σp ⟨ex, none⟩) κ ops [] (selK ops.toList ord)) f' (zipk us cu)) : DenA c P n (bodyPost P fn R) s f σ := by
  simp only [Bool.and_eq_true] at ho
  refine a_go hT h hob fun hok w S fc Sg hs hh => ?_
  obtain ⟨Sg', hg, hs', hh'⟩ := reg_begin (ex := ⟨ex, none⟩) hs hh ht
  show (Code.region id ops true).wp P (post P (bodyPost P fn R) κ) (act n fc) w
  refine wp_region_drawn (S := Sg') (ex := ex) ord hm (Nat.eq_of_beq_eq_true ho.1.1.1.1) ho.1.1.1.2 ho.1.1.2 (fun he => by have := ho.1.2; rw [he] at this; simpa using this) ho.2 ?_ hg (hk.out trivial w.drew S fc Sg' hs' hh')
  intro cc a d v w hp
  rw [post_panic] at hp ⊢
  exact ⟨by simpa [Act.put] using (show (a.put d v).defers = [] from hp.1) |> fun h => by cases d <;> simpa [Act.put] using h, hp.2⟩
/-- A drawn region whose order branches: its first, linear run; x: the operation that comes last and may turn what else there is (or the number of operations); all its runs meet behind it. -/
theorem a_treeC (hT : TOk P L) {fn : Func} {R : Ending → World → Prop} {id : Nat} {ops : Array Oper} {cu : List Chunk} {σp : Store} {cd : Code} {X : Type} (l : List Nat) (vs : X → List AV) (sg : X → Store) (φ : X → Prop) (us : List Nat) (x : Nat) (ord : List (Nat × Bool)) (h : machA L n fuel s f σ [] = ⟨.draw (.seq cd :: κ) id ops, f', σ', ob⟩) (hob : ob.map (·.1) = ob.map (·.2)) (hm : P.follows .mixedOrders = true)
    (ho : (Nat.ble ord.length ops.size && Region.noSelect ops && (ordTo ops (Array.replicate ops.size false) ord).isSome && (!(Nat.blt x ops.size) || waitsAll .any ops x) && xOk x ord) = true) (ht : takes σ' us = some (cu, σp))
    (hk : DenA c P n (bodyPost P fn R) (.ops (.reg true σp ⟨false, some (x, ops.size - ord.length, (ordTo ops (Array.replicate ops.size false) ord).getD #[])⟩) (.inv (InvA c n l vs sg φ) :: κ) ops [] (selK ops.toList ord)) f' (zipk us cu))
    (h2 : ∀ x, φ x → DenA c P n (bodyPost P fn R) (.code κ cd) (overA l (vs x)) (sg x)) : DenA c P n (bodyPost P fn R) s f σ := by
  simp only [Bool.and_eq_true] at ho
  refine a_go hT h hob fun hok w S fc Sg hs hh => ?_
  obtain ⟨Sg', hg, hs', hh'⟩ := reg_begin (ex := ⟨false, some (x, ops.size - ord.length, (ordTo ops (Array.replicate ops.size false) ord).getD #[])⟩) hs hh ht
  show (Code.region id ops true).wp P (post P (bodyPost P fn R) (.seq cd :: κ)) (act n fc) w
  have h1 : (Code.region id ops true).wp P (post P (bodyPost P fn R) (.inv (InvA c n l vs sg φ) :: κ)) (act n fc) w := by
    refine wp_region_tree (S := Sg') (x := x) ord hm (Nat.le_of_ble_eq_true ho.1.1.1.1) ho.1.1.1.2 ho.1.1.2 (fun hlt => ?_) ho.2 ?_ hg false (fun h => by cases h) (hk.out trivial w.drew S fc Sg' hs' hh')
    · have h2 := ho.1.2
      rw [Bool.or_eq_true, Bool.not_eq_true'] at h2
      rcases h2 with h2 | h2
      · rw [show Nat.blt x ops.size = true by simpa [Nat.blt_eq] using hlt] at h2; cases h2
      · exact h2
    · intro cc a d v w hp
      rw [post_panic] at hp ⊢
      exact ⟨by simpa [Act.put] using (show (a.put d v).defers = [] from hp.1) |> fun h => by cases d <;> simpa [Act.put] using h, hp.2⟩
  refine wp_mono h1 ?_
  intro e a' w' he
  cases e with
  | normal =>
    obtain ⟨x', fc', S', rfl, hx', hs', hh'⟩ := he
    exact (h2 x' hx').out trivial w' S' fc' (fun _ => True) hs' hh'
  | _ => exact he
/-- The region's order branches here: each of those that may come up first. -/
theorem a_alt (hT : TOk P L) {fn : Func} {R : Ending → World → Prop} {b pre : Bool} {x q : Nat} {listed : Array Bool} {σp : Store} (ts : List (List (Nat × Bool) × Bool)) (h : machA L n fuel s f σ [] = ⟨.st (.ops (.reg pre σp ⟨b, some (x, q, listed)⟩) κ all dec []), f', σ', ob⟩) (hob : ob.map (·.1) = ob.map (·.2))
    (ho : altsOk all x q listed ts = true)
    (hk : AllAlt (fun t => DenA c P n (bodyPost P fn R) (.ops (.reg pre σp (altEx all x q listed t)) κ all dec (selK all.toList t.1)) f' σ') ts) : DenA c P n (bodyPost P fn R) s f σ := by
  refine a_go hT h hob fun hok w S fc Sg hs hh => ?_
  show ClosedL .any all listed → _
  intro hcl
  have hnow : Sg w := by obtain ⟨ws, U, Sp, Su, h⟩ := id hh; exact h.now
  refine OR_alt (S := Sg) ho (fun cc a d v w hp => ?_) hcl hnow fun t ht => (hk.get t ht).out trivial w S fc Sg hs hh
  rw [post_panic] at hp ⊢
  exact ⟨by simpa [Act.put] using (show (a.put d v).defers = [] from hp.1) |> fun h => by cases d <;> simpa [Act.put] using h, hp.2⟩

/-! ### The end -/
def resK1 (n : Nat) (f : AEnv) (L : List TD) (σ : Store) : ResultVar → Option (AV × Obs)
  | .tmp t => some (evA n f (.tmp t), [])
  | .cell a t => match evA n f (.tmp a) with
    | .v (.pointer (some ⟨g, off, sp⟩)) h => match look σ h with
      | some (.blk g' _ cs) => loadK L t cs off (fun r => some (r, [(ptrV g sp, ptrV g' none)])) none
      | _ => none
    | _ => none
def resK (n : Nat) (f : AEnv) (L : List TD) (σ : Store) : List ResultVar → Option (List AV × Obs)
  | [] => some ([], [])
  | r :: rs => match resK1 n f L σ r with
    | none => none
    | some (a, o1) => match resK n f L σ rs with
      | none => none
      | some (as, o2) => some (a :: as, o1 ++ o2)
def tupA (vs : List AV) : AV := match vs with | [v] => v | vs => .tup vs
theorem resK1_rep (hT : TOk P L) {M S : Nat → Prop} {w : World} {fc : Env} (he : EnvRep M w f fc) (hh : Holds M w σ S) {r : ResultVar} {a : AV} {o1 : Obs} (h : resK1 n f L σ r = some (a, o1)) (hob : OT o1) : ∃ v, resV P n fc w r v ∧ Rep M w a v := by
  cases r with
  | tmp t =>
    simp [resK1] at h
    obtain ⟨rfl, rfl⟩ := h
    exact ⟨_, rfl, he.eval _⟩
  | cell ad t =>
    have hx := he.eval (n := n) (.tmp ad)
    simp only [resK1] at h
    split at h
    · rename_i g off sp hh' hev
      rw [hev] at hx
      split at h
      · rename_i g' t' cs hl
        obtain ⟨S1, S2, hS, hd, hc, _⟩ := hh.take hl
        obtain ⟨hS1, xs, hb, hr, h1⟩ := hc
        rcases loadK_says (P := P) hT (t := t) (W := fun w' => w' = w) hr h1 off (ad := ⟨g', 0, none⟩) (fun w' e => by rw [e]; exact hb.cells) with hz | ⟨a', ha', v, hv, hrv⟩
        · rw [hz] at h; cases h
        · rw [ha'] at h
          simp at h
          obtain ⟨rfl, rfl⟩ := h
          have e := hob (ptrV g sp, ptrV g' none) (by simp)
          simp only [ptrV, Value.pointer.injEq, Option.some.injEq, Addr.mk.injEq] at e
          obtain ⟨rfl, _, rfl⟩ := e
          have := hv w rfl
          rw [add_plain] at this
          exact ⟨v, ⟨_, rep_v hx, this⟩, hrv⟩
      · cases h
    · cases h
theorem resK_rep (hT : TOk P L) {M S : Nat → Prop} {w : World} {fc : Env} (he : EnvRep M w f fc) (hh : Holds M w σ S) : ∀ {rs : List ResultVar} {as : List AV} {ob : Obs}, resK n f L σ rs = some (as, ob) → OT ob → ∃ vs, resL P n fc w rs vs ∧ Reps M w as vs
  | [], as, ob, h, hob => by simp [resK] at h; obtain ⟨rfl, rfl⟩ := h; exact ⟨[], trivial, Reps.nil⟩
  | r :: rs, as, ob, h, hob => by
    unfold resK at h
    split at h
    · cases h
    · rename_i a o1 h1
      split at h
      · cases h
      · rename_i as' o2 h2
        simp at h
        obtain ⟨rfl, rfl⟩ := h
        obtain ⟨v, k1, k2⟩ := resK1_rep hT he hh h1 fun p hp => hob p (List.mem_append_left _ hp)
        obtain ⟨vs, k3, k4⟩ := resK_rep hT he hh h2 fun p hp => hob p (List.mem_append_right _ hp)
        exact ⟨v :: vs, ⟨k1, k3⟩, Reps.cons k2 k4⟩
theorem tup_rep {M : Nat → Prop} {w : World} {as : List AV} {vs : List Value} (h : Reps M w as vs) : Rep M w (tupA as) (tup vs) := by
  match as, vs, h with
  | [], vs, h => unfold Reps at h; subst h; unfold tupA tup; unfold Rep; exact ⟨[], rfl, Reps.nil⟩
  | [a], vs, h =>
    unfold Reps at h
    obtain ⟨x, r, rfl, h1, h2⟩ := h
    unfold Reps at h2
    subst h2
    exact h1
  | a :: b :: as, vs, h =>
    have h0 := h
    unfold Reps at h
    obtain ⟨x, r, rfl, h1, h2⟩ := h
    unfold Reps at h2
    obtain ⟨y, r', rfl, h3, h4⟩ := h2
    show Rep M w (.tup (a :: b :: as)) (.tuple (x :: y :: r').toArray)
    unfold Rep
    exact ⟨_, rfl, h0⟩
theorem ret_post {fn : Func} {R : AV → List Chunk → Prop} {w : World} {S : Nat → Prop} {fc : Env} {rs : List ResultVar} {vs : List AV} {ob2 : Obs} {ks : List Nat} {cs : List Chunk} {σr : Store} (hT : TOk P L) (hs : Sat c w S f fc) (hh : Holds (or2 S c.X) w σ S) (hr : fn.results = rs.toArray) (hv : resK n f L σ rs = some (vs, ob2)) (hob2 : OT ob2)
    (ht : takes σ ks = some (cs, σr)) (hR : R (tupA vs) cs) : ∃ v, (results fn (act n fc).tmps).run P w = .ok v w ∧ c.post R (.returned v) w := by
  obtain ⟨ys, h1, h2⟩ := resK_rep hT hs.env hh hv hob2
  obtain ⟨S1, S2, k1, k2, hS, hdis⟩ := hh.takes ht
  have hM : ∀ b, or2 S1 c.X b → or2 S c.X b := fun b h => h.elim (fun h => .inl ((hS b).2 (.inl h))) .inr
  exact ⟨_, run_results hr h1, _, _, cs, S1, rfl, hR, (tup_rep h2).of fun b _ h => hM b h, Holds.of k1 fun b _ h => hM b h, hs.ev, fun b hb => hs.sub b ((hS b).2 (.inl hb))⟩
/-- The function returns. ks: the keys of the memory that it leaves to its caller. -/
theorem a_ret (hT : TOk P L) {fn : Func} {R : AV → List Chunk → Prop} {rs : List ResultVar} {vs : List AV} {ob2 : Obs} {cs : List Chunk} {σr : Store} (ks : List Nat) (h : machA L n fuel s f σ [] = ⟨.ret κ, f', σ', ob⟩) (hob : ob.map (·.1) = ob.map (·.2)) (hr : fn.results = rs.toArray) (hv : resK n f' L σ' rs = some (vs, ob2)) (hob2 : ob2.map (·.1) = ob2.map (·.2))
    (ht : takes σ' ks = some (cs, σr)) (hR : R (tupA vs) cs) : DenA c P n (bodyPost P fn (c.post R)) s f σ := by
  refine a_go hT h hob fun hok w S fc Sg hs hh => ?_
  show post P (bodyPost P fn (c.post R)) κ .ret (act n fc) w
  rw [post_ret]
  obtain ⟨v, h1, h2⟩ := ret_post (fn := fn) (R := R) hT hs hh hr hv (OT.of hob2) ht hR
  exact ⟨rfl, v, h1, h2⟩
/-- It comes to its end. -/
theorem a_end (hT : TOk P L) {fn : Func} {R : AV → List Chunk → Prop} {rs : List ResultVar} {vs : List AV} {ob2 : Obs} {cs : List Chunk} {σr : Store} (ks : List Nat) (h : machA L n fuel s f σ [] = ⟨.nrm [], f', σ', ob⟩) (hob : ob.map (·.1) = ob.map (·.2)) (hr : fn.results = rs.toArray) (hv : resK n f' L σ' rs = some (vs, ob2)) (hob2 : ob2.map (·.1) = ob2.map (·.2))
    (ht : takes σ' ks = some (cs, σr)) (hR : R (tupA vs) cs) : DenA c P n (bodyPost P fn (c.post R)) s f σ := by
  refine a_go hT h hob fun hok w S fc Sg hs hh => ?_
  obtain ⟨v, h1, h2⟩ := ret_post (fn := fn) (R := R) hT hs hh hr hv (OT.of hob2) ht hR
  exact ⟨rfl, v, h1, h2⟩

/-! ### What is told otherwise -/
/-- Outside of drawn regions. -/
def AMS.still : AMS → Bool
  | .ops (.reg _ _ _) _ _ _ _ => false
  | _ => true
theorem a_ghost {σ1 : Store} {f1 : AEnv} (hst : s.still = true) (hg : ∀ (Y S : Nat → Prop) (w : World) (fc : Env), (∀ b, S b → ¬ Y b) → Holds (or2 S Y) w σ S → EnvRep (or2 S Y) w f fc → ∃ S', Holds (or2 S' Y) w σ1 S' ∧ EnvRep (or2 S' Y) w f1 fc ∧ ∀ b, S' b → S b)
    (hk : DenA c P n Q s f1 σ1) : DenA c P n Q s f σ := by
  refine ⟨fun hok w S fc Sg hs hh => ?_⟩
  have hp : s.mode = .plain ∨ s.mode = .rest ∨ ∃ ex, s.mode = .last ex := by
    cases s with
    | ops m κ all dec rest => cases m <;> first | exact .inl rfl | exact .inr (.inl rfl) | exact .inr (.inr ⟨_, rfl⟩) | cases hst
    | _ => exact .inl rfl
  have hh0 : Holds (or2 S c.X) w σ S := by rcases hp with e | e | ⟨ex, e⟩ <;> (rw [e] at hh; exact hh)
  have hdisX : ∀ b, S b → ¬ c.X b := fun b hb hx => (hs.sub b hb).elim (fun h => c.dis b h hx) fun h => Nat.lt_irrefl _ (Nat.lt_of_le_of_lt h (c.old b hx))
  obtain ⟨S', h1, h2, h3⟩ := hg c.X S w fc hdisX hh0 hs.env
  refine hk.out hok w S' fc Sg ⟨h2, hs.ev, fun b hb => hs.sub b (h3 b hb)⟩ ?_
  rcases hp with e | e | ⟨ex, e⟩ <;> (rw [e]; exact h1)
/-- A slot's value, told otherwise (anywhere). -/
theorem a_as (t : Nat) {a b : AV} (ha : getA f t = a) (hfit : Fit a b) (hk : DenA c P n Q s ((t, b) :: f) σ) : DenA c P n Q s f σ := by
  refine ⟨fun hok w S fc Sg hs hh => hk.out hok w S fc Sg ⟨fun t' => ?_, hs.ev, hs.sub⟩ hh⟩
  rw [getA_cons]
  split
  · rename_i e
    subst e
    have := hs.env t'
    rw [ha] at this
    exact hfit.rep this
  · exact hs.env t'
/-- A row is frozen; the slot t holds it. -/
theorem row_frozen {Y S1 S2 S : Nat → Prop} {w : World} {x : Value} {e k : Nat} {es : List (List Dat)} (hc : CRep (or2 S Y) w (.row x e k es) S1) (hS : ∀ b, S b ↔ S1 b ∨ S2 b) (hd : ∀ b, S1 b → ¬ S2 b) (hdY : ∀ b, S b → ¬ Y b) : DRep (or2 S2 Y) w (.sl k es) x := by
  obtain ⟨hS1, hk, xs, ho, hv⟩ := hc
  have hlen := hv.len
  unfold DRep
  rcases ho.2 with ⟨rfl, h0⟩ | ⟨g, cap, cur, rfl, hb, hh, hn, hcl, hs, ht⟩
  · have : es = [] := List.eq_nil_of_length_eq_zero h0
    subst this
    exact ⟨none, 0, rfl, by simp, by simp, by simp⟩
  · have hg : S1 g := (hS1 g).2 rfl
    refine ⟨_, cap, rfl, hn, hk, fun hne => ⟨_, rfl, ?_, (Array.getElem?_eq_some_iff.1 hh).1, SRep.flat.2 (LRep.mk fun j d hj => ?_)⟩⟩
    · rintro (h | h)
      · exact hd g hg h
      · exact hdY g ((hS g).2 (.inl hg)) h
    · obtain ⟨y, hy, hr⟩ := hv.get j d hj
      rw [Nat.zero_add]
      exact ⟨y, ho.cells (g := g) rfl j y hy, hr.ev (Ev.refl no w) fun b _ h => h.elim (fun h => h.elim) fun h => h.elim (fun h => .inl ((hS b).2 (.inr h))) .inr⟩
theorem a_freeze (t h : Nat) {x x' : Value} {e k : Nat} {es : List (List Dat)} (hst : s.still = true) (ht : getA f t = .row x h) (hl : look σ h = some (.row x' e k es)) (hx : x = x') (hk : DenA c P n Q s ((t, .d (.sl k es)) :: f) (del σ h)) : DenA c P n Q s f σ := by
  subst hx
  refine a_ghost hst (fun Y S w fc hdY hh he => ?_) hk
  obtain ⟨S1, S2, hS, hd, hc, hr⟩ := hh.take hl
  have hM : ∀ b, or2 S2 Y b → or2 S Y b := fun b h => h.elim (fun h => .inl ((hS b).2 (.inr h))) .inr
  have hfz := row_frozen hc hS hd hdY
  refine ⟨S2, hr.of fun b _ h => hM b h, fun t' => ?_, fun b h => (hS b).2 (.inr h)⟩
  rw [getA_cons]
  split
  · rename_i e
    subst e
    have := he t'
    rw [ht] at this
    unfold Rep at this ⊢
    rw [this.1]
    exact hfz
  · exact (he t').of fun b _ h => hM b h
/-- A row that a variable holds is frozen. -/
theorem a_freezeB (kb off h : Nat) {g : Nat} {tb : TypeId} {cs : List AV} {x x' : Value} {hx0 e k : Nat} {es : List (List Dat)} (hst : s.still = true) (hb : look σ kb = some (.blk g tb cs)) (ht : cs[off]? = some (.row x hx0)) (hl : look (del σ kb) h = some (.row x' e k es)) (hx : x = x')
    (hk : DenA c P n Q s f ((kb, .blk g tb (cs.set off (.d (.sl k es)))) :: del (del σ kb) h)) : DenA c P n Q s f σ := by
  subst hx
  refine a_ghost hst (fun Y S w fc hdY hh he => ?_) hk
  obtain ⟨B1, B2, hB, hdB, hcB, hrB⟩ := hh.take hb
  obtain ⟨S1, S2, hS, hd, hc, hr⟩ := hrB.take hl
  -- the row, apart from all else
  have hS' : ∀ b, S b ↔ S1 b ∨ or2 B1 S2 b := fun b => by
    rw [hB b, hS b]
    constructor
    · rintro (h | h | h)
      · exact .inr (.inl h)
      · exact .inl h
      · exact .inr (.inr h)
    · rintro (h | h | h)
      · exact .inr (.inl h)
      · exact .inl h
      · exact .inr (.inr h)
  have hd' : ∀ b, S1 b → ¬ or2 B1 S2 b := fun b hb h => h.elim (fun h => hdB b h ((hS b).2 (.inl hb))) (hd b hb)
  have hM : ∀ b, or2 (or2 B1 S2) Y b → or2 S Y b := fun b h => h.elim (fun h => .inl ((hS' b).2 (.inr h))) .inr
  have hfz := row_frozen hc hS' hd' hdY
  obtain ⟨hB1, xs, hblk, hrx, h1⟩ := hcB
  refine ⟨or2 B1 S2, ⟨B1, S2, fun b => Iff.rfl, fun b hb h => hdB b hb ((hS b).2 (.inr h)), ⟨hB1, xs, hblk, ?_, h1⟩, hr.of fun b _ h => hM b h⟩, fun t' => (he t').of fun b _ h => hM b h, fun b h => (hS' b).2 (.inr h)⟩
  have hrx' := hrx.of (M' := or2 (or2 B1 S2) Y) fun b _ h => hM b h
  obtain ⟨y, hy, hry⟩ := hrx'.get _ _ ht
  have hlt := (List.getElem?_eq_some_iff.1 hy).1
  have := hrx'.set off (.d (.sl k es)) y (by unfold Rep at hry ⊢; rw [hry.1]; exact hfz)
  have e : xs.set off y = xs := by
    apply List.ext_getElem?
    intro j
    rw [List.getElem?_set]
    split
    · rename_i e; subst e; exact hy.symm
    · rfl
  rwa [e] at this

end
end Go.Proofs.Ytepjnmocepkfjaa.A
