import Derived.Test.YtjcolfogmmjaoaaGreatDoorQEncodeNormal3
section
/- What a function does, told over what is known; the steps of a walk: beginning, branches, effects, calls, loops, drawn regions, the end. It holds of any program. -/
set_option linter.unusedVariables false
set_option linter.unusedSimpArgs false
namespace Go.Proofs.YtjcolfogmmjaoaaGreatDoor.A
open V

/-! ### Lists of chunks -/
def zipk : List Nat → List Chunk → Store
  | k :: ks, c :: cs => (k, c) :: zipk ks cs
  | [], c :: cs => (0, c) :: zipk [] cs
  | _, [] => []
def HoldsL (M : Nat → Prop) (w : World) (cs : List Chunk) (S : Nat → Prop) : Prop := Holds M w (cs.map fun c => (0, c)) S
theorem Holds.keys {M : Nat → Prop} {w : World} : ∀ {σ τ : Store} {S : Nat → Prop}, Holds M w σ S → σ.map (·.2) = τ.map (·.2) → Holds M w τ S
  | [], [], S, h, _ => h
  | [], _ :: _, S, h, e => by simp at e
  | _ :: _, [], S, h, e => by simp at e
  | (j, c) :: σ, (k, d) :: τ, S, ⟨S1, S2, h1, h2, h3, h4⟩, e => by
    simp only [List.map_cons, List.cons.injEq] at e
    obtain ⟨rfl, e⟩ := e
    exact ⟨S1, S2, h1, h2, h3, h4.keys e⟩
theorem zipk_snd : ∀ (ks : List Nat) (cs : List Chunk), (zipk ks cs).map (·.2) = cs
  | k :: ks, c :: cs => by unfold zipk; simp [zipk_snd ks cs]
  | [], c :: cs => by unfold zipk; simp [zipk_snd [] cs]
  | [], [] => rfl
  | _ :: _, [] => rfl
theorem HoldsL.zip {M : Nat → Prop} {w : World} {cs : List Chunk} {S : Nat → Prop} (h : HoldsL M w cs S) (ks : List Nat) : Holds M w (zipk ks cs) S := Holds.keys h (by rw [zipk_snd, List.map_map]; exact List.map_id' cs)
theorem Holds.list {M : Nat → Prop} {w : World} {σ : Store} {S : Nat → Prop} (h : Holds M w σ S) : HoldsL M w (σ.map (·.2)) S := Holds.keys h (by simp)
/-- Chunks by their keys, in that order; and the rest. -/
def takes : Store → List Nat → Option (List Chunk × Store)
  | σ, [] => some ([], σ)
  | σ, k :: ks => match look σ k with
    | none => none
    | some c => match takes (del σ k) ks with
      | none => none
      | some (cs, r) => some (c :: cs, r)
theorem Holds.takes {M : Nat → Prop} {w : World} : ∀ {ks : List Nat} {σ : Store} {S : Nat → Prop} {cs : List Chunk} {r : Store}, Holds M w σ S → A.takes σ ks = some (cs, r) → ∃ S1 S2, HoldsL M w cs S1 ∧ Holds M w r S2 ∧ (∀ b, S b ↔ S1 b ∨ S2 b) ∧ ∀ b, S1 b → ¬ S2 b
  | [], σ, S, cs, r, h, e => by
    unfold A.takes at e
    simp at e
    obtain ⟨rfl, rfl⟩ := e
    exact ⟨no, S, fun _ h => h, h, fun b => ⟨.inr, fun h => h.elim (fun h => h.elim) id⟩, fun _ h => h.elim⟩
  | k :: ks, σ, S, cs, r, h, e => by
    unfold A.takes at e
    split at e
    · cases e
    · rename_i c hl
      split at e
      · cases e
      · rename_i cs' r' ht
        simp at e
        obtain ⟨rfl, rfl⟩ := e
        obtain ⟨T1, T2, k1, k2, k3, k4⟩ := h.take hl
        obtain ⟨U1, U2, u1, u2, u3, u4⟩ := k4.takes ht
        refine ⟨fun b => T1 b ∨ U1 b, U2, ⟨T1, U1, fun b => Iff.rfl, fun b hb hu => k2 b hb ((u3 b).2 (.inl hu)), k3, u1⟩, u2, fun b => ?_, fun b hb hu => hb.elim (fun hb => k2 b hb ((u3 b).2 (.inr hu))) fun hb => u4 b hb hu⟩
        rw [k1 b, u3 b, or_assoc]
def rekK {α : Sort _} : List Nat → List Chunk → Store → (Store → α) → α
  | _, [], r, k => k r
  | [], c :: cs, r, k => rekK [] cs r fun s => k ((0, c) :: s)
  | j :: ks, c :: cs, r, k => rekK ks cs r fun s => k ((j, c) :: s)
theorem rekK_eq {α : Sort _} : ∀ (ks : List Nat) (cs : List Chunk) (r : Store) (k : Store → α), rekK ks cs r k = k (zipk ks cs ++ r)
  | [], [], r, k => rfl
  | _ :: _, [], r, k => rfl
  | [], c :: cs, r, k => by unfold rekK zipk; rw [rekK_eq]; rfl
  | j :: ks, c :: cs, r, k => by unfold rekK zipk; rw [rekK_eq]; rfl

/-! ### The same values, told otherwise -/
mutual
def Fit : AV → AV → Prop
  | .v x _, .v y _ => x = y
  | .v x _, .d d => match d with
    | .v y => x = y ∧ x.oneCell' = true
    | .sl _ es => x = .slice none 0 0 ∧ es = []
    | _ => False
  | .d x, .v y _ => x = .v y
  | .d x, .d y => x = y
  | .row x _, .row y _ => x = y
  | .agg xs, .agg ys => Fits xs ys
  | .tup xs, .tup ys => Fits xs ys
  | .ifc t a, .ifc u b => t = u ∧ Fit a b
  | .fn g xs, .fn h ys => g = h ∧ Fits xs ys
  | _, .any => True
  | _, _ => False
def Fits : List AV → List AV → Prop
  | [], [] => True
  | a :: as, b :: bs => Fit a b ∧ Fits as bs
  | _, _ => False
end
mutual
theorem Fit.rep {M : Nat → Prop} {w : World} : ∀ {a b : AV} {v : Value}, Fit a b → Rep M w a v → Rep M w b v
  | .v x _, .v y _, v, h, hr => by unfold Fit at h; subst h; unfold Rep at hr ⊢; exact hr
  | .v x _, .d d, v, h, hr => by
    unfold Fit at h
    unfold Rep at hr ⊢
    subst hr
    cases d with
    | v y => obtain ⟨rfl, h⟩ := h; unfold DRep; exact ⟨rfl, h⟩
    | sl k es => obtain ⟨rfl, rfl⟩ := h; unfold DRep; exact ⟨none, 0, rfl, by simp, by simp, by simp⟩
    | _ => exact h.elim
  | .d x, .v y _, v, h, hr => by unfold Fit at h; subst h; unfold Rep at hr ⊢; unfold DRep at hr; exact hr.1
  | .d x, .d y, v, h, hr => by unfold Fit at h; subst h; exact hr
  | .row x _, .row y _, v, h, hr => by unfold Fit at h; subst h; unfold Rep at hr ⊢; exact hr
  | .agg xs, .agg ys, v, h, hr => by unfold Fit at h; unfold Rep at hr ⊢; obtain ⟨zs, e, h1, h2⟩ := hr; exact ⟨zs, e, Fits.reps h h1, h2⟩
  | .tup xs, .tup ys, v, h, hr => by unfold Fit at h; unfold Rep at hr ⊢; obtain ⟨zs, e, h1⟩ := hr; exact ⟨zs, e, Fits.reps h h1⟩
  | .ifc t a, .ifc u b, v, h, hr => by unfold Fit at h; unfold Rep at hr ⊢; obtain ⟨rfl, h⟩ := h; obtain ⟨x, e, h1⟩ := hr; exact ⟨x, e, Fit.rep h h1⟩
  | .fn g xs, .fn k ys, v, h, hr => by unfold Fit at h; unfold Rep at hr ⊢; obtain ⟨rfl, h⟩ := h; obtain ⟨zs, e, h1⟩ := hr; exact ⟨zs, e, Fits.reps h h1⟩
  | .v _ _, .any, v, h, hr => by unfold Rep; trivial
  | .d _, .any, v, h, hr => by unfold Rep; trivial
  | .row _ _, .any, v, h, hr => by unfold Rep; trivial
  | .agg _, .any, v, h, hr => by unfold Rep; trivial
  | .tup _, .any, v, h, hr => by unfold Rep; trivial
  | .ifc _ _, .any, v, h, hr => by unfold Rep; trivial
  | .fn _ _, .any, v, h, hr => by unfold Rep; trivial
  | .any, .any, v, h, hr => by unfold Rep; trivial
  | .v _ _, .row _ _, v, h, hr => by unfold Fit at h; exact h.elim
  | .v _ _, .agg _, v, h, hr => by unfold Fit at h; exact h.elim
  | .v _ _, .tup _, v, h, hr => by unfold Fit at h; exact h.elim
  | .v _ _, .ifc _ _, v, h, hr => by unfold Fit at h; exact h.elim
  | .v _ _, .fn _ _, v, h, hr => by unfold Fit at h; exact h.elim
  | .d _, .row _ _, v, h, hr => by unfold Fit at h; exact h.elim
  | .d _, .agg _, v, h, hr => by unfold Fit at h; exact h.elim
  | .d _, .tup _, v, h, hr => by unfold Fit at h; exact h.elim
  | .d _, .ifc _ _, v, h, hr => by unfold Fit at h; exact h.elim
  | .d _, .fn _ _, v, h, hr => by unfold Fit at h; exact h.elim
  | .row _ _, .v _ _, v, h, hr => by unfold Fit at h; exact h.elim
  | .row _ _, .d _, v, h, hr => by unfold Fit at h; exact h.elim
  | .row _ _, .agg _, v, h, hr => by unfold Fit at h; exact h.elim
  | .row _ _, .tup _, v, h, hr => by unfold Fit at h; exact h.elim
  | .row _ _, .ifc _ _, v, h, hr => by unfold Fit at h; exact h.elim
  | .row _ _, .fn _ _, v, h, hr => by unfold Fit at h; exact h.elim
  | .agg _, .v _ _, v, h, hr => by unfold Fit at h; exact h.elim
  | .agg _, .d _, v, h, hr => by unfold Fit at h; exact h.elim
  | .agg _, .row _ _, v, h, hr => by unfold Fit at h; exact h.elim
  | .agg _, .tup _, v, h, hr => by unfold Fit at h; exact h.elim
  | .agg _, .ifc _ _, v, h, hr => by unfold Fit at h; exact h.elim
  | .agg _, .fn _ _, v, h, hr => by unfold Fit at h; exact h.elim
  | .tup _, .v _ _, v, h, hr => by unfold Fit at h; exact h.elim
  | .tup _, .d _, v, h, hr => by unfold Fit at h; exact h.elim
  | .tup _, .row _ _, v, h, hr => by unfold Fit at h; exact h.elim
  | .tup _, .agg _, v, h, hr => by unfold Fit at h; exact h.elim
  | .tup _, .ifc _ _, v, h, hr => by unfold Fit at h; exact h.elim
  | .tup _, .fn _ _, v, h, hr => by unfold Fit at h; exact h.elim
  | .ifc _ _, .v _ _, v, h, hr => by unfold Fit at h; exact h.elim
  | .ifc _ _, .d _, v, h, hr => by unfold Fit at h; exact h.elim
  | .ifc _ _, .row _ _, v, h, hr => by unfold Fit at h; exact h.elim
  | .ifc _ _, .agg _, v, h, hr => by unfold Fit at h; exact h.elim
  | .ifc _ _, .tup _, v, h, hr => by unfold Fit at h; exact h.elim
  | .ifc _ _, .fn _ _, v, h, hr => by unfold Fit at h; exact h.elim
  | .fn _ _, .v _ _, v, h, hr => by unfold Fit at h; exact h.elim
  | .fn _ _, .d _, v, h, hr => by unfold Fit at h; exact h.elim
  | .fn _ _, .row _ _, v, h, hr => by unfold Fit at h; exact h.elim
  | .fn _ _, .agg _, v, h, hr => by unfold Fit at h; exact h.elim
  | .fn _ _, .tup _, v, h, hr => by unfold Fit at h; exact h.elim
  | .fn _ _, .ifc _ _, v, h, hr => by unfold Fit at h; exact h.elim
  | .any, .v _ _, v, h, hr => by unfold Fit at h; exact h.elim
  | .any, .d _, v, h, hr => by unfold Fit at h; exact h.elim
  | .any, .row _ _, v, h, hr => by unfold Fit at h; exact h.elim
  | .any, .agg _, v, h, hr => by unfold Fit at h; exact h.elim
  | .any, .tup _, v, h, hr => by unfold Fit at h; exact h.elim
  | .any, .ifc _ _, v, h, hr => by unfold Fit at h; exact h.elim
  | .any, .fn _ _, v, h, hr => by unfold Fit at h; exact h.elim
theorem Fits.reps {M : Nat → Prop} {w : World} : ∀ {as bs : List AV} {vs : List Value}, Fits as bs → Reps M w as vs → Reps M w bs vs
  | [], [], vs, h, hr => hr
  | [], _ :: _, vs, h, hr => by unfold Fits at h; exact h.elim
  | _ :: _, [], vs, h, hr => by unfold Fits at h; exact h.elim
  | a :: as, b :: bs, vs, h, hr => by
    unfold Fits at h
    unfold Reps at hr ⊢
    obtain ⟨x, r, e, h1, h2⟩ := hr
    exact ⟨x, r, e, Fit.rep h.1 h1, Fits.reps h.2 h2⟩
end
def CFit : Chunk → Chunk → Prop
  | .blk g t cs, .blk g' t' cs' => g = g' ∧ t = t' ∧ Fits cs cs'
  | .row x e k es, .row x' e' k' es' => x = x' ∧ e = e' ∧ k = k' ∧ es = es'
  | .map r es, .map r' es' => r = r' ∧ es = es'
  | .ext a, .ext b => a = b
  | _, _ => False
def CFits : List Chunk → List Chunk → Prop
  | [], [] => True
  | a :: as, b :: bs => CFit a b ∧ CFits as bs
  | _, _ => False
theorem CFit.rep {M : Nat → Prop} {w : World} {a b : Chunk} {S : Nat → Prop} (h : CFit a b) (hr : CRep M w a S) : CRep M w b S := by
  cases a <;> cases b <;> first | exact h.elim | skip
  · obtain ⟨rfl, rfl, h⟩ := h
    obtain ⟨hS, xs, hb, hr, h1⟩ := hr
    exact ⟨hS, xs, hb, h.reps hr, h1⟩
  · obtain ⟨rfl, rfl, rfl, rfl⟩ := h; exact hr
  · obtain ⟨rfl, rfl⟩ := h; exact hr
  · cases h; exact hr
theorem CFits.holds {M : Nat → Prop} {w : World} : ∀ {as bs : List Chunk} {S : Nat → Prop}, CFits as bs → HoldsL M w as S → HoldsL M w bs S
  | [], [], S, h, hr => hr
  | [], _ :: _, S, h, hr => h.elim
  | _ :: _, [], S, h, hr => h.elim
  | a :: as, b :: bs, S, h, ⟨S1, S2, h1, h2, h3, h4⟩ => ⟨S1, S2, h1, h2, h.1.rep h3, CFits.holds h.2 h4⟩

theorem HoldsM.step {m : Mode} {M S : Nat → Prop} {w : World} {σ : Store} {Sg : World → Prop} (h : HoldsM m M S w σ Sg) : ∃ Sp Su, Holds M w (spOf m) Sp ∧ Holds M w σ Su ∧ (∀ b, S b ↔ Sp b ∨ Su b) ∧ (∀ b, Sp b → ¬ Su b) ∧
    ∀ (M' Su' : Nat → Prop) (w1 : World) (σ1 : Store), Ev Su w w1 → (∀ b, b < w.heap.size → Su b ∨ M' b → M b) → Holds M' w1 σ1 Su' → (∀ b, Su' b → Su b ∨ w.heap.size ≤ b) → (∀ pre σp ex, m = .reg pre σp ex → Sg w1) ∧ HoldsM (m.hap true) M' (or2 Sp Su') w1 σ1 Sg := by
  cases m with
  | plain => exact ⟨no, S, fun _ h => h, h, fun b => ⟨.inr, fun h => h.elim (fun h => h.elim) id⟩, fun _ h => h.elim, fun M' Su' w1 σ1 hev hm h1 hs => ⟨fun _ _ _ e => (by cases e), Holds.iff h1 fun b => ⟨fun h => h.elim (fun h => h.elim) id, .inr⟩⟩⟩
  | rest => exact ⟨no, S, fun _ h => h, h, fun b => ⟨.inr, fun h => h.elim (fun h => h.elim) id⟩, fun _ h => h.elim, fun M' Su' w1 σ1 hev hm h1 hs => ⟨fun _ _ _ e => (by cases e), Holds.iff h1 fun b => ⟨fun h => h.elim (fun h => h.elim) id, .inr⟩⟩⟩
  | last ex => exact ⟨no, S, fun _ h => h, h, fun b => ⟨.inr, fun h => h.elim (fun h => h.elim) id⟩, fun _ h => h.elim, fun M' Su' w1 σ1 hev hm h1 hs => ⟨fun _ _ _ e => (by cases e), Holds.iff h1 fun b => ⟨fun h => h.elim (fun h => h.elim) id, .inr⟩⟩⟩
  | reg pre σp ex =>
    obtain ⟨ws, U, Sp, Su, h⟩ := h
    refine ⟨Sp, Su, h.hp, h.hu, h.all, h.dis, fun M' Su' w1 σ1 hev hm h1 hs => ?_⟩
    have hsg1 : Sg w1 := by
      have hnow := h.now
      rw [h.sg] at hnow ⊢
      intro b hb hU
      rw [← hnow b hb hU]
      exact hev.block b (Nat.lt_of_lt_of_le hb h.size) fun h' => by
        rcases h.un b h' with h' | h'
        · exact hU h'
        · omega
    refine ⟨fun _ _ _ _ => hsg1, ws, U, Sp, Su', h.sg, hsg1, Nat.le_trans h.size hev.size, h.hp.ev hev hm (fun b hb h' => h.dis b hb h'), h1, fun b => Iff.rfl, fun b hb h' => ?_, fun b hb => ?_, h.kept, fun h => by cases h⟩
    · rcases hs b h' with h' | h'
      · exact h.dis b hb h'
      · have := h.hp.lt b hb; omega
    · rcases hs b hb with h' | h'
      · exact h.un b h'
      · exact .inr (Nat.le_trans h.size h')

/-! ### What a function does -/
def Post (X S : Nat → Prop) (w : World) (R : AV → List Chunk → Prop) (e : Ending) (w' : World) : Prop :=
  ∃ v a cs S', e = .returned v ∧ R a cs ∧ Rep (or2 S' X) w' a v ∧ HoldsL (or2 S' X) w' cs S' ∧ Ev S w w' ∧ ∀ b, S' b → S b ∨ w.heap.size ≤ b
/-- Called with such values, and such memory of its caller's own, the function returns such a one, and leaves such memory; all else is as it was. -/
structure FSpec (P : Program) (g : FuncId) (args : List AV) (cs : List Chunk) (R : AV → List Chunk → Prop) : Prop where
  out : ∀ (X S : Nat → Prop) (w : World) (xs : List Value), (∀ b, S b → ¬ X b) → (∀ b, X b → b < w.heap.size) → HoldsL (or2 S X) w cs S → Reps (or2 S X) w args xs → Calls P g xs.toArray w (Post X S w R)
theorem FSpec.mono {P : Program} {g : FuncId} {args : List AV} {cs : List Chunk} {R R' : AV → List Chunk → Prop} (h : FSpec P g args cs R) (hR : ∀ a cs, R a cs → R' a cs) : FSpec P g args cs R' :=
  ⟨fun X S w xs h1 h2 h3 h4 => (h.out X S w xs h1 h2 h3 h4).mono fun e w' ⟨v, a, cs', S', k1, k2, k3⟩ => ⟨v, a, cs', S', k1, hR _ _ k2, k3⟩⟩
theorem FSpec.fit {P : Program} {g : FuncId} {args args' : List AV} {cs cs' : List Chunk} {R : AV → List Chunk → Prop} (h : FSpec P g args' cs' R) (ha : Fits args args') (hc : CFits cs cs') : FSpec P g args cs R :=
  ⟨fun X S w xs h1 h2 h3 h4 => h.out X S w xs h1 h2 (hc.holds h3) (ha.reps h4)⟩
def enA : Nat → List AV → AEnv
  | _, [] => []
  | i, v :: vs => (i, v) :: enA (i + 1) vs
theorem enA_rep {M : Nat → Prop} {w : World} : ∀ {as : List AV} {xs : List Value} (i : Nat), Reps M w as xs → EnvRep M w (enA i as) (en i xs)
  | [], xs, i, h => fun t => by show Rep M w (getA [] t) _; show Rep M w .any _; unfold Rep; trivial
  | a :: as, xs, i, h => by
    unfold Reps at h
    obtain ⟨x, r, rfl, h1, h2⟩ := h
    intro t
    show Rep M w (getA ((i, a) :: enA (i + 1) as) t) (get ((i, x) :: en (i + 1) r) t)
    rw [getA_cons, get_cons]
    split
    · exact h1
    · exact enA_rep (i + 1) h2 t
def Ctx.post (c : Ctx) (R : AV → List Chunk → Prop) : Ending → World → Prop := Post c.X c.S c.w R

section
variable {P : Program} {L : List TD} {n : Nat} {Q : Exit → Act → World → Prop} {c : Ctx}
/-- The call's beginning. args': the arguments as the walk tells them; ks: the chunks' keys. -/
theorem a_enter (hT : TOk P L) {k : FuncId} {fn : Func} {cd : Code} {args : List AV} {cs : List Chunk} {R : AV → List Chunk → Prop} (args' : List AV) (ks : List Nat) (hf : P.funcs[k]? = some fn) (hb : fn.body = some cd) (hn : fn.ntmps = n) (hl : Nat.ble args'.length n = true)
    (ha : Fits args args') (h : ∀ c : Ctx, DenA c P n (bodyPost P fn (c.post R)) (.code [] cd) (enA 0 args') (zipk ks cs)) : FSpec P k args cs R := by
  refine ⟨fun X S w xs h1 h2 h3 h4 => ?_⟩
  have h5 := ha.reps h4
  have hlen := h5.len
  refine V.enter hT xs hf hb hn (by rw [hlen]; exact hl) ⟨?_⟩
  exact (h ⟨X, S, w, h1, h2⟩).out trivial w S (en 0 xs) (fun _ => True) ⟨enA_rep 0 h5, Ev.refl _ _, fun b hb => .inl hb⟩ (h3.zip ks)
theorem a_go (hT : TOk P L) {s : AMS} {f : AEnv} {σ : Store} {r : ARes} (h : machA L n fuel s f σ [] = r) (hob : r.ob.map (·.1) = r.ob.map (·.2)) (hd : DenOA c P n Q r) : DenA c P n Q s f σ :=
  ⟨machA_sound hT fuel s f σ [] (h ▸ OT.of hob) (h ▸ hd)⟩

variable {s : AMS} {f f' : AEnv} {σ σ' : Store} {ob : Obs} {κ : List Kt} {all : Array Oper} {dec : List Nat} {o : Oper} {al : Bool} {rest : List (Oper × Bool)} {m : Mode}

/-! #### Branches -/
theorem a_if (hT : TOk P L) {x y : Code} {b : Bool} (h : machA L n fuel s f σ [] = ⟨.br κ b x y, f', σ', ob⟩) (hob : ob.map (·.1) = ob.map (·.2)) (h1 : b = true → DenA c P n Q (.code κ x) f' σ') (h2 : b = false → DenA c P n Q (.code κ y) f' σ') : DenA c P n Q s f σ :=
  a_go hT h hob fun _ w S fc Sg hs hh => by
    cases b
    · exact (h2 rfl).out trivial w S fc Sg hs hh
    · exact (h1 rfl).out trivial w S fc Sg hs hh
theorem a_t (hT : TOk P L) {x y : Code} {b : Bool} (h : machA L n fuel s f σ [] = ⟨.br κ b x y, f', σ', ob⟩) (hob : ob.map (·.1) = ob.map (·.2)) (hb : b = true) (h1 : DenA c P n Q (.code κ x) f' σ') : DenA c P n Q s f σ :=
  a_if hT h hob (fun _ => h1) (fun e => by rw [hb] at e; cases e)
theorem a_f (hT : TOk P L) {x y : Code} {b : Bool} (h : machA L n fuel s f σ [] = ⟨.br κ b x y, f', σ', ob⟩) (hob : ob.map (·.1) = ob.map (·.2)) (hb : b = false) (h1 : DenA c P n Q (.code κ y) f' σ') : DenA c P n Q s f σ :=
  a_if hT h hob (fun e => by rw [hb] at e; cases e) (fun _ => h1)
/-- A guard is decided: '&&', '||'. -/
theorem a_g (hT : TOk P L) {d : Nat} {b : Bool} (h : machA L n fuel s f σ [] = ⟨.grd m κ all dec d b o al rest, f', σ', ob⟩) (hob : ob.map (·.1) = ob.map (·.2)) {hh : Nat} (hd : getA f' d = .v (.bool b) hh)
    (h1 : b = true → DenA c P n Q (.ops m κ all (d :: dec) ((o, al) :: rest)) ((d, .v (.bool true) 0) :: f') σ') (h2 : b = false → DenA c P n Q (.ops m κ all (d :: dec) ((o, al) :: rest)) ((d, .v (.bool false) 0) :: f') σ') : DenA c P n Q s f σ :=
  a_go hT h hob fun hok w S fc Sg hs hh => by
    have hok' : ∀ dec', (AMS.ops m κ all dec' ((o, al) :: rest)).ok := fun dec' => by
      cases m with
      | last ex => obtain ⟨h1, h2, h3⟩ := hok; exact ⟨h1, .inl ⟨o, by rw [h2, h3]⟩⟩
      | _ => trivial
    have hx : get fc d = .bool b := by have := hs.env d; rw [hd] at this; exact rep_v this
    have key : ∀ b', b' = b → Sat c w S ((d, .v (.bool b') 0) :: f') ((d, .bool b') :: fc) := fun b' e => ⟨hs.env.put (some d) mk_v, hs.ev, hs.sub⟩
    show OR P (conM Sg m) all (post P Q κ) ((o, al) :: rest) (act n fc) w
    cases b
    · have := (h2 rfl).out (hok' _) w S ((d, .bool false) :: fc) Sg (key false rfl) hh
      change OR P (conM Sg m) all (post P Q κ) ((o, al) :: rest) (act n ((d, .bool false) :: fc)) w at this
      rwa [act_same hx] at this
    · have := (h1 rfl).out (hok' _) w S ((d, .bool true) :: fc) Sg (key true rfl) hh
      change OR P (conM Sg m) all (post P Q κ) ((o, al) :: rest) (act n ((d, .bool true) :: fc)) w at this
      rwa [act_same hx] at this
theorem a_gt (hT : TOk P L) {d : Nat} {b : Bool} (h : machA L n fuel s f σ [] = ⟨.grd m κ all dec d b o al rest, f', σ', ob⟩) (hob : ob.map (·.1) = ob.map (·.2)) {hh : Nat} (hd : getA f' d = .v (.bool b) hh) (hb : b = true)
    (h1 : DenA c P n Q (.ops m κ all (d :: dec) ((o, al) :: rest)) ((d, .v (.bool true) 0) :: f') σ') : DenA c P n Q s f σ := a_g hT h hob hd (fun _ => h1) (fun e => by rw [hb] at e; cases e)
theorem a_gf (hT : TOk P L) {d : Nat} {b : Bool} (h : machA L n fuel s f σ [] = ⟨.grd m κ all dec d b o al rest, f', σ', ob⟩) (hob : ob.map (·.1) = ob.map (·.2)) {hh : Nat} (hd : getA f' d = .v (.bool b) hh) (hb : b = false)
    (h1 : DenA c P n Q (.ops m κ all (d :: dec) ((o, al) :: rest)) ((d, .v (.bool false) 0) :: f') σ') : DenA c P n Q s f σ := a_g hT h hob hd (fun e => by rw [hb] at e; cases e) (fun _ => h1)

/-! #### Effects -/
/-- Behind an effect: what was found, and what there is now. -/
def After (Y Su : Nat → Prop) (w : World) (R : AV → Store → Prop) (v : Value) (w1 : World) : Prop :=
  ∃ a σ1 Su', R a σ1 ∧ Rep (or2 Su' Y) w1 a v ∧ Holds (or2 Su' Y) w1 σ1 Su' ∧ Ev Su w w1 ∧ ∀ b, Su' b → Su b ∨ w.heap.size ≤ b
def Does (P : Program) (Y Su : Nat → Prop) (w : World) (R : AV → Store → Prop) : Result Next → Prop
  | .ok (.value v) w1 => After Y Su w R v w1
  | .ok .skip w1 => After Y Su w R undef w1
  | .ok (.enter k args) w0 => Calls P k args w0 fun e w1 => ∃ v, e = .returned v ∧ After Y Su w R v w1
  | _ => False
/-- An operation that does something to one's own memory. -/
theorem a_eff (hT : TOk P L) (R : AV → Store → Prop) (h : machA L n fuel s f σ [] = ⟨.op m κ all dec o true rest, f', σ', ob⟩) (hob : ob.map (·.1) = ob.map (·.2))
    (he : ∀ (Y Su : Nat → Prop) (w : World) (fc : Env), (∀ b, Su b → ¬ Y b) → (∀ b, Y b → b < w.heap.size) → Holds (or2 Su Y) w σ' Su → EnvRep (or2 Su Y) w f' fc → Does P Y Su w R ((execOp (ev n fc) o).run P w))
    (hk : ∀ a σ1, R a σ1 → DenA c P n Q (.ops (m.hap true) κ all dec rest) (putA f' o.dst a) σ1) : DenA c P n Q s f σ := by
  refine a_go hT h hob fun hok w S fc Sg hs hh => ?_
  have haa : (act n fc).eval = ev n fc := funext (act_eval n fc)
  have hcon : conM Sg (m.hap true) = conM Sg m := by cases m <;> rfl
  have hok' : (AMS.ops (m.hap true) κ all dec rest).ok := by
    cases m with
    | last ex => obtain ⟨h1, h2, h3⟩ := hok; exact ⟨h1, .inr h3⟩
    | _ => trivial
  obtain ⟨Sp, Su, hp, hu, hall, hdis, hstep⟩ := hh.step
  -- what the others own, and the region's part that is left alone
  have hY : ∀ b, or2 Sp c.X b → b < w.heap.size := fun b hb => hb.elim (fun hb => hp.lt b hb) fun hb => Nat.lt_of_lt_of_le (c.old b hb) hs.ev.size
  have hdisX : ∀ b, S b → ¬ c.X b := fun b hb hx => (hs.sub b hb).elim (fun h => c.dis b h hx) fun h => Nat.lt_irrefl _ (Nat.lt_of_le_of_lt h (c.old b hx))
  have hd : ∀ b, Su b → ¬ or2 Sp c.X b := fun b hb h => h.elim (fun h => hdis b h hb) (hdisX b ((hall b).2 (.inr hb)))
  have hM1 : ∀ b, or2 Su (or2 Sp c.X) b → or2 S c.X b := fun b h => h.elim (fun h => .inl ((hall b).2 (.inr h))) fun h => h.elim (fun h => .inl ((hall b).2 (.inl h))) .inr
  have hdo := he (or2 Sp c.X) Su w fc hd hY (hu.of fun b _ h => hM1 b h) (hs.env.of fun b _ h => hM1 b h)
  -- what is so behind it
  have next : ∀ v w1, After (or2 Sp c.X) Su w R v w1 → Keep (conM Sg m) rest.isEmpty w1 ∧ OR P (conM Sg m) all (post P Q κ) rest ((act n fc).put o.dst v) w1 := by
    rintro v w1 ⟨a, σ1, Su', hR, hrep, hh1, hev, hsub⟩
    have hM2 : ∀ b, or2 (or2 Sp Su') c.X b → or2 Su' (or2 Sp c.X) b := fun b h => h.elim (fun h => h.elim (fun h => .inr (.inl h)) .inl) fun h => .inr (.inr h)
    have hm : ∀ b, b < w.heap.size → Su b ∨ or2 (or2 Sp Su') c.X b → or2 S c.X b := fun b hb h => by
      rcases h with h | (h | h) | h
      · exact .inl ((hall b).2 (.inr h))
      · exact .inl ((hall b).2 (.inl h))
      · rcases hsub b h with h | h
        · exact .inl ((hall b).2 (.inr h))
        · omega
      · exact .inr h
    obtain ⟨hsg, hh2⟩ := hstep (or2 (or2 Sp Su') c.X) Su' w1 σ1 hev hm (hh1.of fun b _ h => hM2 b h) hsub
    refine ⟨?_, ?_⟩
    · cases m with
      | plain => trivial
      | rest => exact .inr trivial
      | last ex => obtain ⟨h1, _, h3⟩ := hok; exact .inl (by rw [h1, h3]; rfl)
      | reg pre σp ex => exact .inr (hsg _ _ _ rfl)
    · rw [act_put, ← hcon]
      refine (hk a σ1 hR).out hok' w1 (or2 Sp Su') (put fc o.dst v) Sg ⟨?_, ?_, ?_⟩ hh2
      · exact EnvRep.put (hs.env.pass hev hm) o.dst (hrep.of fun b _ h => hM2 b h)
      · exact hs.ev.then hev fun b hb h => (hs.sub b ((hall b).2 (.inr h))).elim id fun h => by omega
      · rintro b (h | h)
        · exact hs.sub b ((hall b).2 (.inl h))
        · rcases hsub b h with h | h
          · exact hs.sub b ((hall b).2 (.inr h))
          · exact .inr (Nat.le_trans hs.ev.size h)
  refine .inr ⟨rfl, .inl ?_⟩
  unfold Oper.wp
  rw [haa]
  revert hdo
  generalize (execOp (ev n fc) o).run P w = res
  intro hdo
  cases res with
  | halt _ _ => exact hdo.elim
  | ok nx w1 =>
    cases nx with
    | value v => exact next v w1 hdo
    | skip => exact next undef w1 hdo
    | enter k args =>
      refine Calls.mono hdo fun e w2 ⟨v, he, hv⟩ => ?_
      subst he
      exact next v w2 hv
    | _ => exact hdo.elim
end
end Go.Proofs.YtjcolfogmmjaoaaGreatDoor.A
end

section
/- The steps of a walk, operation by operation. They hold of any program. -/
set_option linter.unusedVariables false
set_option linter.unusedSimpArgs false
namespace Go.Proofs.YtjcolfogmmjaoaaGreatDoor.A
open V

/-! ### Zero values -/
def zeroOf (P : Program) (t : TypeId) : List Value := match P.info? t with
  | some i => match i.zero with
    | some z => match Nat.ble z.cells.size 40 && ones z.cells.toList with | true => z.cells.toList | false => []
    | none => []
  | none => []
def zt (Z : List (List Value)) (t : TypeId) : List Value := Z.getD t []
def ZOk (P : Program) (Z : List (List Value)) : Prop := ∀ t, zt Z t = [] ∨ zt Z t = zeroOf P t
theorem ZOk.of {P : Program} {Z : List (List Value)} (h : (List.range Z.length).map (zeroOf P) = Z) : ZOk P Z := by
  intro t
  by_cases ht : t < Z.length
  · right
    unfold zt
    rw [List.getD_eq_getElem?_getD, List.getElem?_eq_getElem ht, Option.getD_some]
    have : ((List.range Z.length).map (zeroOf P))[t]? = Z[t]? := by rw [h]
    rw [List.getElem?_eq_getElem ht, List.getElem?_map, List.getElem?_range ht] at this
    simpa using this.symm
  · left
    unfold zt
    rw [List.getD_eq_getElem?_getD, List.getElem?_eq_none (Nat.le_of_not_lt ht)]
    rfl
theorem ZOk.spec {P : Program} {Z : List (List Value)} (hZ : ZOk P Z) {t : TypeId} {z : Value} {zs : List Value} (h : zt Z t = z :: zs) : ∃ i v, P.info? t = some i ∧ i.zero = some v ∧ v.cells.toList = z :: zs ∧ ones (z :: zs) = true := by
  rcases hZ t with e | e
  · rw [e] at h; cases h
  · rw [e] at h
    unfold zeroOf at h
    split at h
    · rename_i i hi
      split at h
      · rename_i v hv
        split at h
        · rename_i h1; rw [Bool.and_eq_true] at h1; have h1 := h1.2; rw [h] at h1; exact ⟨i, v, hi, hv, h, h1⟩
        · cases h
      · cases h
    · cases h
def avs (l : List Value) : List AV := l.map fun x => .v x 0
/-- A value's cells. -/
def cellsOf1 : AV → Option (List AV)
  | .agg cs => some cs
  | a => match one1 a with | true => some [a] | false => none
theorem cellsOf1_rep {M : Nat → Prop} {w : World} {a : AV} {cs : List AV} {v : Value} (h : cellsOf1 a = some cs) (hr : Rep M w a v) : Reps M w cs v.cells.toList ∧ ∀ u ∈ v.cells.toList, u.oneCell' = true := by
  have single : ∀ {a : AV}, one1 a = true → Rep M w a v → Reps M w [a] v.cells.toList ∧ ∀ u ∈ v.cells.toList, u.oneCell' = true := fun h1 hr => by
    have hx := one1_one h1 hr
    rw [cells_one hx]
    exact ⟨Reps.cons hr Reps.nil, by simpa using hx⟩
  cases a with
  | agg cs' =>
    simp [cellsOf1] at h
    subst h
    unfold Rep at hr
    obtain ⟨ys, rfl, hr, h1⟩ := hr
    exact ⟨by simpa [Value.cells] using hr, by simpa [Value.cells] using h1⟩
  | _ =>
    simp only [cellsOf1] at h
    split at h
    · rename_i h1
      simp at h
      subst h
      exact single h1 hr
    · cases h
/-- Cells that lie in frozen data. -/
def datK : AV → Option Dat
  | .d x => some x
  | .v x _ => match one1 (.v x 0) with | true => some (.v x) | false => none
  | .ifc t (.agg cs) => none
  | _ => none
def datsK : List AV → Option (List Dat)
  | [] => some []
  | a :: as => match datK a with
    | none => none
    | some d => match datsK as with
      | none => none
      | some ds => some (d :: ds)
theorem datK_rep {M : Nat → Prop} {w : World} {a : AV} {d : Dat} {v : Value} (h : datK a = some d) (hr : Rep M w a v) : DRep M w d v := by
  cases a with
  | d x => simp [datK] at h; subst h; unfold Rep at hr; exact hr
  | v x hh =>
    simp only [datK] at h
    split at h
    · rename_i h1
      simp at h
      subst h
      have h2 := one1_one (M := M) (w := w) h1 (x := x) mk_v
      unfold Rep at hr
      unfold DRep
      exact ⟨hr, h2⟩
    · cases h
  | ifc t a => cases a <;> simp [datK] at h
  | _ => simp [datK] at h
theorem datsK_rep {M : Nat → Prop} {w : World} : ∀ {as : List AV} {ds : List Dat} {vs : List Value}, datsK as = some ds → Reps M w as vs → VRep M w ds vs
  | [], ds, vs, h, hr => by simp [datsK] at h; subst h; unfold Reps at hr; unfold VRep; exact hr
  | a :: as, ds, vs, h, hr => by
    unfold datsK at h
    split at h
    · cases h
    · rename_i d hd
      split at h
      · cases h
      · rename_i ds' hds
        simp at h
        subst h
        unfold Reps at hr
        obtain ⟨y, r, rfl, h1, h2⟩ := hr
        exact VRep.cons (datK_rep hd h1) (datsK_rep hds h2)

section
variable {P : Program} {L : List TD} {Z : List (List Value)} {n : Nat} {Q : Exit → Act → World → Prop} {c : Ctx}
variable {s : AMS} {f f' : AEnv} {σ σ' : Store} {ob : Obs} {κ : List Kt} {all : Array Oper} {dec : List Nat} {o : Oper} {al : Bool} {rest : List (Oper × Bool)} {m : Mode}

/-! ### What doesn't hang on memory -/
theorem a_pure (hT : TOk P L) (a : AV) (h : machA L n fuel s f σ [] = ⟨.op m κ all dec o al rest, f', σ', ob⟩) (hob : ob.map (·.1) = ob.map (·.2))
    (he : ∀ M w fc, EnvRep M w f' fc → ∃ v, (∀ w', (execOp (ev n fc) o).run P w' = .ok (.value v) w') ∧ Rep M w a v) (hk : DenA c P n Q (.ops m κ all dec rest) (putA f' o.dst a) σ') : DenA c P n Q s f σ := by
  refine a_go hT h hob fun hok w S fc Sg hs hh => ?_
  obtain ⟨v, hv, hr⟩ := he _ _ _ hs.env
  have haa : (act n fc).eval = ev n fc := funext (act_eval n fc)
  refine .inl ⟨v, fun w' _ => by rw [haa]; exact hv w', ?_⟩
  rw [act_put]
  refine hk.out ?_ w S (put fc o.dst v) Sg ⟨hs.env.put o.dst hr, hs.ev, hs.sub⟩ hh
  cases m with
  | last ex => obtain ⟨h1, h2, h3⟩ := hok; exact ⟨h1, .inr h3⟩
  | _ => trivial
/-- 'pick': one of two values. -/
theorem a_pick (hT : TOk P L) {cn x y : Operand} {b : Bool} {hh : Nat} (h : machA L n fuel s f σ [] = ⟨.op m κ all dec o al rest, f', σ', ob⟩) (hob : ob.map (·.1) = ob.map (·.2)) (ho : o.op = .pick cn x y) (hc : evA n f' cn = .v (.bool b) hh)
    (h1 : b = true → DenA c P n Q (.ops m κ all dec rest) (putA f' o.dst (evA n f' x)) σ') (h2 : b = false → DenA c P n Q (.ops m κ all dec rest) (putA f' o.dst (evA n f' y)) σ') : DenA c P n Q s f σ := by
  refine a_pure hT (if b then evA n f' x else evA n f' y) h hob (fun M w fc he => ⟨if b then ev n fc x else ev n fc y, fun w' => ?_, ?_⟩) (by cases b; exact h2 rfl; exact h1 rfl)
  · have := he.eval (n := n) cn
    rw [hc] at this
    simp [execOp, ho, rep_v this, asBool]
  · cases b
    · exact he.eval y
    · exact he.eval x
/-- .. where both are numbers or truths: one value of its own. -/
theorem a_pickv (hT : TOk P L) {cn x y : Operand} {b : Bool} {hh h1 h2 : Nat} {vx vy : Value} (v : Value) (h : machA L n fuel s f σ [] = ⟨.op m κ all dec o al rest, f', σ', ob⟩) (hob : ob.map (·.1) = ob.map (·.2)) (ho : o.op = .pick cn x y) (hc : evA n f' cn = .v (.bool b) hh)
    (hx : evN n f' x = .v vx h1) (hy : evN n f' y = .v vy h2) (hv : (if b then vx else vy) = v) (hk : DenA c P n Q (.ops m κ all dec rest) (putA f' o.dst (.v v 0)) σ') : DenA c P n Q s f σ := by
  refine a_pure hT (.v v 0) h hob (fun M w fc he => ⟨v, fun w' => ?_, mk_v⟩) hk
  have h0 := he.eval (n := n) cn
  have h3 := he.evalN (n := n) x
  have h4 := he.evalN (n := n) y
  rw [hc] at h0
  rw [hx] at h3
  rw [hy] at h4
  cases b <;> simp [execOp, ho, rep_v h0, asBool, rep_v h3, rep_v h4, ← hv]
/-- An operation on numbers, or texts. -/
theorem a_bin (hT : TOk P L) {op : BinOp} {t yt : TypeId} {x y : Operand} {p q : Value} {h1 h2 : Nat} (r : Value) (h : machA L n fuel s f σ [] = ⟨.op m κ all dec o al rest, f', σ', ob⟩) (hob : ob.map (·.1) = ob.map (·.2)) (ho : o.op = .binOp op t x y yt) (hop : op.ctorIdx ≠ BinOp.eql.ctorIdx ∧ op.ctorIdx ≠ BinOp.neq.ctorIdx)
    (hx : evN n f' x = .v p h1) (hy : evN n f' y = .v q h2) (hr : ∀ w, (binOp op t p q).run P w = .ok r w) (hk : DenA c P n Q (.ops m κ all dec rest) (putA f' o.dst (.v r 0)) σ') : DenA c P n Q s f σ := by
  refine a_pure hT (.v r 0) h hob (fun M w fc he => ⟨r, fun w' => ?_, mk_v⟩) hk
  have h3 := he.evalN (n := n) x
  have h4 := he.evalN (n := n) y
  rw [hx] at h3
  rw [hy] at h4
  exact run_bin hop ho (rep_v h3) (rep_v h4) (hr w')
theorem bin_rem {t : TypeId} {k : IntKind} {a b : Int} (hb : b ≠ 0) (w : World) : (binOp .rem t (.int k a) (.int k b)).run P w = .ok (.int k (a.tmod b)) w := by simp [binOp, Op.intDiv, hb]
theorem bin_quo {t : TypeId} {k : IntKind} {a b : Int} (hb : b ≠ 0) (w : World) : (binOp .quo t (.int k a) (.int k b)).run P w = .ok (.int k (k.wrap (a.tdiv b))) w := by simp [binOp, Op.intDiv, hb]
theorem bin_xor {t : TypeId} {k : IntKind} {a b : Int} (w : World) : (binOp .xor t (.int k a) (.int k b)).run P w = .ok (.int k (k.wrap (BitVec.ofInt k.bits a ^^^ BitVec.ofInt k.bits b).toNat)) w := by simp only [binOp, ne_eq, not_true_eq_false, if_false, Op.intBits]; rfl
theorem bin_and {t : TypeId} {k : IntKind} {a b : Int} (w : World) : (binOp .and t (.int k a) (.int k b)).run P w = .ok (.int k (k.wrap (BitVec.ofInt k.bits a &&& BitVec.ofInt k.bits b).toNat)) w := by simp only [binOp, ne_eq, not_true_eq_false, if_false, Op.intBits]; rfl
theorem bin_or {t : TypeId} {k : IntKind} {a b : Int} (w : World) : (binOp .or t (.int k a) (.int k b)).run P w = .ok (.int k (k.wrap (BitVec.ofInt k.bits a ||| BitVec.ofInt k.bits b).toNat)) w := by simp only [binOp, ne_eq, not_true_eq_false, if_false, Op.intBits]; rfl
theorem bin_shl {t : TypeId} {k k2 : IntKind} {a b : Int} (hb : 0 ≤ b) (w : World) : (binOp .shl t (.int k a) (.int k2 b)).run P w = .ok (.int k (k.wrap (a * 2 ^ (min b.toNat k.bits)))) w := by simp only [binOp, Op.shift, if_neg (show ¬ b < 0 by omega)]; rfl
theorem bin_shr {t : TypeId} {k k2 : IntKind} {a b : Int} (hb : 0 ≤ b) (w : World) : (binOp .shr t (.int k a) (.int k2 b)).run P w = .ok (.int k (a.fdiv (2 ^ (min b.toNat k.bits)))) w := by simp only [binOp, Op.shift, if_neg (show ¬ b < 0 by omega)]; rfl
theorem bin_cat {t : TypeId} {a b : ByteArray} (h : a.size + b.size ≤ 9223372036854775807) (w : World) : (binOp .add t (.string a) (.string b)).run P w = .ok (.string (a ++ b)) w := by
  have : ¬ ((a.size + b.size : Nat) : Int) > IntKind.i64.max := by simp only [IntKind.max, IntKind.bits, IntKind.signed]; omega
  simp only [binOp, Op.stringOp]
  rw [if_neg this]; rfl
/-- A struct is built. -/
def bldA (zs : List AV) (fs : List (Nat × Nat × Bool)) : List (Nat × AV) → Option (List AV)
  | [] => some zs
  | (i, a) :: l => match fs[i]?, cellsOf1 a with
    | some (off, size, _), some cs => match Nat.beq cs.length size && Nat.ble (off + cs.length) zs.length with
      | true => bldA (setA zs off cs) fs l
      | false => none
    | _, _ => none
theorem bld_fold (off : Nat) (vs : List Value) (z : List Value) (h : off + vs.length ≤ z.length) : (vs.toArray.zipIdx.foldl (fun cs (x : Value × Nat) => cs.setIfInBounds (off + x.2) x.1) z.toArray) = (z.take off ++ vs ++ z.drop (off + vs.length)).toArray := by
  apply Array.ext_getElem?
  intro j
  have := foldl_set off vs 0 z.toArray (by simpa using h) j
  rw [← Array.foldl_toList, Array.toList_zipIdx, this]
  simp only [Nat.add_zero, List.getElem?_toArray]
  by_cases h1 : off ≤ j ∧ j < off + vs.length
  · rw [if_pos h1, List.append_assoc, List.getElem?_append_right (by simp; omega), List.getElem?_append_left (by simp; omega)]
    simp [show min off z.length = off by omega]
  · rw [if_neg h1]
    rcases Nat.lt_or_ge j off with h2 | h2
    · rw [List.append_assoc, List.getElem?_append_left (by simp; omega), List.getElem?_take_of_lt h2]
    · rw [List.append_assoc, List.getElem?_append_right (by simp; omega), List.getElem?_append_right (by simp; omega), List.getElem?_drop]
      congr 1
      simp
      omega
theorem bldA_rep {M : Nat → Prop} {w : World} {fs : List (Nat × Nat × Bool)} : ∀ {ps : List (Nat × AV)} {vs : List (Nat × Value)} {zs cs : List AV} {z : List Value}, bldA zs fs ps = some cs → Reps M w zs z → (∀ u ∈ z, u.oneCell' = true) → ps.map (·.1) = vs.map (·.1) → Reps M w (ps.map (·.2)) (vs.map (·.2)) →
    ∃ xs, V.bld z.toArray fs vs = some xs.toArray ∧ Reps M w cs xs ∧ ∀ u ∈ xs, u.oneCell' = true
  | [], vs, zs, cs, z, h, hz, h1, hi, hr => by
    simp [bldA] at h
    subst h
    simp at hi
    subst hi
    exact ⟨z, rfl, hz, h1⟩
  | (i, a) :: ps, [], zs, cs, z, h, hz, h1, hi, hr => by simp at hi
  | (i, a) :: ps, (j, v) :: vs, zs, cs, z, h, hz, h1, hi, hr => by
    simp only [List.map_cons, List.cons.injEq] at hi
    obtain ⟨rfl, hi⟩ := hi
    simp only [List.map_cons] at hr
    unfold Reps at hr
    obtain ⟨y, r, e, hra, hr⟩ := hr
    simp only [List.cons.injEq] at e
    obtain ⟨rfl, rfl⟩ := e
    unfold bldA at h
    split at h
    · rename_i off size ag cs' hf hc
      split at h
      · rename_i hb
        simp only [Bool.and_eq_true] at hb
        have hb1 := Nat.eq_of_beq_eq_true hb.1
        have hb2 := Nat.le_of_ble_eq_true hb.2
        obtain ⟨hrc, h1c⟩ := cellsOf1_rep hc hra
        have hlc := hrc.len
        have hlz := hz.len
        rw [setA_eq zs off cs' hb2] at h
        obtain ⟨xs, hx1, hx2, hx3⟩ := bldA_rep (z := z.take off ++ v.cells.toList ++ z.drop (off + v.cells.toList.length)) h (by rw [← hlc]; exact ((hz.take off).app hrc).app (hz.drop _)) (by
          intro u hu
          rw [List.mem_append, List.mem_append] at hu
          rcases hu with (hu | hu) | hu
          · exact h1 u (List.mem_of_mem_take hu)
          · exact h1c u hu
          · exact h1 u (List.mem_of_mem_drop hu)) hi hr
        refine ⟨xs, ?_, hx2, hx3⟩
        unfold V.bld at hx1 ⊢
        unfold Instr.fill
        simp only [hf, Option.map_some]
        rw [if_neg (by simp; simp at hlc; omega)]
        have := bld_fold off v.cells.toList z (by omega)
        simp only [Array.toArray_toList] at this
        rw [this]
        exact hx1
      · cases h
    · cases h
theorem a_build (hT : TOk P L) (hZ : ZOk P Z) {t : TypeId} {k : Nat} {fs : List (Nat × Nat × Bool)} {ps : Array (Nat × Operand)} {z : Value} {zs : List Value} (cs : List AV) (h : machA L n fuel s f σ [] = ⟨.op m κ all dec o al rest, f', σ', ob⟩) (hob : ob.map (·.1) = ob.map (·.2)) (ho : o.op = .build t ps) (ht : tl L t = .agg k fs) (hz : zt Z t = z :: zs)
    (hf : bldA (avs (z :: zs)) fs (ps.toList.map fun p => (p.1, evA n f' p.2)) = some cs) (hk : DenA c P n Q (.ops m κ all dec rest) (putA f' o.dst (.agg cs)) σ') : DenA c P n Q s f σ := by
  refine a_pure hT (.agg cs) h hob (fun M w fc he => ?_) hk
  obtain ⟨i, v, hi, hiz, hcs, h1⟩ := hZ.spec hz
  obtain ⟨Fs, inf, hu, hi', hm, hall, rfl⟩ := agg_fields hT ht
  have hrep : ∀ l : List (Nat × Operand), Reps M w (l.map fun p => evA n f' p.2) (l.map fun p => ev n fc p.2) := fun l => by
    induction l with
    | nil => exact Reps.nil
    | cons p l ih => exact Reps.cons (he.eval p.2) ih
  obtain ⟨xs, hx1, hx2, hx3⟩ := bldA_rep (M := M) (w := w) (vs := ps.toList.map fun p => (p.1, ev n fc p.2)) (z := z :: zs) hf (reps_vs _) (ones_spec h1) (by simp) (by rw [List.map_map, List.map_map]; exact hrep ps.toList)
  refine ⟨.agg xs.toArray, fun w' => ?_, by unfold Rep; exact ⟨xs, rfl, hx2, hx3⟩⟩
  have hmap : (Fs.mapM fun (f : Field) => (do pure (f.offset, ← sizeOf f.type) : Sem (Nat × Nat))).run P w' = .ok (Fs.map fun f => (f.offset, P.cellsOf f.type)) w' := by
    obtain ⟨Fs⟩ := Fs
    rw [List.mapM_toArray]
    have : ∀ l : List Field, (∀ f ∈ l, (P.info? f.type).isSome = true) → (l.mapM fun (f : Field) => (do pure (f.offset, ← sizeOf f.type) : Sem (Nat × Nat))).run P w' = .ok (l.map fun f => (f.offset, P.cellsOf f.type)) w' := by
      intro l
      induction l with
      | nil => intro _; simp
      | cons f l ih =>
        intro h
        have h1 := ih fun g hg => h g (by simp [hg])
        simp only [List.mapM_cons, Sem.run_bind, run_sizeOf' (h f (by simp)), Result.andThen_ok, Sem.run_pure] at h1 ⊢
        rw [h1]
        simp
    have := this Fs fun f hf => (hall f (by simpa using hf)).1
    simp only [Sem.run_map, Sem.run_bind, Sem.run_pure] at this ⊢
    rw [this]
    simp
  have hfill : Instr.fill (fun i => (Fs.map fun f => (f.offset, P.cellsOf f.type))[i]?) v.cells ((ps.map fun (i, x) => (i, ev n fc x)).toList) = some xs.toArray := by
    rw [← hx1]
    unfold V.bld
    congr 1
    · funext i
      rw [List.getElem?_map, Option.map_map, Array.getElem?_map, Array.getElem?_toList]
      rfl
    · rw [← hcs]
    · simp
  unfold execOp
  simp only [ho, Instr.build, Sem.run_bind, zeroValue, typeInfo, run_program, Result.andThen_ok, hi, hiz, Sem.run_pure, run_underlying hu, hmap]
  rw [hfill]
  rfl
/-- An element of frozen data. -/
theorem a_ix (hT : TOk P L) {t e : TypeId} {k hh : Nat} {x y : Operand} {es : List (List Dat)} {ki : IntKind} {i : Int} (d : List Dat) (h : machA L n fuel s f σ [] = ⟨.op m κ all dec o al rest, f', σ', ob⟩) (hob : ob.map (·.1) = ob.map (·.2)) (ho : o.op = .indexAddr t x y) (ht : tl L t = .sl e k)
    (hx : evA n f' x = .d (.sl k es)) (hy : evN n f' y = .v (.int ki i) hh) (h0 : 0 ≤ i) (hd : es[i.toNat]? = some d) (hk : DenA c P n Q (.ops m κ all dec rest) (putA f' o.dst (.d (.p d))) σ') : DenA c P n Q s f σ := by
  refine a_pure hT (.d (.p d)) h hob (fun M w fc he => ?_) hk
  obtain ⟨hu, hi, hm⟩ := sl_tl hT ht
  have h1 := he.eval (n := n) x
  have h2 := he.evalN (n := n) y
  rw [hx] at h1
  rw [hy] at h2
  unfold Rep at h1
  unfold DRep at h1
  obtain ⟨A, cap, e, hc, hlen, hr⟩ := h1
  have hlt := (List.getElem?_eq_some_iff.1 hd).1
  obtain ⟨ad, rfl, hM, hb, hS⟩ := hr (by intro e; rw [e] at hlt; simp at hlt)
  refine ⟨.pointer (some (ad.add (i.toNat * k))), fun w' => ?_, ?_⟩
  · simp [execOp, ho, Instr.indexAt, e, rep_v h2, asIntOf, underlying, hu, h0, show i < (es.length : Int) by omega, run_sizeOf' hi, hm]
  · unfold Rep
    unfold DRep
    refine ⟨_, rfl, by rwa [add_block], by rwa [add_block], LRep.mk fun j x hj => ?_⟩
    rw [Nat.zero_add, add_add]
    have := (SRep.flat.1 hS).get (i.toNat * k + j) x ?_
    · rwa [Nat.zero_add] at this
    · -- the place in the row
      have key : ∀ (es : List (List Dat)) (i : Nat), (∀ e ∈ es, e.length = k) → es[i]? = some d → es.flatten[i * k + j]? = some x := by
        intro es
        induction es with
        | nil => intro i _ h; simp at h
        | cons e es ih =>
          intro i hl h
          cases i with
          | zero =>
            simp at h
            subst h
            rw [List.flatten_cons, Nat.zero_mul, Nat.zero_add, List.getElem?_append_left (List.getElem?_eq_some_iff.1 hj).1]
            exact hj
          | succ i =>
            have he := hl e (by simp)
            rw [List.flatten_cons, List.getElem?_append_right (by rw [he, Nat.succ_mul]; omega), he]
            rw [show (i + 1) * k + j - k = i * k + j by rw [Nat.succ_mul]; omega]
            exact ih i (fun e' h' => hl e' (by simp [h'])) (by simpa using h)
      exact key es i.toNat hlen hd
/-- A text's byte. -/
theorem a_sx (hT : TOk P L) {t : TypeId} {hh h2 : Nat} {x y : Operand} {b : ByteArray} {ki : IntKind} {i : Int} (h : machA L n fuel s f σ [] = ⟨.op m κ all dec o al rest, f', σ', ob⟩) (hob : ob.map (·.1) = ob.map (·.2)) (ho : o.op = .index t x y) (ht : tl L t = .str)
    (hx : evN n f' x = .v (.string b) hh) (hy : evN n f' y = .v (.int ki i) h2) (h0 : 0 ≤ i) (h1 : i.toNat < b.size) (hk : DenA c P n Q (.ops m κ all dec rest) (putA f' o.dst (.v (.int .u8 b[i.toNat].toNat) 0)) σ') : DenA c P n Q s f σ := by
  refine a_pure hT _ h hob (fun M w fc he => ⟨.int .u8 b[i.toNat].toNat, fun w' => ?_, mk_v⟩) hk
  have h3 := he.evalN (n := n) x
  have h4 := he.evalN (n := n) y
  rw [hx] at h3
  rw [hy] at h4
  simp [execOp, ho, Instr.index, rep_v h3, rep_v h4, asIntOf, underlying, str_tl hT ht, h0, h1]
/-- A part of frozen data. -/
theorem a_sl (hT : TOk P L) {t e : TypeId} {k : Nat} {x : Operand} {lo hi : Option Operand} {es : List (List Dat)} (l r : Nat) (es' : List (List Dat)) (h : machA L n fuel s f σ [] = ⟨.op m κ all dec o al rest, f', σ', ob⟩) (hob : ob.map (·.1) = ob.map (·.2)) (ho : o.op = .slice t x lo hi none) (ht : tl L t = .sl e k) (hx : evA n f' x = .d (.sl k es))
    (hlo : match lo with | none => l = 0 | some y => ∃ (q : IntKind) (hh : Nat), evN n f' y = .v (.int q l) hh) (hhi : match hi with | none => r = es.length | some y => ∃ (q : IntKind) (hh : Nat), evN n f' y = .v (.int q r) hh) (h0 : l ≤ r) (h1 : r ≤ es.length)
    (hes : (es.drop l).take (r - l) = es') (hk : DenA c P n Q (.ops m κ all dec rest) (putA f' o.dst (.d (.sl k es'))) σ') : DenA c P n Q s f σ := by
  refine a_pure hT (.d (.sl k es')) h hob (fun M w fc he => ?_) hk
  subst hes
  obtain ⟨hu, hinf, hm⟩ := sl_tl hT ht
  have h3 := he.eval (n := n) x
  rw [hx] at h3
  unfold Rep at h3
  unfold DRep at h3
  obtain ⟨A, cap, hv, hc, hlen, hr⟩ := h3
  have hlo' : ∀ y, lo = some y → ∃ q : IntKind, ev n fc y = .int q l := fun y e => by
    subst e; obtain ⟨q, hh, e⟩ := hlo; have := he.evalN (n := n) y; rw [e] at this; exact ⟨q, rep_v this⟩
  have hhi' : ∀ y, hi = some y → ∃ q : IntKind, ev n fc y = .int q r := fun y e => by
    subst e; obtain ⟨q, hh, e⟩ := hhi; have := he.evalN (n := n) y; rw [e] at this; exact ⟨q, rep_v this⟩
  have hrc : r ≤ cap := by omega
  refine ⟨.slice (if cap = l then A else A.map (·.add (l * k))) (r - l) (cap - l), fun w' => ?_, ?_⟩
  · have hbd : (Instr.sliceBounds true es.length cap (lo.map (ev n fc)) (hi.map (ev n fc)) none).run P w' = .ok (l, r, cap) w' := by
      cases hi with
      | none =>
        simp at hhi; subst hhi
        cases lo with
        | none => simp at hlo; subst hlo; simp [Instr.sliceBounds]
        | some y => obtain ⟨q, hy⟩ := hlo' y rfl; simp [Instr.sliceBounds, hy, Instr.sliceBound, asIntOf, h0]
      | some z =>
        obtain ⟨q', hz⟩ := hhi' z rfl
        cases lo with
        | none => simp at hlo; subst hlo; simp [Instr.sliceBounds, hz, Instr.sliceBound, asIntOf, hrc]
        | some y => obtain ⟨q, hy⟩ := hlo' y rfl; simp [Instr.sliceBounds, hy, hz, Instr.sliceBound, asIntOf, h0, hrc]
    simp [execOp, ho, Instr.sliceAt, Instr.slice, hv, underlying, hu, hbd, run_sizeOf' hinf, hm]
  · unfold Rep
    unfold DRep
    have hl' : ((es.drop l).take (r - l)).length = r - l := by simp; omega
    refine ⟨_, cap - l, by rw [hl'], by rw [hl']; omega, fun e' he' => hlen e' (List.mem_of_mem_drop (List.mem_of_mem_take he')), fun hne => ?_⟩
    have hne' : es ≠ [] := by intro e; subst e; simp at hne
    obtain ⟨ad, rfl, hM, hb, hS⟩ := hr hne'
    have hlt : l < r := by
      rcases Nat.lt_or_ge l r with h | h
      · exact h
      · exfalso; apply hne; rw [show r - l = 0 by omega]; simp
    refine ⟨ad.add (l * k), by rw [if_neg (by omega)]; rfl, by rwa [add_block], by rwa [add_block], SRep.flat.2 (LRep.mk fun j d hj => ?_)⟩
    rw [Nat.zero_add, add_add]
    have hf := SRep.flat.1 hS
    have key : ∀ (es : List (List Dat)) (l : Nat), (∀ e ∈ es, e.length = k) → l ≤ es.length → es.flatten.drop (l * k) = (es.drop l).flatten := by
      intro es
      induction es with
      | nil => intro l _ _; simp
      | cons e es ih =>
        intro l hl hle
        cases l with
        | zero => simp
        | succ l =>
          have he := hl e (by simp)
          rw [List.flatten_cons, List.drop_append, he, show (l + 1) * k - k = l * k by rw [Nat.succ_mul]; omega, ih l (fun e' h' => hl e' (by simp [h'])) (by simpa using hle), List.drop_eq_nil_of_le (by rw [he, Nat.succ_mul]; omega)]
          simp
    have pre : ∀ (es : List (List Dat)) (m : Nat) (j : Nat) (d : Dat), (es.take m).flatten[j]? = some d → es.flatten[j]? = some d := by
      intro es m j d hj
      have : es.flatten = (es.take m).flatten ++ (es.drop m).flatten := by rw [← List.flatten_append, List.take_append_drop]
      rw [this, List.getElem?_append_left (List.getElem?_eq_some_iff.1 hj).1]
      exact hj
    have := hf.get (l * k + j) d (by rw [← List.getElem?_drop, key es l hlen (by omega)]; exact pre _ _ _ _ hj)
    rwa [Nat.zero_add] at this
/-- A part of a text. -/
theorem a_ssl (hT : TOk P L) {t : TypeId} {hh : Nat} {x : Operand} {lo hi : Option Operand} {b : ByteArray} (l r : Nat) (b' : ByteArray) (h : machA L n fuel s f σ [] = ⟨.op m κ all dec o al rest, f', σ', ob⟩) (hob : ob.map (·.1) = ob.map (·.2)) (ho : o.op = .slice t x lo hi none) (ht : tl L t = .str) (hx : evN n f' x = .v (.string b) hh)
    (hlo : match lo with | none => l = 0 | some y => ∃ (q : IntKind) (hh : Nat), evN n f' y = .v (.int q l) hh) (hhi : match hi with | none => r = b.size | some y => ∃ (q : IntKind) (hh : Nat), evN n f' y = .v (.int q r) hh) (h0 : l ≤ r) (h1 : r ≤ b.size)
    (hes : b.extract l r = b') (hk : DenA c P n Q (.ops m κ all dec rest) (putA f' o.dst (.v (.string b') 0)) σ') : DenA c P n Q s f σ := by
  refine a_pure hT _ h hob (fun M w fc he => ⟨.string b', fun w' => ?_, mk_v⟩) hk
  subst hes
  have h3 := he.evalN (n := n) x
  rw [hx] at h3
  have hlo' : ∀ y, lo = some y → ∃ q : IntKind, ev n fc y = .int q l := fun y e => by
    subst e; obtain ⟨q, hh, e⟩ := hlo; have := he.evalN (n := n) y; rw [e] at this; exact ⟨q, rep_v this⟩
  have hhi' : ∀ y, hi = some y → ∃ q : IntKind, ev n fc y = .int q r := fun y e => by
    subst e; obtain ⟨q, hh, e⟩ := hhi; have := he.evalN (n := n) y; rw [e] at this; exact ⟨q, rep_v this⟩
  have hbd : (Instr.sliceBounds false b.size b.size (lo.map (ev n fc)) (hi.map (ev n fc)) none).run P w' = .ok (l, r, b.size) w' := by
    cases hi with
    | none =>
      simp at hhi; subst hhi
      cases lo with
      | none => simp at hlo; subst hlo; simp [Instr.sliceBounds]
      | some y => obtain ⟨q, hy⟩ := hlo' y rfl; simp [Instr.sliceBounds, hy, Instr.sliceBound, asIntOf, h0]
    | some z =>
      obtain ⟨q', hz⟩ := hhi' z rfl
      cases lo with
      | none => simp at hlo; subst hlo; simp [Instr.sliceBounds, hz, Instr.sliceBound, asIntOf, h1]
      | some y => obtain ⟨q, hy⟩ := hlo' y rfl; simp [Instr.sliceBounds, hy, hz, Instr.sliceBound, asIntOf, h0, h1]
  simp [execOp, ho, Instr.sliceAt, Instr.slice, rep_v h3, underlying, str_tl hT ht, hbd]
end
end Go.Proofs.YtjcolfogmmjaoaaGreatDoor.A
end

section
/- The steps of a walk that do something: new memory, calls, loops, drawn regions, the end; and what is told otherwise. They hold of any program. -/
set_option linter.unusedVariables false
set_option linter.unusedSimpArgs false
namespace Go.Proofs.YtjcolfogmmjaoaaGreatDoor.A
open V

section
variable {P : Program} {L : List TD} {Z : List (List Value)} {n : Nat} {Q : Exit → Act → World → Prop} {c : Ctx}
variable {s : AMS} {f f' : AEnv} {σ σ' : Store} {ob : Obs} {κ : List Kt} {all : Array Oper} {dec : List Nat} {o : Oper} {al : Bool} {rest : List (Oper × Bool)} {m : Mode}

/-- One block more. -/
theorem holds_new {Y Su : Nat → Prop} {w : World} {σ : Store} {t : TypeId} {cs : List AV} {xs : List Value} (k : Nat) (hY : ∀ b, Y b → b < w.heap.size) (hh : Holds (or2 Su Y) w σ Su) (hr : Reps (or2 Su Y) w cs xs) (h1 : ∀ u ∈ xs, u.oneCell' = true) :
    Holds (or2 (or2 (at1 w.heap.size) Su) Y) (w.alloc (.cells xs.toArray t)) ((k, .blk w.heap.size t cs) :: σ) (or2 (at1 w.heap.size) Su) ∧ Ev Su w (w.alloc (.cells xs.toArray t)) ∧ ∀ b, or2 (at1 w.heap.size) Su b → Su b ∨ w.heap.size ≤ b := by
  have hev : Ev no w (w.alloc (.cells xs.toArray t)) := Ev.alloc w _
  have hm : ∀ b, b < w.heap.size → no b ∨ or2 (or2 (at1 w.heap.size) Su) Y b → or2 Su Y b := fun b hb h => by
    rcases h with h | (h | h) | h
    · exact h.elim
    · simp only [at1] at h; omega
    · exact .inl h
    · exact .inr h
  refine ⟨⟨at1 w.heap.size, Su, fun b => Iff.rfl, fun b hb h => ?_, ⟨fun b => Iff.rfl, xs, Blk.new w t xs, hr.ev hev hm, h1⟩, hh.ev hev hm fun _ _ h => h⟩, hev.no, fun b h => h.elim (fun h => .inr (by simp only [at1] at h; omega)) .inl⟩
  simp only [at1] at hb
  have := hh.lt b h
  omega
/-- A variable of its own, with a value; k: its key. -/
theorem a_box (hT : TOk P L) (k : Nat) {t : TypeId} {x : Operand} {cs : List AV} (h : machA L n fuel s f σ [] = ⟨.op m κ all dec o true rest, f', σ', ob⟩) (hob : ob.map (·.1) = ob.map (·.2)) (ho : o.op = .box t x) (hc : cellsOf1 (evA n f' x) = some cs)
    (hk : ∀ g, DenA c P n Q (.ops (m.hap true) κ all dec rest) (putA f' o.dst (.v (.pointer (some ⟨g, 0, none⟩)) k)) ((k, .blk g t cs) :: σ')) : DenA c P n Q s f σ := by
  refine a_eff hT (fun a σ1 => ∃ g, a = .v (.pointer (some ⟨g, 0, none⟩)) k ∧ σ1 = (k, .blk g t cs) :: σ') h hob (fun Y Su w fc hd hY hh he => ?_) (fun a σ1 ⟨g, ha, hs⟩ => by subst ha; subst hs; exact hk g)
  obtain ⟨hr, h1⟩ := cellsOf1_rep hc (he.eval (n := n) x)
  have hrun : (execOp (ev n fc) o).run P w = .ok (.value (.pointer (some ⟨w.heap.size, 0, none⟩))) (w.alloc (.cells (ev n fc x).cells t)) := by simp [execOp, ho, Instr.box, newVar, newRow]
  rw [hrun]
  obtain ⟨k1, k2, k3⟩ := holds_new (t := t) k hY hh hr h1
  simp only [Array.toArray_toList] at k1 k2
  exact ⟨_, _, _, ⟨_, rfl, rfl⟩, mk_v, k1, k2, k3⟩
/-- A variable of its own, zero. -/
theorem a_new (hT : TOk P L) (hZ : ZOk P Z) (k : Nat) {t : TypeId} {z : Value} {zs : List Value} (h : machA L n fuel s f σ [] = ⟨.op m κ all dec o true rest, f', σ', ob⟩) (hob : ob.map (·.1) = ob.map (·.2)) (ho : o.op = .alloc t) (hz : zt Z t = z :: zs)
    (hk : ∀ g, DenA c P n Q (.ops (m.hap true) κ all dec rest) (putA f' o.dst (.v (.pointer (some ⟨g, 0, none⟩)) k)) ((k, .blk g t (avs (z :: zs))) :: σ')) : DenA c P n Q s f σ := by
  refine a_eff hT (fun a σ1 => ∃ g, a = .v (.pointer (some ⟨g, 0, none⟩)) k ∧ σ1 = (k, .blk g t (avs (z :: zs))) :: σ') h hob (fun Y Su w fc hd hY hh he => ?_) (fun a σ1 ⟨g, ha, hs⟩ => by subst ha; subst hs; exact hk g)
  obtain ⟨i, v, hi, hiz, hcs, h1⟩ := hZ.spec hz
  have hrun : (execOp (ev n fc) o).run P w = .ok (.value (.pointer (some ⟨w.heap.size, 0, none⟩))) (w.alloc (.cells v.cells t)) := by simp [execOp, ho, Instr.alloc, newVar, newRow, zeroValue, typeInfo, hi, hiz]
  rw [hrun]
  obtain ⟨k1, k2, k3⟩ := holds_new (t := t) k hY hh (reps_vs (M := or2 Su Y) (w := w) (z :: zs)) (ones_spec h1)
  have e : v.cells = (z :: zs).toArray := by rw [← hcs]
  rw [e]
  exact ⟨_, _, _, ⟨_, rfl, rfl⟩, mk_v, k1, k2, k3⟩

/-! ### Rows -/
theorem own_lower {w : World} {base base' e k : Nat} {v : Value} {m : Nat} {xs : List Value} (h : w.ownsRow base e k v m xs) (hb : base' ≤ base) : w.ownsRow base' e k v m xs := by
  obtain ⟨hl, ho⟩ := h
  refine ⟨hl, ?_⟩
  rcases ho with ho | ⟨g, cap, cur, e1, e2, r⟩
  · exact .inl ho
  · exact .inr ⟨g, cap, cur, e1, by omega, r⟩
/-- A new row. -/
theorem holds_row {Y Su : Nat → Prop} {w w1 : World} {σ : Store} {e : TypeId} {k : Nat} {es : List (List Dat)} {x : Value} {xs : List Value} (kn : Nat) (hY : ∀ b, Y b → b < w.heap.size) (hh : Holds (or2 Su Y) w σ Su) (hev : Ev no w w1) (hk : ∀ e' ∈ es, e'.length = k)
    (ho : w1.ownsRow w.heap.size e k x es.length xs) (hv : VRep (or2 Su Y) w es.flatten xs) :
    Holds (or2 (or2 (V.ob x) Su) Y) w1 ((kn, .row x e k es) :: σ) (or2 (V.ob x) Su) ∧ Ev Su w w1 ∧ (∀ b, or2 (V.ob x) Su b → Su b ∨ w.heap.size ≤ b) ∧ x.oneCell' = true := by
  have hlt := ho.lt
  have hm : ∀ b, b < w.heap.size → no b ∨ or2 (or2 (V.ob x) Su) Y b → or2 Su Y b := fun b hb h => by
    rcases h with h | (h | h) | h
    · exact h.elim
    · have := (hlt b h).1; omega
    · exact .inl h
    · exact .inr h
  refine ⟨⟨V.ob x, Su, fun b => Iff.rfl, fun b hb h => ?_, ⟨fun b => Iff.rfl, hk, xs, own_lower ho (Nat.zero_le _), hv.ev hev hm⟩, hh.ev hev hm fun _ _ h => h⟩, hev.no, fun b h => h.elim (fun h => .inr (hlt b h).1) .inl, ?_⟩
  · have := (hlt b hb).1
    have := hh.lt b h
    omega
  · rcases ho.2 with ⟨rfl, _⟩ | ⟨g, cap, cur, rfl, _⟩ <;> rfl
/-- The elements of a literal. -/
def litK (k : Nat) : Nat → List (Nat × AV) → Option (List (List Dat))
  | _, [] => some []
  | i, (j, a) :: l => match Nat.beq j i, cellsOf1 a with
    | true, some cs => match Nat.beq cs.length k, datsK cs with
      | true, some ds => match litK k (i + 1) l with
        | some r => some (ds :: r)
        | none => none
      | _, _ => none
    | _, _ => none
theorem lit_fill {P : Program} {k : Nat} : ∀ (vs : List (List Value)) (i : Nat) (ps : List (Nat × Value)) (cs : List Value), (∀ e ∈ vs, e.length = k) → (i + vs.length) * k ≤ cs.length → ps.map (·.1) = (List.range' i vs.length) → ps.map (fun p => p.2.cells.toList) = vs →
    Instr.fill (fun i => some (i * k, k)) cs.toArray ps = some (cs.take (i * k) ++ vs.flatten ++ cs.drop ((i + vs.length) * k)).toArray
  | [], i, ps, cs, hl, hle, h1, h2 => by
    have : ps = [] := by cases ps with | nil => rfl | cons p ps => simp at h2
    subst this
    simp [Instr.fill]
  | v :: vs, i, [], cs, hl, hle, h1, h2 => by simp at h2
  | v :: vs, i, (j, x) :: ps, cs, hl, hle, h1, h2 => by
    simp only [List.map_cons, List.length_cons, List.range'_succ, List.cons.injEq] at h1 h2
    obtain ⟨rfl, h1⟩ := h1
    obtain ⟨rfl, h2⟩ := h2
    have hx := hl x.cells.toList (by simp)
    simp only [List.length_cons] at hle
    rw [show j + (vs.length + 1) = (j + 1) + vs.length by omega] at hle
    have hle1 : (j + 1) * k ≤ cs.length := Nat.le_trans (Nat.mul_le_mul_right k (Nat.le_add_right _ _)) hle
    have hsz : x.cells.size = k := by simpa using hx
    have hfit : j * k + k ≤ cs.length := by rw [Nat.succ_mul] at hle1; exact hle1
    unfold Instr.fill
    simp only
    rw [if_neg (by simp [hsz]; omega)]
    have h0 := bld_fold (j * k) x.cells.toList cs (by rw [hx]; exact hfit)
    simp only [Array.toArray_toList] at h0
    rw [h0, lit_fill (P := P) vs (j + 1) ps _ (fun e he => hl e (by simp [he])) (by simp [hsz]; omega) h1 h2]
    congr 2
    rw [hx]
    have e1 : (j + 1) * k = j * k + k := Nat.succ_mul j k
    have hA : (cs.take (j * k)).length = j * k := by simp; omega
    have hAB : (cs.take (j * k) ++ x.cells.toList).length = (j + 1) * k := by rw [List.length_append, hA, hx, e1]
    rw [List.take_append_of_le_length (by rw [hAB]; omega), List.take_of_length_le (by rw [hAB]; omega)]
    rw [List.drop_append, List.drop_eq_nil_of_le (by rw [hAB]; exact Nat.mul_le_mul_right k (by omega)), hAB, List.drop_drop]
    simp only [List.nil_append, List.flatten_cons, List.append_assoc, List.length_cons]
    congr 4
    have : (j + 1) * k ≤ (j + 1 + vs.length) * k := Nat.mul_le_mul_right k (by omega)
    rw [show j + (vs.length + 1) = j + 1 + vs.length by omega]
    omega
theorem litK_rep {M : Nat → Prop} {w : World} {k : Nat} : ∀ {l : List (Nat × AV)} {vs : List (Nat × Value)} {i : Nat} {es : List (List Dat)}, litK k i l = some es → vs.map (·.1) = l.map (·.1) → Reps M w (l.map (·.2)) (vs.map (·.2)) →
    vs.map (·.1) = List.range' i es.length ∧ (∀ e ∈ es, e.length = k) ∧ (vs.map fun p => p.2.cells.toList).length = es.length ∧ (∀ e ∈ (vs.map fun p => p.2.cells.toList), e.length = k) ∧ VRep M w es.flatten (vs.map fun p => p.2.cells.toList).flatten
  | [], vs, i, es, h, hi, hr => by
    simp [litK] at h
    subst h
    simp at hi
    subst hi
    exact ⟨rfl, by simp, rfl, by simp, VRep.nil⟩
  | (j, a) :: l, [], i, es, h, hi, hr => by simp at hi
  | (j, a) :: l, (j', v) :: vs, i, es, h, hi, hr => by
    simp only [List.map_cons, List.cons.injEq] at hi
    obtain ⟨rfl, hi⟩ := hi
    simp only [List.map_cons] at hr
    unfold Reps at hr
    obtain ⟨y, r, e, hra, hr⟩ := hr
    simp only [List.cons.injEq] at e
    obtain ⟨rfl, rfl⟩ := e
    unfold litK at h
    split at h
    · rename_i cs hj hc
      split at h
      · rename_i ds hb hd
        split at h
        · rename_i es' hes
          simp at h
          subst h
          obtain ⟨h1, h2, h3, h4, h5⟩ := litK_rep hes hi hr
          obtain ⟨hrc, h1c⟩ := cellsOf1_rep hc hra
          have hv := datsK_rep hd hrc
          have hlen := hrc.len
          have hb' := Nat.eq_of_beq_eq_true hb
          have hl := hv.len
          have hj' := Nat.eq_of_beq_eq_true hj
          subst hj'
          refine ⟨by simp [List.range'_succ, h1], ?_, by simpa using h3, ?_, by simpa using hv.app h5⟩
          · intro e he
            rcases List.mem_cons.1 he with rfl | he
            · omega
            · exact h2 e he
          · intro e he
            simp only [List.map_cons] at he
            rcases List.mem_cons.1 he with rfl | he
            · omega
            · exact h4 e he
        · cases h
      · cases h
    · cases h
/-- A slice literal: a row of one's own; kn: its key. -/
theorem a_lit (hT : TOk P L) (kn : Nat) {t e : TypeId} {k mm : Nat} {ps : Array (Nat × Operand)} {es : List (List Dat)} (h : machA L n fuel s f σ [] = ⟨.op m κ all dec o true rest, f', σ', ob⟩) (hob : ob.map (·.1) = ob.map (·.2)) (ho : o.op = .buildSlice t mm ps) (ht : tl L t = .sl e k) (hel : elemOk P e k = true)
    (hl : litK k 0 (ps.toList.map fun p => (p.1, evA n f' p.2)) = some es) (hm : Nat.beq es.length mm = true) (hsz : Nat.ble (mm * k) 16000000 = true) (hmx : Nat.ble mm 1000000 = true)
    (hk : ∀ x, DenA c P n Q (.ops (m.hap true) κ all dec rest) (putA f' o.dst (.row x kn)) ((kn, .row x e k es) :: σ')) : DenA c P n Q s f σ := by
  refine a_eff hT (fun a σ1 => ∃ x, a = .row x kn ∧ σ1 = (kn, .row x e k es) :: σ') h hob (fun Y Su w fc hd hY hh he => ?_) (fun a σ1 ⟨g, ha, hs⟩ => by subst ha; subst hs; exact hk g)
  have hm' := Nat.eq_of_beq_eq_true hm
  have hsz' := Nat.le_of_ble_eq_true hsz
  have hmx' := Nat.le_of_ble_eq_true hmx
  subst hm'
  have hT1 := sl_tl hT ht
  obtain ⟨i, z, hi, hisz, hby, hk0, hz, hzk⟩ := elemOk_spec hel
  have hrep : ∀ l : List (Nat × Operand), Reps (or2 Su Y) w (l.map fun p => evA n f' p.2) (l.map fun p => ev n fc p.2) := fun l => by
    induction l with
    | nil => exact Reps.nil
    | cons p l ih => exact Reps.cons (he.eval p.2) ih
  obtain ⟨h1, h2, h3, h4, h5⟩ := litK_rep (M := or2 Su Y) (w := w) (vs := ps.toList.map fun p => (p.1, ev n fc p.2)) hl (by simp) (by rw [List.map_map, List.map_map]; exact hrep ps.toList)
  -- the row's cells
  have hfill : ∀ cs : Array Value, cs.size = es.length * k → Instr.fill (fun i => some (i * k, k)) cs (ps.map fun p => (p.1, ev n fc p.2)).toList = some ((ps.toList.map fun p => (p.1, ev n fc p.2)).map fun p => p.2.cells.toList).flatten.toArray := by
    intro cs hcs
    have := lit_fill (P := P) (k := k) ((ps.toList.map fun p => (p.1, ev n fc p.2)).map fun p => p.2.cells.toList) 0 (ps.toList.map fun p => (p.1, ev n fc p.2)) cs.toList h4 (by rw [h3]; simp [hcs]) (by rw [h1, h3]) rfl
    simp only [Array.toArray_toList] at this
    rw [Array.toList_map, this]
    congr 2
    rw [h3]
    simp [hcs]
  have hflen : ((ps.toList.map fun p => (p.1, ev n fc p.2)).map fun p => p.2.cells.toList).flatten.length = es.length * k := by
    rw [h5.len]
    have : ∀ l : List (List Dat), (∀ e ∈ l, e.length = k) → l.flatten.length = l.length * k := by
      intro l
      induction l with
      | nil => intro _; simp
      | cons e l ih => intro hl; rw [List.flatten_cons, List.length_append, hl e (by simp), ih fun e' h' => hl e' (by simp [h']), List.length_cons, Nat.succ_mul]; omega
    exact this es h2
  have hrun : (execOp (ev n fc) o).run P w = .ok (.value (.slice (some ⟨w.heap.size, 0, none⟩) es.length es.length)) (w.alloc (.cells ((ps.toList.map fun p => (p.1, ev n fc p.2)).map fun p => p.2.cells.toList).flatten.toArray e)) := by
    unfold execOp
    simp only [ho, Sem.run_bind, Sem.run_pure]
    unfold Instr.buildSlice
    simp only [Sem.run_bind, run_underlying hT1.1, Result.andThen_ok, run_sizeOf' hT1.2.1, hT1.2.2]
    rw [if_neg (by omega)]
    by_cases h0 : es.length * k = 0
    · simp only [h0, if_true, Sem.run_pure, Sem.run_bind, Result.andThen_ok]
      rw [hfill _ (by simp [h0])]
      simp [newRow]
    · simp only [h0, if_false, zeroValue, typeInfo, Sem.run_pure, Sem.run_bind, run_program, hi, hz, Result.andThen_ok]
      rw [hfill _ (by simp)]
      simp [newRow]
  rw [hrun]
  have hown := World.ownsRow_lit (base := w.heap.size) (e := e) (size := k) w ((ps.toList.map fun p => (p.1, ev n fc p.2)).map fun p => p.2.cells.toList).flatten.toArray es.length (Nat.le_refl _) (by unfold maxLen; omega) (by simpa using hflen)
  obtain ⟨k1, k2, k3, k4⟩ := holds_row kn hY hh (Ev.alloc w _) h2 hown (by simpa using h5)
  exact ⟨_, _, _, ⟨_, rfl, rfl⟩, by unfold Rep; exact ⟨rfl, k4⟩, k1, k2, k3⟩

/-- What is appended, as it lies in memory. -/
def srcK (σ : Store) (k : Nat) : AV → Option (List (List Dat) × Obs)
  | .d (.sl k' es) => match Nat.beq k' k with | true => some (es, []) | false => none
  | .v (.slice none 0 0) _ => some ([], [])
  | .row x h => match look σ h with
    | some (.row x' _ k' es) => match Nat.beq k' k with | true => some (es, [(x, x')]) | false => none
    | _ => none
  | _ => none
theorem srcK_rep {Y Su : Nat → Prop} {w : World} {σ : Store} {k : Nat} {a : AV} {es : List (List Dat)} {obs : Obs} {v : Value} (h : srcK σ k a = some (es, obs)) (hob : OT obs) (hr : Rep (or2 Su Y) w a v) (hh : Holds (or2 Su Y) w σ Su) :
    ∃ A c news, v = .slice A es.length c ∧ (∀ e ∈ es, e.length = k) ∧ VRep (or2 Su Y) w es.flatten news ∧ (news ≠ [] → ∃ ad, A = some ad ∧ Cells w ad news) := by
  cases a with
  | d x =>
    cases x <;> try (simp [srcK] at h; done)
    rename_i k' es'
    simp only [srcK] at h
    split at h
    case h_2 => cases h
    rename_i hb
    have hb' := Nat.eq_of_beq_eq_true hb
    subst hb'
    simp at h
    obtain ⟨rfl, rfl⟩ := h
    unfold Rep at hr
    unfold DRep at hr
    obtain ⟨A, cap, rfl, hc, hlen, hr⟩ := hr
    by_cases hne : es' = []
    · subst hne
      exact ⟨A, cap, [], rfl, by simp, VRep.nil, by simp⟩
    · obtain ⟨ad, rfl, hM, hb, hS⟩ := hr hne
      obtain ⟨xs, hv, hcells, _⟩ := (SRep.flat.1 hS).vals
      rw [show ad.add 0 = ad by unfold Addr.add; simp] at hcells
      exact ⟨some ad, cap, xs, rfl, hlen, hv, fun _ => ⟨ad, rfl, hcells⟩⟩
  | v x hx =>
    have hnil : x = .slice none 0 0 ∧ es = [] ∧ obs = [] := by
      cases x <;> try (simp [srcK] at h; done)
      rename_i a l cp
      cases a <;> cases l <;> cases cp <;> simp [srcK] at h
      exact ⟨rfl, h.1, h.2⟩
    obtain ⟨rfl, rfl, rfl⟩ := hnil
    unfold Rep at hr
    subst hr
    exact ⟨none, 0, [], rfl, by simp, VRep.nil, by simp⟩
  | row x hx =>
    simp only [srcK] at h
    split at h
    · rename_i x' e' k' es' hl
      split at h
      · rename_i hb
        simp at h
        obtain ⟨rfl, rfl⟩ := h
        have hb' := Nat.eq_of_beq_eq_true hb
        subst hb'
        have e := hob (x, x') (by simp)
        simp only at e
        subst e
        obtain ⟨S1, S2, hS, hd, hc, _⟩ := hh.take hl
        obtain ⟨hS1, hk, xs, ho, hv⟩ := hc
        unfold Rep at hr
        rcases ho.2 with ⟨h1, h2⟩ | ⟨g, cap, cur, h1, _⟩
        · have : es' = [] := List.eq_nil_of_length_eq_zero h2
          subst this
          exact ⟨none, 0, [], by rw [hr.1, h1]; rfl, by simp, VRep.nil, by simp⟩
        · exact ⟨_, cap, xs, by rw [hr.1, h1], hk, hv, fun _ => ⟨_, rfl, fun j u hu => ho.cells (g := g) (by rw [h1]; rfl) j u hu⟩⟩
      · cases h
    · cases h
  | _ => simp [srcK] at h
/-- append; its row (key k0) is no more, there is a new one (key kn). -/
theorem a_app (hT : TOk P L) (kn : Nat) {t e : TypeId} {k k0 : Nat} {x y : Operand} {v v' : Value} {es es2 : List (List Dat)} {ob2 : Obs} (es' : List (List Dat)) (h : machA L n fuel s f σ [] = ⟨.op m κ all dec o true rest, f', σ', ob⟩) (hob : ob.map (·.1) = ob.map (·.2)) (ho : o.op = .call ⟨.builtin .append, #[x, y], #[t, t]⟩) (ht : tl L t = .sl e k) (hel : elemOk P e k = true)
    (hx : evA n f' x = .row v k0) (hl : look σ' k0 = some (.row v' e k es)) (hvv : v = v') (hy : srcK σ' k (evA n f' y) = some (es2, ob2)) (hob2 : ob2.map (·.1) = ob2.map (·.2)) (hes : es ++ es2 = es') (hlim : es.length + es2.length ≤ lim)
    (hk : ∀ x, DenA c P n Q (.ops (m.hap true) κ all dec rest) (putA f' o.dst (.row x kn)) ((kn, .row x e k es') :: del σ' k0)) : DenA c P n Q s f σ := by
  subst hvv
  subst hes
  refine a_eff hT (fun a σ1 => ∃ x, a = .row x kn ∧ σ1 = (kn, .row x e k (es ++ es2)) :: del σ' k0) h hob (fun Y Su w fc hd hY hh he => ?_) (fun a σ1 ⟨g, ha, hs⟩ => by subst ha; subst hs; exact hk g)
  obtain ⟨S1, S2, hS, hdis, hc, hrest⟩ := hh.take hl
  obtain ⟨hS1, hkl, xs, hown, hv⟩ := hc
  obtain ⟨A, cap, news, hyv, hkl2, hv2, hcells⟩ := srcK_rep hy (OT.of hob2) (he.eval (n := n) y) hh
  have hxv := he.eval (n := n) x
  rw [hx] at hxv
  unfold Rep at hxv
  have hnl : news.length = es2.length * k := by
    rw [hv2.len]
    have : ∀ l : List (List Dat), (∀ e ∈ l, e.length = k) → l.flatten.length = l.length * k := by
      intro l
      induction l with
      | nil => intro _; simp
      | cons e l ih => intro hl; rw [List.flatten_cons, List.length_append, hl e (by simp), ih fun e' h' => hl e' (by simp [h']), List.length_cons, Nat.succ_mul]; omega
    exact this es2 hkl2
  obtain ⟨v', w', hrun, h1, h2, h3⟩ := run_appendR (P := P) (ty := o.type) (c := cap) (sl_tl hT ht).1 hel hown (Nat.zero_le _) hnl hcells hv2.one hlim
  have hrun' : (execOp (ev n fc) o).run P w = .ok (.value v') w' := by
    unfold execOp
    simp only [ho, resolve, invoke, builtin, Sem.run_bind, Sem.run_pure, Result.andThen_ok, List.map_toArray, List.map_cons, List.map_nil, hxv.1, hyv, hrun]
  rw [hrun']
  have hev : Ev Su w w' := h2.mono fun b _ hb => (hS b).2 (.inl ((hS1 b).2 hb))
  have hsub : ∀ b, or2 (V.ob v') S2 b → Su b ∨ w.heap.size ≤ b := fun b h => by
    rcases h with h | h
    · exact (h3 b h).imp (fun h => (hS b).2 (.inl ((hS1 b).2 h))) id
    · exact .inl ((hS b).2 (.inr h))
  have hm : ∀ b, b < w.heap.size → V.ob v b ∨ or2 (or2 (V.ob v') S2) Y b → or2 Su Y b := fun b hb h => by
    rcases h with h | h | h
    · exact .inl ((hS b).2 (.inl ((hS1 b).2 h)))
    · rcases hsub b h with h | h
      · exact .inl h
      · omega
    · exact .inr h
  refine ⟨_, _, or2 (V.ob v') S2, ⟨v', rfl, rfl⟩, ?_, ⟨V.ob v', S2, fun b => Iff.rfl, fun b hb h => ?_, ⟨fun b => Iff.rfl, ?_, _, by simpa using h1, ?_⟩, hrest.ev h2 hm fun b hb h => hdis b ((hS1 b).2 h) hb⟩, hev, hsub⟩
  · unfold Rep
    refine ⟨rfl, ?_⟩
    rcases h1.2 with ⟨rfl, _⟩ | ⟨g, cap, cur, rfl, _⟩ <;> rfl
  · rcases h3 b hb with h' | h'
    · exact hdis b ((hS1 b).2 h') h
    · have := hrest.lt b h; omega
  · intro e' he'
    rcases List.mem_append.1 he' with he' | he'
    · exact hkl e' he'
    · exact hkl2 e' he'
  · rw [List.flatten_append]
    exact (hv.app hv2).ev h2 hm

/-! ### Bytes and texts -/
def eB (b : UInt8) : List Dat := [.v (byV b)]
def bytesD (l : List UInt8) : Dat := .sl 1 (l.map eB)
theorem flat_eB (l : List UInt8) : (l.map eB).flatten = l.map fun b => .v (byV b) := by
  induction l with
  | nil => rfl
  | cons b l ih => simp [eB, ih]
theorem vals_byV {M : Nat → Prop} {w : World} : ∀ {l : List UInt8} {xs : List Value}, VRep M w (l.map fun b => .v (byV b)) xs → xs = l.map byV
  | [], xs, h => by unfold VRep at h; exact h
  | b :: l, xs, h => by
    simp only [List.map_cons] at h
    unfold VRep at h
    obtain ⟨x, r, rfl, h1, h2⟩ := h
    unfold DRep at h1
    rw [h1.1, vals_byV h2]; rfl
theorem run_str {P : Program} {w : World} {src dst e : TypeId} {l : List UInt8} {A : Option Addr} {cap : Nat} (hs : P.underlying src = some (.slice e)) (he : P.underlying e = some (.int .u8)) (hd : P.underlying dst = some .string) (hr : l.map byV ≠ [] → ∃ ad, A = some ad ∧ Cells w ad (l.map byV)) :
    (convert src dst (.slice A l.length cap)).run P w = .ok (.string ⟨l.toArray⟩) w := by
  have hconv : (convert src dst (.slice A l.length cap)).run P w = (Conv.bytesToString (.slice A l.length cap)).run P w := by
    simp [convert, underlying, hs, hd, he]
  rw [hconv]
  cases A with
  | none =>
    have : l = [] := by
      cases l with
      | nil => rfl
      | cons b l => obtain ⟨ad, h, _⟩ := hr (by simp); cases h
    subst this
    simp [Conv.bytesToString]
    rfl
  | some ad =>
    have hcells : Cells w ad (l.map byV) := by
      by_cases hne : l = []
      · subst hne; intro j v hv; simp at hv
      · obtain ⟨ad', e, h⟩ := hr (by simpa using hne); cases e; exact h
    have hl := run_loadCells_list (P := P) (w := w) ad (l.map byV) hcells
    simp only [List.length_map] at hl
    unfold Conv.bytesToString
    simp only [Sem.run_bind, hl, Result.andThen_ok, List.forIn_toArray]
    rw [run_pushes (P := P) (w := w) _ (fun b r => by simp [byV]) l .empty]
    simp [ByteArray.empty, ByteArray.emptyWithCapacity]
    rfl
/-- string(b), of what lies still (in a drawn region: of what is frozen, before anything happens). -/
theorem a_str (hT : TOk P L) {src dst e : TypeId} {x : Operand} {l : List UInt8} {ob2 : Obs} (h : machA L n fuel s f σ [] = ⟨.op m κ all dec o true rest, f', σ', ob⟩) (hob : ob.map (·.1) = ob.map (·.2)) (ho : o.op = .convert src dst x) (hs : tl L src = .sl e 1) (he : tl L e = .int .u8) (hd : tl L dst = .str)
    (hy : srcK σ' 1 (evA n f' x) = some (l.map eB, ob2)) (hob2 : ob2.map (·.1) = ob2.map (·.2)) (hk : DenA c P n Q (.ops (m.hap true) κ all dec rest) (putA f' o.dst (.v (.string ⟨l.toArray⟩) 0)) σ') : DenA c P n Q s f σ := by
  refine a_eff hT (fun a σ1 => a = .v (.string ⟨l.toArray⟩) 0 ∧ σ1 = σ') h hob (fun Y Su w fc hdd hY hh henv => ?_) (fun a σ1 ⟨ha, hs⟩ => by subst ha; subst hs; exact hk)
  obtain ⟨A, cap, news, hyv, hkl2, hv2, hcells⟩ := srcK_rep hy (OT.of hob2) (henv.eval (n := n) x) hh
  rw [flat_eB] at hv2
  have := vals_byV hv2
  subst this
  have hrun : (execOp (ev n fc) o).run P w = .ok (.value (.string ⟨l.toArray⟩)) w := by
    unfold execOp
    simp only [List.length_map] at hyv
    simp only [ho, Sem.run_bind, Sem.run_pure, hyv, run_str (sl_tl hT hs).1 (int_tl hT he) (str_tl hT hd) hcells, Result.andThen_ok]
  rw [hrun]
  exact ⟨_, _, Su, ⟨rfl, rfl⟩, mk_v, hh, Ev.refl _ _, fun b hb => .inl hb⟩
/-- .. in a drawn region, of frozen bytes, before anything happens there. -/
theorem a_strP (hT : TOk P L) {src dst e : TypeId} {x : Operand} {l : List UInt8} {σp : Store} {ex : Ex} (h : machA L n fuel s f σ [] = ⟨.op (.reg true σp ex) κ all dec o al rest, f', σ', ob⟩) (hob : ob.map (·.1) = ob.map (·.2)) (ho : o.op = .convert src dst x) (hs : tl L src = .sl e 1) (he : tl L e = .int .u8) (hd : tl L dst = .str)
    (hy : evA n f' x = .d (bytesD l)) (hk : DenA c P n Q (.ops (.reg true σp ex) κ all dec rest) (putA f' o.dst (.v (.string ⟨l.toArray⟩) 0)) σ') : DenA c P n Q s f σ := by
  refine a_go hT h hob fun hok w S fc Sg hsat hh => ?_
  have haa : (act n fc).eval = ev n fc := funext (act_eval n fc)
  have hx := hsat.env.eval (n := n) x
  rw [hy] at hx
  unfold Rep at hx
  unfold bytesD at hx
  unfold DRep at hx
  obtain ⟨A, cap, hv, hc, hlen, hr⟩ := hx
  rw [List.length_map] at hv
  obtain ⟨ws, U, Sp, Su, hh'⟩ := id hh
  obtain ⟨rfl, hU⟩ := hh'.first rfl
  refine .inl ⟨.string ⟨l.toArray⟩, fun w' hw' => ?_, ?_⟩
  · rw [haa]
    have hsg := hh'.sg
    have hw' : Sg w' := hw'
    rw [hsg] at hw'
    have hcells : l.map byV ≠ [] → ∃ ad, A = some ad ∧ Cells w' ad (l.map byV) := by
      intro hne
      obtain ⟨ad, rfl, hM, hb, hS⟩ := hr (by simpa using hne)
      obtain ⟨xs, hvx, hcells, _⟩ := (SRep.flat.1 hS).vals
      rw [show ad.add 0 = ad by unfold Addr.add; simp] at hcells
      rw [flat_eB] at hvx
      have := vals_byV hvx
      subst this
      refine ⟨ad, rfl, fun j v hj => ?_⟩
      rw [← hcells j v hj]
      exact World.cell?_of_block (w := w) (by rw [add_block]; exact hw' ad.block hb fun hu => hM (.inl ((hh'.all _).2 (.inr (hU _ hu)))))
    unfold execOp
    simp only [ho, Sem.run_bind, Sem.run_pure, hv, run_str (sl_tl hT hs).1 (int_tl hT he) (str_tl hT hd) hcells, Result.andThen_ok]
  · rw [act_put]
    exact hk.out trivial w S (put fc o.dst _) Sg ⟨hsat.env.put o.dst mk_v, hsat.ev, hsat.sub⟩ hh
/-- []byte(s): a row of one's own. -/
theorem a_bytes (hT : TOk P L) {src dst e : TypeId} {x : Operand} {b : ByteArray} {hh0 : Nat} (h : machA L n fuel s f σ [] = ⟨.op m κ all dec o true rest, f', σ', ob⟩) (hob : ob.map (·.1) = ob.map (·.2)) (ho : o.op = .convert src dst x) (hs : tl L src = .str) (hd : tl L dst = .sl e 1) (he : tl L e = .int .u8)
    (hx : evN n f' x = .v (.string b) hh0) (hb : b.size ≤ lim) (hk : DenA c P n Q (.ops (m.hap true) κ all dec rest) (putA f' o.dst (.d (bytesD b.data.toList))) σ') : DenA c P n Q s f σ := by
  refine a_eff hT (fun a σ1 => a = .d (bytesD b.data.toList) ∧ σ1 = σ') h hob (fun Y Su w fc hdd hY hh henv => ?_) (fun a σ1 ⟨ha, hs⟩ => by subst ha; subst hs; exact hk)
  have hxv := henv.evalN (n := n) x
  rw [hx] at hxv
  have h1 := str_tl hT hs
  have h2 := (sl_tl hT hd).1
  have h3 := int_tl hT he
  unfold lim at hb
  obtain ⟨cap, hcap, hrun⟩ : ∃ cap, b.size ≤ cap ∧ (convert src dst (.string b)).run P w = .ok (.slice (some ⟨w.heap.size, 0, none⟩) b.size cap)
      ((w.drew.alloc (.cells ((b.data.map byV) ++ Array.replicate (cap - b.size) (.int .u8 0)) e)).freeze ⟨w.heap.size, ((b.data.map byV) ++ Array.replicate (cap - b.size) (Value.int .u8 0)).size, none⟩ 1) := by
    refine ⟨Question.cut (.appendCap b.size 0 e) (w.tape w.drawn (.appendCap b.size 0 e)), by simp [Question.cut], ?_⟩
    unfold convert
    simp only [Sem.run_bind, run_underlying h1, run_underlying h2, run_underlying h3, Result.andThen_ok, Conv.stringToBytes, run_choose, Question.forced, Bool.false_eq_true, if_false, newRow, run_newObj, Sem.run_pure, World.alloc_eq, World.drew_eq, markStringish, run_shape]
    have hsh : (w.drew.alloc (.cells ((b.data.map byV) ++ Array.replicate (Question.cut (.appendCap b.size 0 e) (w.tape w.drawn (.appendCap b.size 0 e)) - b.size) (.int .u8 0)) e)).shape? w.heap.size = some (e, ((b.data.map byV) ++ Array.replicate (Question.cut (.appendCap b.size 0 e) (w.tape w.drawn (.appendCap b.size 0 e)) - b.size) (Value.int .u8 0)).size) := by
      unfold World.shape?
      have := heap_alloc_new w.drew (.cells ((b.data.map byV) ++ Array.replicate (Question.cut (.appendCap b.size 0 e) (w.tape w.drawn (.appendCap b.size 0 e)) - b.size) (.int .u8 0)) e)
      rw [show w.drew.heap.size = w.heap.size from rfl] at this
      rw [this]
    have hsz : w.drew.heap.size = w.heap.size := rfl
    simp only [hsz]
    rw [show (b.data.map fun b => Value.int .u8 b.toNat) = b.data.map byV from rfl, hsh]
    rfl
  have hev : Ev no w ((w.drew.alloc (.cells ((b.data.map byV) ++ Array.replicate (cap - b.size) (.int .u8 0)) e)).freeze ⟨w.heap.size, ((b.data.map byV) ++ Array.replicate (cap - b.size) (Value.int .u8 0)).size, none⟩ 1) := by
    refine (((Ev.drew w).trans (Ev.alloc w.drew _)).then (Ev.freeze _ _ _) fun i hi h => ?_)
    simp only [at1] at h
    omega
  have hrun' : (execOp (ev n fc) o).run P w = .ok (.value (.slice (some ⟨w.heap.size, 0, none⟩) b.size cap)) ((w.drew.alloc (.cells ((b.data.map byV) ++ Array.replicate (cap - b.size) (.int .u8 0)) e)).freeze ⟨w.heap.size, ((b.data.map byV) ++ Array.replicate (cap - b.size) (Value.int .u8 0)).size, none⟩ 1) := by
    unfold execOp
    simp only [ho, Sem.run_bind, Sem.run_pure, rep_v hxv, hrun, Result.andThen_ok]
  rw [hrun']
  refine ⟨_, _, Su, ⟨rfl, rfl⟩, ?_, hh.ev hev (fun b _ h => h.elim (fun h => h.elim) id) (fun _ _ h => h), hev.no, fun b hb => .inl hb⟩
  unfold Rep
  unfold bytesD
  unfold DRep
  refine ⟨some ⟨w.heap.size, 0, none⟩, cap, by simp, by simpa using hcap, by simp [eB], fun hne => ⟨_, rfl, ?_, ?_, SRep.flat.2 ?_⟩⟩
  · rintro (h | h)
    · have := hh.lt _ h; simp at this
    · have := hY _ h; simp at this
  · have := hev.size
    simp only [World.freeze] 
    split <;> simp
  · rw [flat_eB]
    refine LRep.mk fun j d hj => ?_
    rw [List.getElem?_map] at hj
    obtain ⟨u, hu, rfl⟩ := Option.map_eq_some_iff.1 hj
    have hlt := (List.getElem?_eq_some_iff.1 hu).1
    refine ⟨byV u, ?_, by unfold DRep; exact ⟨rfl, rfl⟩⟩
    rw [Nat.zero_add, cell_freeze, add_plain]
    have hd : w.heap.size = w.drew.heap.size := rfl
    rw [hd, World.cell?_alloc_new]
    rw [Array.getElem?_append_left (by simpa using hlt)]
    rw [Array.getElem?_map]
    rw [Array.getElem?_toList] at hu
    rw [hu]
    rfl

end
end Go.Proofs.YtjcolfogmmjaoaaGreatDoor.A
end

section
/- The steps of a walk: calls, loops, drawn regions, the end; what is told otherwise. They hold of any program. -/
set_option linter.unusedVariables false
set_option linter.unusedSimpArgs false
namespace Go.Proofs.YtjcolfogmmjaoaaGreatDoor.A
open V

section
variable {P : Program} {L : List TD} {Z : List (List Value)} {n : Nat} {Q : Exit → Act → World → Prop} {c : Ctx}
variable {s : AMS} {f f' : AEnv} {σ σ' : Store} {ob : Obs} {κ : List Kt} {all : Array Oper} {dec : List Nat} {o : Oper} {al : Bool} {rest : List (Oper × Bool)} {m : Mode}

/-! ### Calls -/
theorem call_does {Y Su : Nat → Prop} {w : World} {g : FuncId} {args : List AV} {cs : List Chunk} {σr : Store} {R : AV → List Chunk → Prop} {ks ks' : List Nat} {xs : List Value} (spec : FSpec P g args cs R) (hY : ∀ b, Y b → b < w.heap.size) (hd : ∀ b, Su b → ¬ Y b)
    (hh : Holds (or2 Su Y) w σ' Su) (ht : takes σ' ks = some (cs, σr)) (hr : Reps (or2 Su Y) w args xs) :
    Calls P g xs.toArray w fun e w1 => ∃ v, e = .returned v ∧ After Y Su w (fun a σ1 => ∃ cs', R a cs' ∧ σ1 = zipk ks' cs' ++ σr) v w1 := by
  obtain ⟨S1, S2, h1, h2, hS, hdis⟩ := hh.takes ht
  have hM : ∀ b, or2 S1 (or2 S2 Y) b → or2 Su Y b := fun b h => h.elim (fun h => .inl ((hS b).2 (.inl h))) fun h => h.elim (fun h => .inl ((hS b).2 (.inr h))) .inr
  refine (spec.out (or2 S2 Y) S1 w xs (fun b hb h => h.elim (hdis b hb) (hd b ((hS b).2 (.inl hb)))) (fun b h => h.elim (h2.lt b) (hY b)) (Holds.of h1 fun b _ h => hM b h) (hr.of fun b _ h => hM b h)).mono ?_
  rintro e w1 ⟨v, a, cs', S', rfl, hR, hrep, hh', hev, hsub⟩
  have hM2 : ∀ b, or2 (or2 S' S2) Y b → or2 S' (or2 S2 Y) b := fun b h => h.elim (fun h => h.elim .inl fun h => .inr (.inl h)) fun h => .inr (.inr h)
  have hm : ∀ b, b < w.heap.size → S1 b ∨ or2 (or2 S' S2) Y b → or2 Su Y b := fun b hb h => by
    rcases h with h | (h | h) | h
    · exact .inl ((hS b).2 (.inl h))
    · rcases hsub b h with h | h
      · exact .inl ((hS b).2 (.inl h))
      · omega
    · exact .inl ((hS b).2 (.inr h))
    · exact .inr h
  refine ⟨v, rfl, a, zipk ks' cs' ++ σr, or2 S' S2, ⟨cs', hR, rfl⟩, hrep.of fun b _ h => hM2 b h, Holds.append ((hh'.zip ks').of fun b _ h => hM2 b h) (h2.ev hev hm fun b hb h => hdis b h hb) (fun b hb h => ?_) (fun b => Iff.rfl), hev.mono fun b _ h => (hS b).2 (.inl h), fun b hb => ?_⟩
  · rcases hsub b hb with h' | h'
    · exact hdis b h' h
    · have := h2.lt b h; omega
  · rcases hb with h | h
    · exact (hsub b h).imp (fun h => (hS b).2 (.inl h)) id
    · exact .inl ((hS b).2 (.inr h))
/-- A function is called. ks: the keys of the memory that it gets; ks': the keys of what it leaves. -/
theorem a_call (hT : TOk P L) {g : FuncId} {xs : Array Operand} {ts : Array TypeId} {args : List AV} {cs : List Chunk} {σr : Store} {R : AV → List Chunk → Prop} (h : machA L n fuel s f σ [] = ⟨.op m κ all dec o true rest, f', σ', ob⟩) (hob : ob.map (·.1) = ob.map (·.2)) (ho : o.op = .call ⟨.value (.func g), xs, ts⟩) (hb : callOk P g = true)
    (spec : FSpec P g args cs R) (ks ks' : List Nat) (ha : evAs n f' xs.toList = args) (ht : takes σ' ks = some (cs, σr))
    (hk : ∀ a cs', R a cs' → rekK ks' cs' σr fun σ1 => DenA c P n Q (.ops (m.hap true) κ all dec rest) (putA f' o.dst a) σ1) : DenA c P n Q s f σ := by
  refine a_eff hT (fun a σ1 => ∃ cs', R a cs' ∧ σ1 = zipk ks' cs' ++ σr) h hob (fun Y Su w fc hd hY hh he => ?_) (fun a σ1 ⟨cs', hR, hs⟩ => by subst hs; have := hk a cs' hR; rwa [rekK_eq] at this)
  have hr := he.evals (n := n) xs.toList
  rw [ha] at hr
  have hrun : (execOp (ev n fc) o).run P w = .ok (.enter g (xs.toList.map (ev n fc)).toArray) w := by
    have : xs.map (ev n fc) = (xs.toList.map (ev n fc)).toArray := by obtain ⟨xs⟩ := xs; simp
    simp [execOp, ho, resolve, invoke, ev, evK, Deferred.ofValue, run_callFunc hb, this]
  rw [hrun]
  exact call_does spec hY hd hh ht hr
/-- .. its arguments told otherwise. -/
theorem a_callF (hT : TOk P L) {g : FuncId} {xs : Array Operand} {ts : Array TypeId} {args : List AV} {cs cs0 : List Chunk} {σr : Store} {R : AV → List Chunk → Prop} (h : machA L n fuel s f σ [] = ⟨.op m κ all dec o true rest, f', σ', ob⟩) (hob : ob.map (·.1) = ob.map (·.2)) (ho : o.op = .call ⟨.value (.func g), xs, ts⟩) (hb : callOk P g = true)
    (spec : FSpec P g args cs R) (ks ks' : List Nat) (ha : Fits (evAs n f' xs.toList) args) (ht : takes σ' ks = some (cs0, σr)) (hc : CFits cs0 cs)
    (hk : ∀ a cs', R a cs' → rekK ks' cs' σr fun σ1 => DenA c P n Q (.ops (m.hap true) κ all dec rest) (putA f' o.dst a) σ1) : DenA c P n Q s f σ :=
  a_call hT h hob ho hb (spec.fit ha hc) ks ks' rfl ht hk
/-- A function's value is called. -/
theorem a_callv (hT : TOk P L) {g : FuncId} {y : Operand} {xs : Array Operand} {ts : Array TypeId} {args cap : List AV} {cs : List Chunk} {σr : Store} {R : AV → List Chunk → Prop} (h : machA L n fuel s f σ [] = ⟨.op m κ all dec o true rest, f', σ', ob⟩) (hob : ob.map (·.1) = ob.map (·.2)) (ho : o.op = .call ⟨.value y, xs, ts⟩) (hy : evA n f' y = .fn g cap) (hb : callOk P g = true)
    (spec : FSpec P g args cs R) (ks ks' : List Nat) (ha : evAs n f' xs.toList ++ cap = args) (ht : takes σ' ks = some (cs, σr))
    (hk : ∀ a cs', R a cs' → rekK ks' cs' σr fun σ1 => DenA c P n Q (.ops (m.hap true) κ all dec rest) (putA f' o.dst a) σ1) : DenA c P n Q s f σ := by
  refine a_eff hT (fun a σ1 => ∃ cs', R a cs' ∧ σ1 = zipk ks' cs' ++ σr) h hob (fun Y Su w fc hd hY hh he => ?_) (fun a σ1 ⟨cs', hR, hs⟩ => by subst hs; have := hk a cs' hR; rwa [rekK_eq] at this)
  have hr := he.evals (n := n) xs.toList
  have hv := he.eval (n := n) y
  rw [hy] at hv
  unfold Rep at hv
  obtain ⟨ys, hv, hrc⟩ := hv
  have hr2 := hr.app hrc
  rw [ha] at hr2
  have hrun : (execOp (ev n fc) o).run P w = .ok (.enter g (xs.toList.map (ev n fc) ++ ys).toArray) w := by
    have : xs.map (ev n fc) ++ ys.toArray = (xs.toList.map (ev n fc) ++ ys).toArray := by obtain ⟨xs⟩ := xs; simp
    simp [execOp, ho, resolve, invoke, hv, Deferred.ofValue, run_callFunc hb, this]
  rw [hrun]
  exact call_does spec hY hd hh ht hr2

/-! ### Loops -/
def overA : List Nat → List AV → AEnv
  | t :: l, v :: vs => (t, v) :: overA l vs
  | _, _ => []
def InvA (c : Ctx) (n : Nat) {X : Type} (l : List Nat) (vs : X → List AV) (sg : X → Store) (φ : X → Prop) : Act → World → Prop := fun a w => ∃ x fc S, a = act n fc ∧ φ x ∧ Sat c w S (overA l (vs x)) fc ∧ Holds (or2 S c.X) w (sg x) S
theorem fits_over {M : Nat → Prop} {w : World} {f : AEnv} {fc : Env} (he : EnvRep M w f fc) : ∀ {l : List Nat} {vs : List AV}, Fits (l.map (getA f)) vs → EnvRep M w (overA l vs) fc
  | [], vs, h => fun t => by cases vs <;> (show Rep M w .any _; unfold Rep; trivial)
  | x :: l, [], h => fun t => by show Rep M w .any _; unfold Rep; trivial
  | x :: l, v :: vs, h => by
    rw [List.map_cons] at h
    unfold Fits at h
    intro t
    show Rep M w (getA ((x, v) :: overA l vs) t) _
    rw [getA_cons]
    split
    · rename_i e; subst e; exact h.1.rep (he t)
    · exact fits_over he h.2 t
theorem sat_part {w : World} {S : Nat → Prop} {fc : Env} {ks : List Nat} {cs cs' : List Chunk} {σr τ : Store} (hs : Sat c w S f fc) (hh : Holds (or2 S c.X) w σ S) (ht : takes σ ks = some (cs, σr)) (hc : CFits cs cs') (hτ : τ.map (·.2) = cs') :
    ∃ S', Sat c w S' f fc ∧ Holds (or2 S' c.X) w τ S' := by
  obtain ⟨S1, S2, h1, h2, hS, hdis⟩ := hh.takes ht
  have hM : ∀ b, or2 S1 c.X b → or2 S c.X b := fun b h => h.elim (fun h => .inl ((hS b).2 (.inl h))) .inr
  refine ⟨S1, ⟨hs.env.of fun b _ h => hM b h, hs.ev, fun b hb => hs.sub b ((hS b).2 (.inl hb))⟩, ?_⟩
  have := (hc.holds h1).zip (τ.map (·.1))
  refine Holds.keys (this.of fun b _ h => hM b h) ?_
  rw [zipk_snd, hτ]
/-- A loop. Of X's members one is the round's: what the slots of l hold, what memory of one's own there is, what is so; and what gets less. -/
theorem a_loop (hT : TOk P L) {X : Type} (l : List Nat) (vs : X → List AV) (sg : X → Store) (φ : X → Prop) (μ : X → Nat) {cd : Code} {cs : List Chunk} {σr : Store} (x0 : X) (ks : List Nat) (h : machA L n fuel s f σ [] = ⟨.loop κ cd, f', σ', ob⟩) (hob : ob.map (·.1) = ob.map (·.2)) (h0 : φ x0) (hf : Fits (l.map (getA f')) (vs x0))
    (ht : takes σ' ks = some (cs, σr)) (hc : CFits cs ((sg x0).map (·.2)))
    (hr : ∀ x, φ x → DenA c P n Q (.code (.inv (InvA c n l vs sg fun x' => φ x' ∧ μ x' < μ x) :: κ) cd) (overA l (vs x)) (sg x)) : DenA c P n Q s f σ := by
  refine a_go hT h hob fun hok w S fc Sg hs hh => ?_
  obtain ⟨S', hs', hh'⟩ := sat_part hs hh ht hc rfl
  show (Code.loop cd).wp P (post P Q κ) (act n fc) w
  refine wp_loop_ghost (fun m a w => ∃ x fc S, a = act n fc ∧ φ x ∧ Sat c w S (overA l (vs x)) fc ∧ Holds (or2 S c.X) w (sg x) S ∧ μ x = m) (μ x0) ⟨x0, fc, S', rfl, h0, ⟨fits_over hs'.env hf, hs'.ev, hs'.sub⟩, hh', rfl⟩ ?_
  rintro m a w ⟨x, fc, S, rfl, hx, hs, hh, rfl⟩
  refine wp_mono ((hr x hx).out trivial w S fc (fun _ => True) hs hh) ?_
  intro e a' w' hq
  cases e with
  | normal =>
    obtain ⟨x', fc', S', rfl, ⟨hx', hlt⟩, hs', hh'⟩ := hq
    exact ⟨_, hlt, x', fc', S', rfl, hx', hs', hh', rfl⟩
  | exit id => exact hq
  | goto l => exact hq
  | ret => exact hq
  | panic ch => exact hq
  | outgrown => exact hq
/-- The round's end; or where ways meet. -/
theorem a_next (hT : TOk P L) {X : Type} {l : List Nat} {vs : X → List AV} {sg : X → Store} {φ : X → Prop} {cs : List Chunk} {σr : Store} (x' : X) (ks : List Nat) (h : machA L n fuel s f σ [] = ⟨.nrm (.inv (InvA c n l vs sg φ) :: κ), f', σ', ob⟩) (hob : ob.map (·.1) = ob.map (·.2)) (hx : φ x')
    (hf : Fits (l.map (getA f')) (vs x')) (ht : takes σ' ks = some (cs, σr)) (hc : CFits cs ((sg x').map (·.2))) : DenA c P n Q s f σ := by
  refine a_go hT h hob fun hok w S fc Sg hs hh => ?_
  obtain ⟨S', hs', hh'⟩ := sat_part hs hh ht hc rfl
  show InvA c n l vs sg φ (act n fc) w
  exact ⟨x', fc, S', rfl, hx, ⟨fits_over hs'.env hf, hs'.ev, hs'.sub⟩, hh'⟩
/-- A cut: behind cd the ways meet; what follows is shown once. -/
theorem a_cut (hT : TOk P L) {X : Type} (l : List Nat) (vs : X → List AV) (sg : X → Store) (φ : X → Prop) {κ : List Kt} {cd d : Code} {f : AEnv} {σ : Store}
    (h1 : DenA c P n Q (.code (.inv (InvA c n l vs sg φ) :: κ) cd) f σ) (h2 : ∀ x, φ x → DenA c P n Q (.code κ d) (overA l (vs x)) (sg x)) : DenA c P n Q (.code κ (.seq cd d)) f σ := by
  refine ⟨fun hok w S fc Sg hs hh => ?_⟩
  show (Code.seq cd d).wp P (post P Q κ) (act n fc) w
  refine wp_seq (wp_mono (h1.out trivial w S fc Sg hs hh) ?_)
  intro e a' w' hq
  cases e with
  | normal =>
    obtain ⟨x', fc', S', rfl, hx', hs', hh'⟩ := hq
    exact (h2 x' hx').out trivial w' S' fc' (fun _ => True) hs' hh'
  | exit id => exact hq
  | goto l => exact hq
  | ret => exact hq
  | panic ch => exact hq
  | outgrown => exact hq
/-- .. where the machine stands at a sequence. -/
theorem a_cutM (hT : TOk P L) {X : Type} (l : List Nat) (vs : X → List AV) (sg : X → Store) (φ : X → Prop) {cd d : Code} (q : Nat) (h : machA L n q s f σ [] = ⟨.st (.code κ (.seq cd d)), f', σ', ob⟩) (hob : ob.map (·.1) = ob.map (·.2))
    (h1 : DenA c P n Q (.code (.inv (InvA c n l vs sg φ) :: κ) cd) f' σ') (h2 : ∀ x, φ x → DenA c P n Q (.code κ d) (overA l (vs x)) (sg x)) : DenA c P n Q s f σ :=
  ⟨machA_sound hT q s f σ [] (by rw [h]; exact OT.of hob) (by rw [h]; exact (a_cut hT l vs sg φ h1 h2).out)⟩

/-! ### Drawn regions -/
theorem reg_begin {w : World} {S : Nat → Prop} {fc : Env} {us : List Nat} {ex : Ex} {cu : List Chunk} {σp : Store} (hs : Sat c w S f fc) (hh : Holds (or2 S c.X) w σ S) (ht : takes σ us = some (cu, σp)) :
    ∃ Sg : World → Prop, Sg w.drew ∧ Sat c w.drew S f fc ∧ HoldsM (.reg true σp ex) (or2 S c.X) S w.drew (zipk us cu) Sg := by
  obtain ⟨S1, S2, h1, h2, hS, hdis⟩ := hh.takes ht
  have hev : Ev no w w.drew := Ev.drew w
  have hm : ∀ b, b < w.heap.size → no b ∨ or2 S c.X b → or2 S c.X b := fun b _ h => h.elim (fun h => h.elim) id
  refine ⟨SgOf w.drew S1, fun b _ _ => rfl, ⟨hs.env.pass hev hm, hs.ev.to hev, hs.sub⟩, w.drew, S1, S2, S1, rfl, fun b _ _ => rfl, Nat.le_refl _, h2.ev hev hm (fun _ _ h => h), (h1.zip us).ev hev hm (fun _ _ h => h), fun b => (hS b).trans or_comm, fun b h h' => hdis b h' h, fun b h => .inl h, fun b h => ⟨fun h' => hdis b h' h, h2.lt b h⟩, fun _ => ⟨rfl, fun b h => h⟩⟩
/-- A region whose order is drawn. us: the keys of the memory that it turns ahead of its last operation; ex: the last one stands alone. -/
theorem a_draw (hT : TOk P L) {fn : Func} {R : Ending → World → Prop} {id : Nat} {ops : Array Oper} {cu : List Chunk} {σp : Store} (us : List Nat) (ex : Bool) (ord : List (Nat × Bool)) (h : machA L n fuel s f σ [] = ⟨.draw κ id ops, f', σ', ob⟩) (hob : ob.map (·.1) = ob.map (·.2)) (hm : P.follows .mixedOrders = true)
    (ho : (Nat.beq ord.length ops.size && Region.noSelect ops && ordOk ops (Array.replicate ops.size false) ord && (!ex || waitsAll .any ops (lastI ord)) && xOk (if ex then lastI ord else ops.size) ord) = true) (ht : takes σ' us = some (cu, σp))
    (hk : DenA c P n (bodyPost P fn R) (.ops (.reg true σp ⟨ex, none⟩) κ ops [] (selK ops.toList ord)) f' (zipk us cu)) : DenA c P n (bodyPost P fn R) s f σ := by
  simp only [Bool.and_eq_true] at ho
  refine a_go hT h hob fun hok w S fc Sg hs hh => ?_
  obtain ⟨Sg', hg, hs', hh'⟩ := reg_begin (ex := ⟨ex, none⟩) hs hh ht
  show (Code.region id ops true).wp P (post P (bodyPost P fn R) κ) (act n fc) w
  refine wp_region_drawn (S := Sg') (ex := ex) ord hm (Nat.eq_of_beq_eq_true ho.1.1.1.1) ho.1.1.1.2 ho.1.1.2 (fun he => by have := ho.1.2; rw [he] at this; simpa using this) ho.2 ?_ hg (hk.out trivial w.drew S fc Sg' hs' hh')
  intro cc a d v w hp
  rw [post_panic] at hp ⊢
  exact ⟨by simpa [Act.put] using (show (a.put d v).defers = [] from hp.1) |> fun h => by cases d <;> simpa [Act.put] using h, hp.2⟩
/-- A drawn region whose order branches: its first, linear run; x: the operation that comes last and may turn what else there is (or the number of operations); all its runs meet behind it. -/
theorem a_treeC (hT : TOk P L) {fn : Func} {R : Ending → World → Prop} {id : Nat} {ops : Array Oper} {cu : List Chunk} {σp : Store} {cd : Code} {X : Type} (l : List Nat) (vs : X → List AV) (sg : X → Store) (φ : X → Prop) (us : List Nat) (x : Nat) (ord : List (Nat × Bool)) (h : machA L n fuel s f σ [] = ⟨.draw (.seq cd :: κ) id ops, f', σ', ob⟩) (hob : ob.map (·.1) = ob.map (·.2)) (hm : P.follows .mixedOrders = true)
    (ho : (Nat.ble ord.length ops.size && Region.noSelect ops && (ordTo ops (Array.replicate ops.size false) ord).isSome && (!(Nat.blt x ops.size) || waitsAll .any ops x) && xOk x ord) = true) (ht : takes σ' us = some (cu, σp))
    (hk : DenA c P n (bodyPost P fn R) (.ops (.reg true σp ⟨false, some (x, ops.size - ord.length, (ordTo ops (Array.replicate ops.size false) ord).getD #[])⟩) (.inv (InvA c n l vs sg φ) :: κ) ops [] (selK ops.toList ord)) f' (zipk us cu))
    (h2 : ∀ x, φ x → DenA c P n (bodyPost P fn R) (.code κ cd) (overA l (vs x)) (sg x)) : DenA c P n (bodyPost P fn R) s f σ := by
  simp only [Bool.and_eq_true] at ho
  refine a_go hT h hob fun hok w S fc Sg hs hh => ?_
  obtain ⟨Sg', hg, hs', hh'⟩ := reg_begin (ex := ⟨false, some (x, ops.size - ord.length, (ordTo ops (Array.replicate ops.size false) ord).getD #[])⟩) hs hh ht
  show (Code.region id ops true).wp P (post P (bodyPost P fn R) (.seq cd :: κ)) (act n fc) w
  have h1 : (Code.region id ops true).wp P (post P (bodyPost P fn R) (.inv (InvA c n l vs sg φ) :: κ)) (act n fc) w := by
    refine wp_region_tree (S := Sg') (x := x) ord hm (Nat.le_of_ble_eq_true ho.1.1.1.1) ho.1.1.1.2 ho.1.1.2 (fun hlt => ?_) ho.2 ?_ hg false (fun h => by cases h) (hk.out trivial w.drew S fc Sg' hs' hh')
    · have h2 := ho.1.2
      rw [Bool.or_eq_true, Bool.not_eq_true'] at h2
      rcases h2 with h2 | h2
      · rw [show Nat.blt x ops.size = true by simpa [Nat.blt_eq] using hlt] at h2; cases h2
      · exact h2
    · intro cc a d v w hp
      rw [post_panic] at hp ⊢
      exact ⟨by simpa [Act.put] using (show (a.put d v).defers = [] from hp.1) |> fun h => by cases d <;> simpa [Act.put] using h, hp.2⟩
  refine wp_mono h1 ?_
  intro e a' w' he
  cases e with
  | normal =>
    obtain ⟨x', fc', S', rfl, hx', hs', hh'⟩ := he
    exact (h2 x' hx').out trivial w' S' fc' (fun _ => True) hs' hh'
  | _ => exact he
/-- The region's order branches here: each of those that may come up first. -/
theorem a_alt (hT : TOk P L) {fn : Func} {R : Ending → World → Prop} {b pre : Bool} {x q : Nat} {listed : Array Bool} {σp : Store} (ts : List (List (Nat × Bool) × Bool)) (h : machA L n fuel s f σ [] = ⟨.st (.ops (.reg pre σp ⟨b, some (x, q, listed)⟩) κ all dec []), f', σ', ob⟩) (hob : ob.map (·.1) = ob.map (·.2))
    (ho : altsOk all x q listed ts = true)
    (hk : AllAlt (fun t => DenA c P n (bodyPost P fn R) (.ops (.reg pre σp (altEx all x q listed t)) κ all dec (selK all.toList t.1)) f' σ') ts) : DenA c P n (bodyPost P fn R) s f σ := by
  refine a_go hT h hob fun hok w S fc Sg hs hh => ?_
  show ClosedL .any all listed → _
  intro hcl
  have hnow : Sg w := by obtain ⟨ws, U, Sp, Su, h⟩ := id hh; exact h.now
  refine OR_alt (S := Sg) ho (fun cc a d v w hp => ?_) hcl hnow fun t ht => (hk.get t ht).out trivial w S fc Sg hs hh
  rw [post_panic] at hp ⊢
  exact ⟨by simpa [Act.put] using (show (a.put d v).defers = [] from hp.1) |> fun h => by cases d <;> simpa [Act.put] using h, hp.2⟩

/-! ### The end -/
def resK1 (n : Nat) (f : AEnv) (L : List TD) (σ : Store) : ResultVar → Option (AV × Obs)
  | .tmp t => some (evA n f (.tmp t), [])
  | .cell a t => match evA n f (.tmp a) with
    | .v (.pointer (some ⟨g, off, sp⟩)) h => match look σ h with
      | some (.blk g' _ cs) => loadK L t cs off (fun r => some (r, [(ptrV g sp, ptrV g' none)])) none
      | _ => none
    | _ => none
def resK (n : Nat) (f : AEnv) (L : List TD) (σ : Store) : List ResultVar → Option (List AV × Obs)
  | [] => some ([], [])
  | r :: rs => match resK1 n f L σ r with
    | none => none
    | some (a, o1) => match resK n f L σ rs with
      | none => none
      | some (as, o2) => some (a :: as, o1 ++ o2)
def tupA (vs : List AV) : AV := match vs with | [v] => v | vs => .tup vs
theorem resK1_rep (hT : TOk P L) {M S : Nat → Prop} {w : World} {fc : Env} (he : EnvRep M w f fc) (hh : Holds M w σ S) {r : ResultVar} {a : AV} {o1 : Obs} (h : resK1 n f L σ r = some (a, o1)) (hob : OT o1) : ∃ v, resV P n fc w r v ∧ Rep M w a v := by
  cases r with
  | tmp t =>
    simp [resK1] at h
    obtain ⟨rfl, rfl⟩ := h
    exact ⟨_, rfl, he.eval _⟩
  | cell ad t =>
    have hx := he.eval (n := n) (.tmp ad)
    simp only [resK1] at h
    split at h
    · rename_i g off sp hh' hev
      rw [hev] at hx
      split at h
      · rename_i g' t' cs hl
        obtain ⟨S1, S2, hS, hd, hc, _⟩ := hh.take hl
        obtain ⟨hS1, xs, hb, hr, h1⟩ := hc
        rcases loadK_says (P := P) hT (t := t) (W := fun w' => w' = w) hr h1 off (ad := ⟨g', 0, none⟩) (fun w' e => by rw [e]; exact hb.cells) with hz | ⟨a', ha', v, hv, hrv⟩
        · rw [hz] at h; cases h
        · rw [ha'] at h
          simp at h
          obtain ⟨rfl, rfl⟩ := h
          have e := hob (ptrV g sp, ptrV g' none) (by simp)
          simp only [ptrV, Value.pointer.injEq, Option.some.injEq, Addr.mk.injEq] at e
          obtain ⟨rfl, _, rfl⟩ := e
          have := hv w rfl
          rw [add_plain] at this
          exact ⟨v, ⟨_, rep_v hx, this⟩, hrv⟩
      · cases h
    · cases h
theorem resK_rep (hT : TOk P L) {M S : Nat → Prop} {w : World} {fc : Env} (he : EnvRep M w f fc) (hh : Holds M w σ S) : ∀ {rs : List ResultVar} {as : List AV} {ob : Obs}, resK n f L σ rs = some (as, ob) → OT ob → ∃ vs, resL P n fc w rs vs ∧ Reps M w as vs
  | [], as, ob, h, hob => by simp [resK] at h; obtain ⟨rfl, rfl⟩ := h; exact ⟨[], trivial, Reps.nil⟩
  | r :: rs, as, ob, h, hob => by
    unfold resK at h
    split at h
    · cases h
    · rename_i a o1 h1
      split at h
      · cases h
      · rename_i as' o2 h2
        simp at h
        obtain ⟨rfl, rfl⟩ := h
        obtain ⟨v, k1, k2⟩ := resK1_rep hT he hh h1 fun p hp => hob p (List.mem_append_left _ hp)
        obtain ⟨vs, k3, k4⟩ := resK_rep hT he hh h2 fun p hp => hob p (List.mem_append_right _ hp)
        exact ⟨v :: vs, ⟨k1, k3⟩, Reps.cons k2 k4⟩
theorem tup_rep {M : Nat → Prop} {w : World} {as : List AV} {vs : List Value} (h : Reps M w as vs) : Rep M w (tupA as) (tup vs) := by
  match as, vs, h with
  | [], vs, h => unfold Reps at h; subst h; unfold tupA tup; unfold Rep; exact ⟨[], rfl, Reps.nil⟩
  | [a], vs, h =>
    unfold Reps at h
    obtain ⟨x, r, rfl, h1, h2⟩ := h
    unfold Reps at h2
    subst h2
    exact h1
  | a :: b :: as, vs, h =>
    have h0 := h
    unfold Reps at h
    obtain ⟨x, r, rfl, h1, h2⟩ := h
    unfold Reps at h2
    obtain ⟨y, r', rfl, h3, h4⟩ := h2
    show Rep M w (.tup (a :: b :: as)) (.tuple (x :: y :: r').toArray)
    unfold Rep
    exact ⟨_, rfl, h0⟩
theorem ret_post {fn : Func} {R : AV → List Chunk → Prop} {w : World} {S : Nat → Prop} {fc : Env} {rs : List ResultVar} {vs : List AV} {ob2 : Obs} {ks : List Nat} {cs : List Chunk} {σr : Store} (hT : TOk P L) (hs : Sat c w S f fc) (hh : Holds (or2 S c.X) w σ S) (hr : fn.results = rs.toArray) (hv : resK n f L σ rs = some (vs, ob2)) (hob2 : OT ob2)
    (ht : takes σ ks = some (cs, σr)) (hR : R (tupA vs) cs) : ∃ v, (results fn (act n fc).tmps).run P w = .ok v w ∧ c.post R (.returned v) w := by
  obtain ⟨ys, h1, h2⟩ := resK_rep hT hs.env hh hv hob2
  obtain ⟨S1, S2, k1, k2, hS, hdis⟩ := hh.takes ht
  have hM : ∀ b, or2 S1 c.X b → or2 S c.X b := fun b h => h.elim (fun h => .inl ((hS b).2 (.inl h))) .inr
  exact ⟨_, run_results hr h1, _, _, cs, S1, rfl, hR, (tup_rep h2).of fun b _ h => hM b h, Holds.of k1 fun b _ h => hM b h, hs.ev, fun b hb => hs.sub b ((hS b).2 (.inl hb))⟩
/-- The function returns. ks: the keys of the memory that it leaves to its caller. -/
theorem a_ret (hT : TOk P L) {fn : Func} {R : AV → List Chunk → Prop} {rs : List ResultVar} {vs : List AV} {ob2 : Obs} {cs : List Chunk} {σr : Store} (ks : List Nat) (h : machA L n fuel s f σ [] = ⟨.ret κ, f', σ', ob⟩) (hob : ob.map (·.1) = ob.map (·.2)) (hr : fn.results = rs.toArray) (hv : resK n f' L σ' rs = some (vs, ob2)) (hob2 : ob2.map (·.1) = ob2.map (·.2))
    (ht : takes σ' ks = some (cs, σr)) (hR : R (tupA vs) cs) : DenA c P n (bodyPost P fn (c.post R)) s f σ := by
  refine a_go hT h hob fun hok w S fc Sg hs hh => ?_
  show post P (bodyPost P fn (c.post R)) κ .ret (act n fc) w
  rw [post_ret]
  obtain ⟨v, h1, h2⟩ := ret_post (fn := fn) (R := R) hT hs hh hr hv (OT.of hob2) ht hR
  exact ⟨rfl, v, h1, h2⟩
/-- It comes to its end. -/
theorem a_end (hT : TOk P L) {fn : Func} {R : AV → List Chunk → Prop} {rs : List ResultVar} {vs : List AV} {ob2 : Obs} {cs : List Chunk} {σr : Store} (ks : List Nat) (h : machA L n fuel s f σ [] = ⟨.nrm [], f', σ', ob⟩) (hob : ob.map (·.1) = ob.map (·.2)) (hr : fn.results = rs.toArray) (hv : resK n f' L σ' rs = some (vs, ob2)) (hob2 : ob2.map (·.1) = ob2.map (·.2))
    (ht : takes σ' ks = some (cs, σr)) (hR : R (tupA vs) cs) : DenA c P n (bodyPost P fn (c.post R)) s f σ := by
  refine a_go hT h hob fun hok w S fc Sg hs hh => ?_
  obtain ⟨v, h1, h2⟩ := ret_post (fn := fn) (R := R) hT hs hh hr hv (OT.of hob2) ht hR
  exact ⟨rfl, v, h1, h2⟩

/-! ### What is told otherwise -/
/-- Outside of drawn regions. -/
def AMS.still : AMS → Bool
  | .ops (.reg _ _ _) _ _ _ _ => false
  | _ => true
theorem a_ghost {σ1 : Store} {f1 : AEnv} (hst : s.still = true) (hg : ∀ (Y S : Nat → Prop) (w : World) (fc : Env), (∀ b, S b → ¬ Y b) → Holds (or2 S Y) w σ S → EnvRep (or2 S Y) w f fc → ∃ S', Holds (or2 S' Y) w σ1 S' ∧ EnvRep (or2 S' Y) w f1 fc ∧ ∀ b, S' b → S b)
    (hk : DenA c P n Q s f1 σ1) : DenA c P n Q s f σ := by
  refine ⟨fun hok w S fc Sg hs hh => ?_⟩
  have hp : s.mode = .plain ∨ s.mode = .rest ∨ ∃ ex, s.mode = .last ex := by
    cases s with
    | ops m κ all dec rest => cases m <;> first | exact .inl rfl | exact .inr (.inl rfl) | exact .inr (.inr ⟨_, rfl⟩) | cases hst
    | _ => exact .inl rfl
  have hh0 : Holds (or2 S c.X) w σ S := by rcases hp with e | e | ⟨ex, e⟩ <;> (rw [e] at hh; exact hh)
  have hdisX : ∀ b, S b → ¬ c.X b := fun b hb hx => (hs.sub b hb).elim (fun h => c.dis b h hx) fun h => Nat.lt_irrefl _ (Nat.lt_of_le_of_lt h (c.old b hx))
  obtain ⟨S', h1, h2, h3⟩ := hg c.X S w fc hdisX hh0 hs.env
  refine hk.out hok w S' fc Sg ⟨h2, hs.ev, fun b hb => hs.sub b (h3 b hb)⟩ ?_
  rcases hp with e | e | ⟨ex, e⟩ <;> (rw [e]; exact h1)
/-- A slot's value, told otherwise (anywhere). -/
theorem a_as (t : Nat) {a b : AV} (ha : getA f t = a) (hfit : Fit a b) (hk : DenA c P n Q s ((t, b) :: f) σ) : DenA c P n Q s f σ := by
  refine ⟨fun hok w S fc Sg hs hh => hk.out hok w S fc Sg ⟨fun t' => ?_, hs.ev, hs.sub⟩ hh⟩
  rw [getA_cons]
  split
  · rename_i e
    subst e
    have := hs.env t'
    rw [ha] at this
    exact hfit.rep this
  · exact hs.env t'
/-- A row is frozen; the slot t holds it. -/
theorem row_frozen {Y S1 S2 S : Nat → Prop} {w : World} {x : Value} {e k : Nat} {es : List (List Dat)} (hc : CRep (or2 S Y) w (.row x e k es) S1) (hS : ∀ b, S b ↔ S1 b ∨ S2 b) (hd : ∀ b, S1 b → ¬ S2 b) (hdY : ∀ b, S b → ¬ Y b) : DRep (or2 S2 Y) w (.sl k es) x := by
  obtain ⟨hS1, hk, xs, ho, hv⟩ := hc
  have hlen := hv.len
  unfold DRep
  rcases ho.2 with ⟨rfl, h0⟩ | ⟨g, cap, cur, rfl, hb, hh, hn, hcl, hs, ht⟩
  · have : es = [] := List.eq_nil_of_length_eq_zero h0
    subst this
    exact ⟨none, 0, rfl, by simp, by simp, by simp⟩
  · have hg : S1 g := (hS1 g).2 rfl
    refine ⟨_, cap, rfl, hn, hk, fun hne => ⟨_, rfl, ?_, (Array.getElem?_eq_some_iff.1 hh).1, SRep.flat.2 (LRep.mk fun j d hj => ?_)⟩⟩
    · rintro (h | h)
      · exact hd g hg h
      · exact hdY g ((hS g).2 (.inl hg)) h
    · obtain ⟨y, hy, hr⟩ := hv.get j d hj
      rw [Nat.zero_add]
      exact ⟨y, ho.cells (g := g) rfl j y hy, hr.ev (Ev.refl no w) fun b _ h => h.elim (fun h => h.elim) fun h => h.elim (fun h => .inl ((hS b).2 (.inr h))) .inr⟩
theorem a_freeze (t h : Nat) {x x' : Value} {e k : Nat} {es : List (List Dat)} (hst : s.still = true) (ht : getA f t = .row x h) (hl : look σ h = some (.row x' e k es)) (hx : x = x') (hk : DenA c P n Q s ((t, .d (.sl k es)) :: f) (del σ h)) : DenA c P n Q s f σ := by
  subst hx
  refine a_ghost hst (fun Y S w fc hdY hh he => ?_) hk
  obtain ⟨S1, S2, hS, hd, hc, hr⟩ := hh.take hl
  have hM : ∀ b, or2 S2 Y b → or2 S Y b := fun b h => h.elim (fun h => .inl ((hS b).2 (.inr h))) .inr
  have hfz := row_frozen hc hS hd hdY
  refine ⟨S2, hr.of fun b _ h => hM b h, fun t' => ?_, fun b h => (hS b).2 (.inr h)⟩
  rw [getA_cons]
  split
  · rename_i e
    subst e
    have := he t'
    rw [ht] at this
    unfold Rep at this ⊢
    rw [this.1]
    exact hfz
  · exact (he t').of fun b _ h => hM b h
/-- A row that a variable holds is frozen. -/
theorem a_freezeB (kb off h : Nat) {g : Nat} {tb : TypeId} {cs : List AV} {x x' : Value} {hx0 e k : Nat} {es : List (List Dat)} (hst : s.still = true) (hb : look σ kb = some (.blk g tb cs)) (ht : cs[off]? = some (.row x hx0)) (hl : look (del σ kb) h = some (.row x' e k es)) (hx : x = x')
    (hk : DenA c P n Q s f ((kb, .blk g tb (cs.set off (.d (.sl k es)))) :: del (del σ kb) h)) : DenA c P n Q s f σ := by
  subst hx
  refine a_ghost hst (fun Y S w fc hdY hh he => ?_) hk
  obtain ⟨B1, B2, hB, hdB, hcB, hrB⟩ := hh.take hb
  obtain ⟨S1, S2, hS, hd, hc, hr⟩ := hrB.take hl
  -- the row, apart from all else
  have hS' : ∀ b, S b ↔ S1 b ∨ or2 B1 S2 b := fun b => by
    rw [hB b, hS b]
    constructor
    · rintro (h | h | h)
      · exact .inr (.inl h)
      · exact .inl h
      · exact .inr (.inr h)
    · rintro (h | h | h)
      · exact .inr (.inl h)
      · exact .inl h
      · exact .inr (.inr h)
  have hd' : ∀ b, S1 b → ¬ or2 B1 S2 b := fun b hb h => h.elim (fun h => hdB b h ((hS b).2 (.inl hb))) (hd b hb)
  have hM : ∀ b, or2 (or2 B1 S2) Y b → or2 S Y b := fun b h => h.elim (fun h => .inl ((hS' b).2 (.inr h))) .inr
  have hfz := row_frozen hc hS' hd' hdY
  obtain ⟨hB1, xs, hblk, hrx, h1⟩ := hcB
  refine ⟨or2 B1 S2, ⟨B1, S2, fun b => Iff.rfl, fun b hb h => hdB b hb ((hS b).2 (.inr h)), ⟨hB1, xs, hblk, ?_, h1⟩, hr.of fun b _ h => hM b h⟩, fun t' => (he t').of fun b _ h => hM b h, fun b h => (hS' b).2 (.inr h)⟩
  have hrx' := hrx.of (M' := or2 (or2 B1 S2) Y) fun b _ h => hM b h
  obtain ⟨y, hy, hry⟩ := hrx'.get _ _ ht
  have hlt := (List.getElem?_eq_some_iff.1 hy).1
  have := hrx'.set off (.d (.sl k es)) y (by unfold Rep at hry ⊢; rw [hry.1]; exact hfz)
  have e : xs.set off y = xs := by
    apply List.ext_getElem?
    intro j
    rw [List.getElem?_set]
    split
    · rename_i e; subst e; exact hy.symm
    · rfl
  rwa [e] at this

end
end Go.Proofs.YtjcolfogmmjaoaaGreatDoor.A
end

section
/- Maps: made, asked, turned, gone through. It holds of any program. -/
set_option linter.unusedVariables false
set_option linter.unusedSimpArgs false
namespace Go.Proofs.YtjcolfogmmjaoaaGreatDoor.A
open V

def mapE {κ : Type} (kv : κ → Value) (l : List (κ × AV)) : List (Value × AV) := l.map fun p => (kv p.1, p.2)
def aget {κ β : Type} [DecidableEq κ] : List (κ × β) → κ → Option β
  | [], _ => none
  | (j, v) :: l, k => if j = k then some v else aget l k
def aput {κ β : Type} [DecidableEq κ] : List (κ × β) → κ → β → List (κ × β)
  | [], k, v => [(k, v)]
  | (j, u) :: l, k, v => if j = k then (j, v) :: l else (j, u) :: aput l k v
def adel {κ β : Type} [DecidableEq κ] : List (κ × β) → κ → List (κ × β)
  | [], _ => []
  | (j, u) :: l, k => if j = k then l else (j, u) :: adel l k
def aidx {κ : Type} [DecidableEq κ] : List κ → κ → Option Nat
  | [], _ => none
  | j :: l, k => if j = k then some 0 else (aidx l k).map (· + 1)
/-- What a map's keys are. -/
structure KeyOk (P : Program) (kt : TypeId) {κ : Type} [DecidableEq κ] (kv : κ → Value) : Prop where
  fnd : ∀ (w : World) (k : κ) (ks : List κ) (es : List MapEntry), es.map (·.key) = ks.map kv → (Instr.findKey kt (kv k) es).run P w = .ok ((aidx ks k).bind fun i => (es[i]?).map fun e => (i, e.val)) w
  chk : ∀ (w : World) (b : Bool) (k : κ), (Instr.checkKey b 10000 kt (kv k)).run P w = .ok () w
  bits : ∀ k, Instr.sameBits 10000 (kv k) (kv k) = true
theorem fnd_now {P : Program} {kt : TypeId} {κ : Type} [DecidableEq κ] {kv : κ → Value} {d : TypeDesc} (hu : P.underlying kt = some d) (hs : ∀ a b, Instr.sameNow d (kv a) (kv b) = some (decide (a = b))) (w : World) (k : κ) (ks : List κ) (es : List MapEntry) (h : es.map (·.key) = ks.map kv) :
    (Instr.findKey kt (kv k) es).run P w = .ok ((aidx ks k).bind fun i => (es[i]?).map fun e => (i, e.val)) w := by
  have key : ∀ (ks : List κ) (es : List MapEntry) (i : Nat), es.map (·.key) = ks.map kv → Instr.findNow d (kv k) es i = some ((aidx ks k).bind fun j => (es[j]?).map fun e => (i + j, e.val)) := by
    intro ks
    induction ks with
    | nil => intro es i h; simp at h; subst h; rfl
    | cons j ks ih =>
      intro es i h
      cases es with
      | nil => simp at h
      | cons e es =>
        simp only [List.map_cons, List.cons.injEq] at h
        unfold Instr.findNow
        rw [h.1, hs]
        unfold aidx
        by_cases hk : k = j
        · subst hk; simp
        · have hk' : ¬ j = k := fun e => hk e.symm
          simp only [hk, hk', decide_false, if_false]
          rw [ih es (i + 1) h.2]
          cases aidx ks k with
          | none => rfl
          | some m => simp [show i + 1 + m = i + (m + 1) by omega]
  unfold Instr.findKey
  simp only [Sem.run_bind, run_underlying hu, Result.andThen_ok]
  rw [key ks es 0 h]
  simp
theorem key_int {P : Program} {kt : TypeId} {ik : IntKind} (hu : P.underlying kt = some (.int ik)) : KeyOk P kt (fun n : Int => Value.int ik n) where
  fnd := fnd_now hu fun a b => by unfold Instr.sameNow; by_cases h : a = b <;> simp [h]
  chk := fun w b k => by unfold Instr.checkKey; simp [underlying, hu]
  bits := fun k => by unfold Instr.sameBits; simp
theorem ba_beq (a b : ByteArray) : (a == b) = decide (a = b) := by
  obtain ⟨a⟩ := a
  obtain ⟨b⟩ := b
  have h1 : ((⟨a⟩ : ByteArray) == ⟨b⟩) = (a == b) := rfl
  rw [h1]
  by_cases h : a = b
  · subst h; simp
  · have : ¬ (⟨a⟩ : ByteArray) = ⟨b⟩ := fun e => h (by injection e)
    simp [h]
theorem key_str {P : Program} {kt : TypeId} (hu : P.underlying kt = some .string) : KeyOk P kt (fun s : ByteArray => Value.string s) where
  fnd := fnd_now hu fun a b => by unfold Instr.sameNow; simp only [ba_beq]
  chk := fun w b k => by unfold Instr.checkKey; simp [underlying, hu]
  bits := fun k => by unfold Instr.sameBits; simp [ba_beq]
theorem ents_keys {M : Nat → Prop} {w : World} {κ : Type} {kv : κ → Value} : ∀ {l : List (κ × AV)} {es : List MapEntry}, EntsRep M w (mapE kv l) es → es.map (·.key) = (l.map (·.1)).map kv
  | [], es, h => by unfold mapE EntsRep at h; simp at h; subst h; rfl
  | p :: l, es, h => by
    unfold mapE at h
    rw [List.map_cons] at h
    unfold EntsRep at h
    obtain ⟨e, r, rfl, h1, h2⟩ := h
    simp [h1.1, ents_keys (l := l) h2]
theorem ents_get {M : Nat → Prop} {w : World} : ∀ {l : List (Value × AV)} {es : List MapEntry}, EntsRep M w l es → ∀ (i : Nat) p, l[i]? = some p → ∃ e, es[i]? = some e ∧ EntRep M w p e
  | [], es, h, i, p, hp => by simp at hp
  | q :: l, es, h, i, p, hp => by
    unfold EntsRep at h
    obtain ⟨e, r, rfl, h1, h2⟩ := h
    cases i with
    | zero => simp at hp; subst hp; exact ⟨e, rfl, h1⟩
    | succ i => simpa using ents_get h2 i p (by simpa using hp)
theorem ents_len {M : Nat → Prop} {w : World} : ∀ {l : List (Value × AV)} {es : List MapEntry}, EntsRep M w l es → es.length = l.length
  | [], es, h => by unfold EntsRep at h; simp [h]
  | q :: l, es, h => by unfold EntsRep at h; obtain ⟨e, r, rfl, _, h2⟩ := h; simp [ents_len h2]
theorem ents_app {M : Nat → Prop} {w : World} : ∀ {l : List (Value × AV)} {es : List MapEntry} {p : Value × AV} {e : MapEntry}, EntsRep M w l es → EntRep M w p e → EntsRep M w (l ++ [p]) (es ++ [e])
  | [], es, p, e, h, hp => by unfold EntsRep at h; subst h; exact ⟨e, [], rfl, hp, rfl⟩
  | q :: l, es, p, e, h, hp => by unfold EntsRep at h; obtain ⟨e', r, rfl, h1, h2⟩ := h; exact ⟨e', r ++ [e], rfl, h1, ents_app h2 hp⟩
theorem ents_set {M : Nat → Prop} {w : World} : ∀ {l : List (Value × AV)} {es : List MapEntry} {p : Value × AV} {e : MapEntry} (i : Nat), EntsRep M w l es → EntRep M w p e → EntsRep M w (l.set i p) (es.set i e)
  | [], es, p, e, i, h, hp => by unfold EntsRep at h; subst h; rfl
  | q :: l, es, p, e, i, h, hp => by
    unfold EntsRep at h
    obtain ⟨e', r, rfl, h1, h2⟩ := h
    cases i with
    | zero => exact ⟨e, r, rfl, hp, h2⟩
    | succ i => exact ⟨e', r.set i e, rfl, h1, ents_set i h2 hp⟩
theorem ents_erase {M : Nat → Prop} {w : World} : ∀ {l : List (Value × AV)} {es : List MapEntry} (i : Nat), EntsRep M w l es → EntsRep M w (l.eraseIdx i) (es.eraseIdx i)
  | [], es, i, h => by unfold EntsRep at h; subst h; rfl
  | q :: l, es, i, h => by
    unfold EntsRep at h
    obtain ⟨e', r, rfl, h1, h2⟩ := h
    cases i with
    | zero => exact h2
    | succ i => exact ⟨e', r.eraseIdx i, rfl, h1, ents_erase i h2⟩
theorem aget_idx {κ β : Type} [DecidableEq κ] : ∀ (l : List (κ × β)) (k : κ), match aidx (l.map (·.1)) k with
    | none => aget l k = none ∧ (∀ v, aput l k v = l ++ [(k, v)]) ∧ adel l k = l
    | some i => (∃ v, l[i]? = some (k, v) ∧ aget l k = some v) ∧ (∀ v, aput l k v = l.set i (k, v)) ∧ adel l k = l.eraseIdx i
  | [], k => ⟨rfl, fun v => rfl, rfl⟩
  | (j, u) :: l, k => by
    have ih := aget_idx l k
    simp only [List.map_cons, aidx]
    by_cases h : j = k
    · subst h
      simp [aget, aput, adel]
    · simp only [h, if_false, aget, aput, adel]
      cases hi : aidx (l.map (·.1)) k with
      | none => rw [hi] at ih; exact ⟨ih.1, fun v => by rw [ih.2.1]; rfl, by rw [ih.2.2]⟩
      | some i => rw [hi] at ih; exact ⟨ih.1, fun v => by rw [ih.2.1]; rfl, by rw [ih.2.2]; rfl⟩

theorem map_erase {α β : Type} (g : α → β) : ∀ (l : List α) (i : Nat), (l.eraseIdx i).map g = (l.map g).eraseIdx i
  | [], i => rfl
  | x :: l, 0 => rfl
  | x :: l, i + 1 => by simp [map_erase g l i]
section
variable {P : Program} {L : List TD} {Z : List (List Value)} {n : Nat} {Q : Exit → Act → World → Prop} {c : Ctx}
variable {s : AMS} {f f' : AEnv} {σ σ' : Store} {ob : Obs} {κ : List Kt} {all : Array Oper} {dec : List Nat} {o : Oper} {al : Bool} {rest : List (Oper × Bool)} {m : Mode}

def mapT (P : Program) (t kt et : TypeId) : Bool := match P.underlying t with | some (.map a b) => Nat.beq a kt && Nat.beq b et | _ => false
theorem mapT_spec {t kt et : TypeId} (h : mapT P t kt et = true) : P.underlying t = some (.map kt et) := by
  unfold mapT at h
  split at h
  · rename_i a b hu
    simp only [Bool.and_eq_true] at h
    rw [hu, Nat.eq_of_beq_eq_true h.1, Nat.eq_of_beq_eq_true h.2]
  · cases h
/-- What a map is asked. -/
theorem a_look (hT : TOk P L) {t kt et : TypeId} {κ' : Type} [DecidableEq κ'] {kv : κ' → Value} {x y : Operand} {r r' h0 : Nat} {hk0 : Nat} {es : List (Value × AV)} {z : Value} (l : List (κ' × AV)) (k : κ') (res : Option AV) {ok : Bool} (h : machA L n fuel s f σ [] = ⟨.op m κ all dec o true rest, f', σ', ob⟩) (hob : ob.map (·.1) = ob.map (·.2)) (ho : o.op = .lookup t x y ok) (ht : mapT P t kt et = true) (hko : KeyOk P kt kv) (hz : (P.info? et).map (·.zero) = some (some z))
    (hx : evA n f' x = .v (.map (some r)) h0) (hl : look σ' h0 = some (.map r' es)) (hrr : r = r') (hes : es = mapE kv l) (hy : evN n f' y = .v (kv k) hk0) (hres : aget l k = res)
    (hk : DenA c P n Q (.ops (m.hap true) κ all dec rest) (putA f' o.dst (if ok then .tup [res.getD (cAV z), .v (.bool res.isSome) 0] else res.getD (cAV z))) σ') : DenA c P n Q s f σ := by
  subst hrr
  subst hes
  refine a_eff hT (fun a σ1 => a = (if ok then .tup [res.getD (cAV z), .v (.bool res.isSome) 0] else res.getD (cAV z)) ∧ σ1 = σ') h hob (fun Y Su w fc hd hY hh he => ?_) (fun a σ1 ⟨ha, hs⟩ => by subst ha; subst hs; exact hk)
  obtain ⟨S1, S2, hS, hdis, hc, hrest⟩ := hh.take hl
  obtain ⟨hS1, ents, clock, hheap, hents, hnd, hcl⟩ := hc
  have h1 := he.eval (n := n) x
  have h2 := he.evalN (n := n) y
  rw [hx] at h1
  rw [hy] at h2
  obtain ⟨i, hi, hiz⟩ := Option.map_eq_some_iff.1 hz
  have hfnd := hko.fnd w k (l.map (·.1)) ents.toList (ents_keys hents)
  have hidx := aget_idx l k
  have fin : ∀ v a, Rep (or2 Su Y) w a v → a = res.getD (cAV z) → (execOp (ev n fc) o).run P w = .ok (.value (if ok then .tuple #[v, .bool res.isSome] else v)) w → Does P Y Su w (fun a σ1 => a = (if ok then .tup [res.getD (cAV z), .v (.bool res.isSome) 0] else res.getD (cAV z)) ∧ σ1 = σ') ((execOp (ev n fc) o).run P w) := by
    intro v a hr ha hrun
    rw [hrun]
    refine ⟨_, _, Su, ⟨rfl, rfl⟩, ?_, hh, Ev.refl _ _, fun b hb => .inl hb⟩
    subst ha
    cases ok
    · exact hr
    · simp only [if_true]
      unfold Rep
      exact ⟨[v, .bool res.isSome], rfl, Reps.cons hr (Reps.cons mk_v Reps.nil)⟩
  cases hi' : aidx (l.map (·.1)) k with
  | none =>
    rw [hi'] at hidx hfnd
    have hres' : res = none := by rw [← hres]; exact hidx.1
    subst hres'
    refine fin z (cAV z) (cAV_rep z) rfl ?_
    unfold execOp
    simp only [ho, Sem.run_bind, Sem.run_pure, rep_v h1, rep_v h2, Instr.lookup, run_underlying (mapT_spec ht), Result.andThen_ok, run_get hheap (by simp), hko.chk, hfnd, Option.bind_none, zeroValue, typeInfo, run_program, hi, hiz]
    first | done | (cases ok <;> rfl)
  | some j =>
    rw [hi'] at hidx hfnd
    obtain ⟨⟨v, hv, hg⟩, _⟩ := hidx
    have hres' : res = some v := by rw [← hres]; exact hg
    subst hres'
    obtain ⟨e, he', hke, hrep⟩ := ents_get hents j (kv k, v) (by unfold mapE; rw [List.getElem?_map, hv]; rfl)
    refine fin e.val v hrep rfl ?_
    unfold execOp
    simp only [ho, Sem.run_bind, Sem.run_pure, rep_v h1, rep_v h2, Instr.lookup, run_underlying (mapT_spec ht), Result.andThen_ok, run_get hheap (by simp), hko.chk, hfnd, Option.bind_some, he', Option.map_some]
    first | done | (cases ok <;> rfl)
/-- .. a map that there isn't. -/
theorem a_lookN (hT : TOk P L) {t kt et : TypeId} {κ' : Type} [DecidableEq κ'] {kv : κ' → Value} {x y : Operand} {h0 hk0 : Nat} {z : Value} (k : κ') {ok : Bool} (h : machA L n fuel s f σ [] = ⟨.op m κ all dec o al rest, f', σ', ob⟩) (hob : ob.map (·.1) = ob.map (·.2)) (ho : o.op = .lookup t x y ok) (ht : mapT P t kt et = true) (hko : KeyOk P kt kv) (hz : (P.info? et).map (·.zero) = some (some z))
    (hx : evN n f' x = .v (.map none) h0) (hy : evN n f' y = .v (kv k) hk0) (hk : DenA c P n Q (.ops m κ all dec rest) (putA f' o.dst (if ok then .tup [cAV z, .v (.bool false) 0] else cAV z)) σ') : DenA c P n Q s f σ := by
  refine a_pure hT _ h hob (fun M w fc he => ⟨if ok then .tuple #[z, .bool false] else z, fun w' => ?_, ?_⟩) hk
  · have h1 := he.evalN (n := n) x
    have h2 := he.evalN (n := n) y
    rw [hx] at h1
    rw [hy] at h2
    obtain ⟨i, hi, hiz⟩ := Option.map_eq_some_iff.1 hz
    have hf := hko.fnd w' k [] [] rfl
    unfold execOp
    simp only [ho, Sem.run_bind, Sem.run_pure, rep_v h1, rep_v h2, Instr.lookup, run_underlying (mapT_spec ht), Result.andThen_ok, hko.chk, hf, aidx, Option.bind_none, zeroValue, typeInfo, run_program, hi, hiz]
    first | done | (cases ok <;> rfl)
  · cases ok
    · exact cAV_rep z
    · simp only [if_true]
      unfold Rep
      exact ⟨[z, .bool false], rfl, Reps.cons (cAV_rep z) (Reps.cons mk_v Reps.nil)⟩
/-- A map is made. -/
theorem a_mkmap (hT : TOk P L) (kn : Nat) {t : TypeId} (h : machA L n fuel s f σ [] = ⟨.op m κ all dec o true rest, f', σ', ob⟩) (hob : ob.map (·.1) = ob.map (·.2)) (ho : o.op = .makeMap t none)
    (hk : ∀ r, DenA c P n Q (.ops (m.hap true) κ all dec rest) (putA f' o.dst (.v (.map (some r)) kn)) ((kn, .map r []) :: σ')) : DenA c P n Q s f σ := by
  refine a_eff hT (fun a σ1 => ∃ r, a = .v (.map (some r)) kn ∧ σ1 = (kn, .map r []) :: σ') h hob (fun Y Su w fc hd hY hh he => ?_) (fun a σ1 ⟨g, ha, hs⟩ => by subst ha; subst hs; exact hk g)
  have hrun : (execOp (ev n fc) o).run P w = .ok (.value (.map (some w.heap.size))) (w.alloc (.map #[] 0)) := by
    unfold execOp
    simp [ho, Instr.makeMap]
  rw [hrun]
  have hev : Ev no w (w.alloc (.map #[] 0)) := Ev.alloc w _
  have hm : ∀ b, b < w.heap.size → no b ∨ or2 (or2 (at1 w.heap.size) Su) Y b → or2 Su Y b := fun b hb h => by
    rcases h with h | (h | h) | h
    · exact h.elim
    · simp only [at1] at h; omega
    · exact .inl h
    · exact .inr h
  refine ⟨_, _, or2 (at1 w.heap.size) Su, ⟨_, rfl, rfl⟩, mk_v, ⟨at1 w.heap.size, Su, fun b => Iff.rfl, fun b hb h => ?_, ⟨fun b => Iff.rfl, #[], 0, heap_alloc_new w _, rfl, by simp, by simp⟩, hh.ev hev hm fun _ _ h => h⟩, hev.no, fun b h => h.elim (fun h => .inr (by simp only [at1] at h; omega)) .inl⟩
  simp only [at1] at hb
  have := hh.lt b h
  omega
/-- A map's block, turned. -/
theorem map_turned {Y Su : Nat → Prop} {w : World} {h0 r : Nat} {es es' : List (Value × AV)} {ents ents' : Array MapEntry} {clock clock' : Nat} {S1 S2 : Nat → Prop} (hh : Holds (or2 Su Y) w σ Su) (hl : look σ h0 = some (.map r es)) (hS : ∀ b, Su b ↔ S1 b ∨ S2 b) (hdis : ∀ b, S1 b → ¬ S2 b) (hS1 : ∀ b, S1 b ↔ b = r) (hheap : w.heap[r]? = some (.map ents clock)) (hrest : Holds (or2 Su Y) w (del σ h0) S2)
    (hents : EntsRep (or2 Su Y) w es' ents'.toList) (hnd : (ents'.toList.map (·.born)).Nodup) (hcl : ∀ e ∈ ents'.toList, e.born < clock') : After Y Su w (fun a σ1 => a = .v (.tuple #[]) 0 ∧ σ1 = upd σ h0 (.map r es')) (.tuple #[]) (setB w r (.map ents' clock')) := by
  have hlt : r < w.heap.size := (Array.getElem?_eq_some_iff.1 hheap).1
  have hev : Ev (at1 r) w (setB w r (.map ents' clock')) := Ev.setB w r _
  have hm : ∀ b, b < w.heap.size → at1 r b ∨ or2 Su Y b → or2 Su Y b := fun b _ h => h.elim (fun h => .inl ((hS b).2 (.inl ((hS1 b).2 h)))) id
  refine ⟨_, _, Su, ⟨rfl, rfl⟩, mk_v, ?_, hev.mono fun b _ h => (hS b).2 (.inl ((hS1 b).2 h)), fun b hb => .inl hb⟩
  refine (Holds.upd (S1 := S1) (c' := .map r es') hev hm hh hl hrest (fun b hb hg => hdis b ((hS1 b).2 hg) hb) hdis ⟨hS1, ents', clock', setB_at hlt _, hents.ev hev hm, hnd, hcl⟩).iff hS
/-- A map's entry is laid. -/
theorem a_mput (hT : TOk P L) {t kt et : TypeId} {κ' : Type} [DecidableEq κ'] {kv : κ' → Value} {x y u : Operand} {r r' h0 : Nat} {hk0 : Nat} {es : List (Value × AV)} (l : List (κ' × AV)) (k : κ') (h : machA L n fuel s f σ [] = ⟨.op m κ all dec o true rest, f', σ', ob⟩) (hob : ob.map (·.1) = ob.map (·.2)) (ho : o.op = .mapUpdate t x y u) (ht : mapT P t kt et = true) (hko : KeyOk P kt kv)
    (hx : evA n f' x = .v (.map (some r)) h0) (hl : look σ' h0 = some (.map r' es)) (hrr : r = r') (hes : es = mapE kv l) (hy : evN n f' y = .v (kv k) hk0)
    (hk : DenA c P n Q (.ops (m.hap true) κ all dec rest) (putA f' o.dst (.v undef 0)) (upd σ' h0 (.map r' (mapE kv (aput l k (evA n f' u)))))) : DenA c P n Q s f σ := by
  subst hrr
  subst hes
  refine a_eff hT (fun a σ1 => a = .v undef 0 ∧ σ1 = upd σ' h0 (.map r (mapE kv (aput l k (evA n f' u))))) h hob (fun Y Su w fc hd hY hh he => ?_) (fun a σ1 ⟨ha, hs⟩ => by subst ha; subst hs; exact hk)
  obtain ⟨S1, S2, hS, hdis, hc, hrest⟩ := hh.take hl
  obtain ⟨hS1, ents, clock, hheap, hents, hnd, hcl⟩ := hc
  have h1 := he.eval (n := n) x
  have h2 := he.evalN (n := n) y
  have h3 := he.eval (n := n) u
  rw [hx] at h1
  rw [hy] at h2
  have hfnd := hko.fnd w k (l.map (·.1)) ents.toList (ents_keys hents)
  have hidx := aget_idx l k
  cases hi' : aidx (l.map (·.1)) k with
  | none =>
    rw [hi'] at hidx hfnd
    have hrun : (execOp (ev n fc) o).run P w = .ok .skip (setB w r (.map (ents.push { key := kv k, val := ev n fc u, born := clock }) (clock + 1))) := by
      unfold execOp
      simp only [ho, Sem.run_bind, Sem.run_pure, rep_v h1, rep_v h2, Instr.mapUpdate, run_underlying (mapT_spec ht), Result.andThen_ok, run_get hheap (by simp), hko.chk, hfnd, Option.bind_none, run_set hheap (by simp)]
    rw [hrun, hidx.2.1]
    refine map_turned hh hl hS hdis hS1 hheap hrest ?_ ?_ ?_
    · unfold mapE at hents ⊢
      rw [List.map_append, Array.toList_push]
      exact ents_app hents ⟨rfl, h3⟩
    · rw [Array.toList_push, List.map_append, List.nodup_append]
      refine ⟨hnd, by simp, ?_⟩
      intro a ha b hb e
      simp at hb
      obtain ⟨e', he', rfl⟩ := List.mem_map.1 ha
      have := hcl e' he'
      omega
    · intro e he'
      rw [Array.toList_push, List.mem_append] at he'
      rcases he' with he' | he'
      · have := hcl e he'; omega
      · simp at he'; subst he'; simp
  | some j =>
    rw [hi'] at hidx hfnd
    obtain ⟨⟨v, hv, hg⟩, hput, _⟩ := hidx
    obtain ⟨e, he', hke, hrep⟩ := ents_get hents j (kv k, v) (by unfold mapE; rw [List.getElem?_map, hv]; rfl)
    have hje : ents[j]? = some e := by rw [← Array.getElem?_toList]; exact he'
    have hrun : (execOp (ev n fc) o).run P w = .ok .skip (setB w r (.map (ents.modify j fun e => { e with key := kv k, val := ev n fc u }) clock)) := by
      unfold execOp
      simp only [ho, Sem.run_bind, Sem.run_pure, rep_v h1, rep_v h2, Instr.mapUpdate, run_underlying (mapT_spec ht), Result.andThen_ok, run_get hheap (by simp), hko.chk, hfnd, Option.bind_some, he', Option.map_some, hje, Option.getD_some, Instr.keyThatStays, hke, hko.bits, if_true, run_set hheap (by simp)]
    rw [hrun, hput]
    have hmod : (ents.modify j fun e => { e with key := kv k, val := ev n fc u }).toList = ents.toList.set j { e with key := kv k, val := ev n fc u } := by
      apply List.ext_getElem?
      intro i
      rw [Array.getElem?_toList, Array.getElem?_modify, List.getElem?_set]
      by_cases hij : j = i
      · subst hij
        obtain ⟨h5, h6⟩ := Array.getElem?_eq_some_iff.1 hje
        simp [h5, h6]
      · simp [hij]
    have hborn : ∀ e' ∈ ents.toList.set j { e with key := kv k, val := ev n fc u }, ∃ e'' ∈ ents.toList, e''.born = e'.born := fun e' h' => by
      rcases List.mem_or_eq_of_mem_set h' with h' | rfl
      · exact ⟨e', h', rfl⟩
      · exact ⟨e, List.mem_of_getElem? he', rfl⟩
    refine map_turned hh hl hS hdis hS1 hheap hrest ?_ ?_ ?_
    · rw [hmod]
      unfold mapE at hents ⊢
      rw [List.map_set]
      exact ents_set j hents ⟨rfl, h3⟩
    · rw [hmod, List.map_set]
      have : (ents.toList.map (·.born)).set j e.born = ents.toList.map (·.born) := by
        apply List.ext_getElem?
        intro i
        rw [List.getElem?_set]
        split
        · rename_i h; subst h; rw [List.getElem?_map, he']; have := (List.getElem?_eq_some_iff.1 he').1; rw [List.length_map, if_pos this]; rfl
        · rfl
      rw [this]
      exact hnd
    · intro e' h'
      rw [hmod] at h'
      obtain ⟨e'', h1, h2⟩ := hborn e' h'
      rw [← h2]
      exact hcl e'' h1
/-- An entry goes. -/
theorem a_mdel (hT : TOk P L) {t kt et : TypeId} {κ' : Type} [DecidableEq κ'] {kv : κ' → Value} {x y : Operand} {ts : Array TypeId} {r r' h0 : Nat} {hk0 : Nat} {es : List (Value × AV)} (l : List (κ' × AV)) (k : κ') (h : machA L n fuel s f σ [] = ⟨.op m κ all dec o true rest, f', σ', ob⟩) (hob : ob.map (·.1) = ob.map (·.2)) (ho : o.op = .call ⟨.builtin .delete, #[x, y], ts⟩) (hts : ts[0]? = some t) (ht : mapT P t kt et = true) (hko : KeyOk P kt kv)
    (hx : evA n f' x = .v (.map (some r)) h0) (hl : look σ' h0 = some (.map r' es)) (hrr : r = r') (hes : es = mapE kv l) (hy : evN n f' y = .v (kv k) hk0)
    (hk : DenA c P n Q (.ops (m.hap true) κ all dec rest) (putA f' o.dst (.v (.tuple #[]) 0)) (upd σ' h0 (.map r' (mapE kv (adel l k))))) : DenA c P n Q s f σ := by
  subst hrr
  subst hes
  refine a_eff hT (fun a σ1 => a = .v (.tuple #[]) 0 ∧ σ1 = upd σ' h0 (.map r (mapE kv (adel l k)))) h hob (fun Y Su w fc hd hY hh he => ?_) (fun a σ1 ⟨ha, hs⟩ => by subst ha; subst hs; exact hk)
  obtain ⟨S1, S2, hS, hdis, hc, hrest⟩ := hh.take hl
  obtain ⟨hS1, ents, clock, hheap, hents, hnd, hcl⟩ := hc
  have h1 := he.eval (n := n) x
  have h2 := he.evalN (n := n) y
  rw [hx] at h1
  rw [hy] at h2
  have hfnd := hko.fnd w k (l.map (·.1)) ents.toList (ents_keys hents)
  have hidx := aget_idx l k
  cases hi' : aidx (l.map (·.1)) k with
  | none =>
    rw [hi'] at hidx hfnd
    have hrun : (execOp (ev n fc) o).run P w = .ok (.value (.tuple #[])) (setB w r (.map ents clock)) := by
      unfold execOp
      simp only [ho, resolve, invoke, builtin, Sem.run_bind, Sem.run_pure, Result.andThen_ok, List.map_toArray, List.map_cons, List.map_nil, Builtin.delete_, hts, rep_v h1, rep_v h2, run_underlying (mapT_spec ht), run_get hheap (by simp), hko.chk, hfnd, Option.bind_none, run_set hheap (by simp)]
      simp [run_underlying (mapT_spec ht), run_get hheap, hko.chk, hfnd, run_set hheap, rep_v h1, rep_v h2]
    rw [hrun, hidx.2.2]
    exact map_turned hh hl hS hdis hS1 hheap hrest hents hnd hcl
  | some j =>
    rw [hi'] at hidx hfnd
    obtain ⟨⟨v, hv, hg⟩, _, hdel⟩ := hidx
    obtain ⟨e, he', hke, hrep⟩ := ents_get hents j (kv k, v) (by unfold mapE; rw [List.getElem?_map, hv]; rfl)
    have hrun : (execOp (ev n fc) o).run P w = .ok (.value (.tuple #[])) (setB w r (.map (ents.eraseIdxIfInBounds j) clock)) := by
      unfold execOp
      simp only [ho, resolve, invoke, builtin, Sem.run_bind, Sem.run_pure, Result.andThen_ok, List.map_toArray, List.map_cons, List.map_nil, Builtin.delete_, hts, rep_v h1, rep_v h2, run_underlying (mapT_spec ht), run_get hheap (by simp), hko.chk, hfnd, Option.bind_some, he', Option.map_some, run_set hheap (by simp)]
      have hje : ents[j]? = some e := by rw [← Array.getElem?_toList]; exact he'
      simp [run_underlying (mapT_spec ht), run_get hheap, hko.chk, hfnd, hje, run_set hheap, rep_v h1, rep_v h2]
    have hers : (ents.eraseIdxIfInBounds j).toList = ents.toList.eraseIdx j := by
      unfold Array.eraseIdxIfInBounds
      have := (List.getElem?_eq_some_iff.1 he').1
      rw [dif_pos (by simpa using this)]
      simp
    rw [hrun, hdel]
    refine map_turned hh hl hS hdis hS1 hheap hrest ?_ ?_ ?_
    · rw [hers]
      unfold mapE at hents ⊢
      rw [map_erase]
      exact ents_erase j hents
    · rw [hers, map_erase]
      exact hnd.sublist (List.eraseIdx_sublist _ _)
    · intro e' h'
      rw [hers] at h'
      exact hcl e' ((List.eraseIdx_sublist _ _).subset h')
end
end Go.Proofs.YtjcolfogmmjaoaaGreatDoor.A
end

section
/- From a row's reading of the arguments to frozen data; a law's frame. It holds of any program. -/
set_option linter.unusedVariables false
set_option linter.unusedSimpArgs false
namespace Go.Proofs.YtjcolfogmmjaoaaGreatDoor.A
open V

/-- A list in parts of k. -/
def parts (k : Nat) (l : List Dat) : List (List Dat) := if h : k = 0 ∨ l = [] then [] else l.take k :: parts k (l.drop k)
termination_by l.length
decreasing_by
  have : 0 < l.length := by cases l with | nil => exact absurd (.inr rfl) h | cons x l => simp
  simp
  omega
mutual
def cv : V.Dat → Dat
  | .v u => .v u
  | .sl k ds => .sl k (parts k (cvs ds))
  | .ifc t ag ds => .ifc t ag (cvs ds)
def cvs : List V.Dat → List Dat
  | [] => []
  | d :: ds => cv d :: cvs ds
end
theorem cvs_len : ∀ ds : List V.Dat, (cvs ds).length = ds.length
  | [] => rfl
  | d :: ds => by simp [cvs, cvs_len ds]
theorem cvs_app : ∀ a b : List V.Dat, cvs (a ++ b) = cvs a ++ cvs b
  | [], b => rfl
  | x :: a, b => by simp [cvs, cvs_app a b]
theorem parts_nil (k : Nat) : parts k [] = [] := by unfold parts; simp
theorem parts_cons {k : Nat} (hk : 0 < k) (e l : List Dat) (he : e.length = k) : parts k (e ++ l) = e :: parts k l := by
  rw [parts]
  have hne : ¬ (k = 0 ∨ e ++ l = []) := by
    rintro (h | h)
    · omega
    · simp at h; rw [h.1] at he; simp at he; omega
  rw [dif_neg hne, List.take_append_of_le_length (by omega), List.take_of_length_le (by omega), List.drop_append, List.drop_eq_nil_of_le (by omega), he]
  simp
theorem parts_ok {k : Nat} (hk : 0 < k) : ∀ (m : Nat) (l : List Dat), l.length = m * k → (parts k l).length = m ∧ (∀ e ∈ parts k l, e.length = k) ∧ (parts k l).flatten = l
  | 0, l, h => by
    have : l = [] := List.eq_nil_of_length_eq_zero (by simpa using h)
    subst this
    rw [parts_nil]
    simp
  | m + 1, l, h => by
    have hle : k ≤ l.length := by rw [h, Nat.succ_mul]; omega
    obtain ⟨h1, h2, h3⟩ := parts_ok hk m (l.drop k) (by simp [h, Nat.succ_mul])
    have e : l = l.take k ++ l.drop k := (List.take_append_drop k l).symm
    rw [e, parts_cons hk _ _ (by simp; omega)]
    refine ⟨by simp [h1], ?_, by simp [h3]⟩
    intro x hx
    rcases List.mem_cons.1 hx with rfl | hx
    · simp; omega
    · exact h2 x hx
mutual
/-- Slices' elements have cells. -/
def pos : V.Dat → Prop
  | .v _ => True
  | .sl k ds => 0 < k ∧ poss ds
  | .ifc _ _ ds => poss ds
def poss : List V.Dat → Prop
  | [] => True
  | d :: ds => pos d ∧ poss ds
end
mutual
theorem cv_rep {M : Nat → Prop} {w : World} : ∀ {d : V.Dat} {x : Value}, pos d → ARep M w d x → DRep M w (cv d) x
  | .v u, x, hp, h => by unfold ARep at h; unfold cv DRep; exact h
  | .sl k ds, x, hp, h => by
    unfold pos at hp
    unfold ARep at h
    obtain ⟨A, m, c, rfl, hl, hc, hr⟩ := h
    obtain ⟨h1, h2, h3⟩ := parts_ok hp.1 m (cvs ds) (by rw [cvs_len, hl])
    unfold cv DRep
    refine ⟨A, c, by rw [h1], by rw [h1]; exact hc, h2, fun hne => ?_⟩
    have hne' : ds ≠ [] := by intro e; subst e; apply hne; exact parts_nil k
    obtain ⟨ad, ha, hM, hL⟩ := hr hne'
    have hlt : ad.block < w.heap.size := by
      cases ds with
      | nil => exact absurd rfl hne'
      | cons d ds =>
        unfold V.LRep at hL
        obtain ⟨⟨y, hy, _⟩, _⟩ := hL
        have := World.block_lt_of_cell? w _ hy
        rwa [add_block] at this
    exact ⟨ad, ha, hM, hlt, SRep.flat.2 (by rw [h3]; exact cvs_lrep hp.2 hL)⟩
  | .ifc t ag ds, x, hp, h => by
    unfold pos at hp
    unfold ARep at h
    unfold cv DRep
    obtain ⟨u, e, h1, h2, h3⟩ := h
    exact ⟨u, e, h1, h2, cvs_vrep hp h3⟩
theorem cvs_lrep {M : Nat → Prop} {w : World} : ∀ {ds : List V.Dat} {ad : Addr} {i : Nat}, poss ds → V.LRep M w ds ad i → LRep M w (cvs ds) ad i
  | [], ad, i, hp, h => by unfold cvs LRep; trivial
  | d :: ds, ad, i, hp, h => by
    unfold poss at hp
    unfold V.LRep at h
    unfold cvs LRep
    obtain ⟨⟨x, hx, hd⟩, h2⟩ := h
    exact ⟨⟨x, hx, cv_rep hp.1 hd⟩, cvs_lrep hp.2 h2⟩
theorem cvs_vrep {M : Nat → Prop} {w : World} : ∀ {ds : List V.Dat} {xs : List Value}, poss ds → V.VRep M w ds xs → VRep M w (cvs ds) xs
  | [], xs, hp, h => by unfold V.VRep at h; unfold cvs VRep; exact h
  | d :: ds, xs, hp, h => by
    unfold poss at hp
    unfold V.VRep at h
    unfold cvs VRep
    obtain ⟨x, r, e, hx, h2⟩ := h
    exact ⟨x, r, e, cv_rep hp.1 hx, cvs_vrep hp.2 h2⟩
end
/-- What has a type reads as data of its own kind: d is g x. -/
theorem cv_many {α : Type} {es : List Ty} {d : V.Dat} (h : HasTy (.sl es) d) (hes : es ≠ []) (g : α → List Dat) (ok : α → Prop) (h1 : ∀ ds, HasTys es ds → ∃ x, cvs ds = g x ∧ poss ds ∧ ok x) :
    ∃ l : List α, cv d = .sl es.length (l.map g) ∧ pos d ∧ l.length ≤ reachBytes ∧ ∀ x ∈ l, ok x := by
  unfold HasTy at h
  have hk : 0 < es.length := List.length_pos_iff.2 hes
  obtain ⟨xs, hd, hl, hall⟩ := h
  have key : ∀ xs : List (List V.Dat), AllTy es xs → ∃ l : List α, parts es.length (cvs xs.flatten) = l.map g ∧ poss xs.flatten ∧ l.length = xs.length ∧ ∀ x ∈ l, ok x := by
    intro xs
    induction xs with
    | nil => intro _; exact ⟨[], by simp [cvs, parts_nil], trivial, rfl, by simp⟩
    | cons e xs ih =>
      intro ha
      unfold AllTy at ha
      obtain ⟨l, k1, k2, k3, k4⟩ := ih ha.2
      obtain ⟨x, j1, j2, j3⟩ := h1 e ha.1
      have hlen : (cvs e).length = es.length := by rw [cvs_len]; exact ha.1.len
      have poss_app : ∀ a b : List V.Dat, poss a → poss b → poss (a ++ b) := by
        intro a
        induction a with
        | nil => intro b _ h; exact h
        | cons x a ih => intro b h1 h2; unfold poss at h1; rw [List.cons_append]; unfold poss; exact ⟨h1.1, ih b h1.2 h2⟩
      refine ⟨x :: l, ?_, ?_, by simp [k3], ?_⟩
      · rw [List.flatten_cons, cvs_app, parts_cons hk _ _ hlen, k1, List.map_cons, j1]
      · rw [List.flatten_cons]; exact poss_app _ _ j2 k2
      · intro y hy
        rcases List.mem_cons.1 hy with rfl | hy
        · exact j3
        · exact k4 y hy
  obtain ⟨l, k1, k2, k3, k4⟩ := key xs hall
  subst hd
  refine ⟨l, by unfold cv; rw [k1], by unfold pos; exact ⟨hk, k2⟩, by omega, k4⟩
theorem cv_bytes {d : V.Dat} (h : HasTy (.sl [.int .u8]) d) : ∃ l : List UInt8, cv d = bytesD l ∧ pos d ∧ l.length ≤ reachBytes := by
  obtain ⟨l, h1, h2, h3, _⟩ := cv_many h (by simp) eB (fun _ => True) fun ds hd => by
    obtain ⟨d, r, rfl, h1, h2⟩ := hd.cons
    obtain ⟨b, rfl⟩ := h1.u8
    rw [h2.nil]
    exact ⟨b, rfl, ⟨trivial, trivial⟩, trivial⟩
  exact ⟨l, h1, h2, h3⟩
abbrev ArgIs (P : Program) (w : World) (ty : List Ty) (t : TypeId) (v : Value) : Prop := ∃ ds, HasTys ty ds ∧ V.VRep no w ds v.cells.toList ∧ ArgForm P t v
/-- A slice that comes in. -/
theorem argA_many {α : Type} {P : Program} {w : World} {t : TypeId} {v : Value} {es : List Ty} (h : ArgIs P w [.sl es] t v) (hs : isStruct P t = false) (hes : es ≠ []) (g : α → List Dat) (ok : α → Prop) (h1 : ∀ ds, HasTys es ds → ∃ x, cvs ds = g x ∧ poss ds ∧ ok x) :
    ∃ l : List α, Rep no w (.d (.sl es.length (l.map g))) v ∧ l.length ≤ reachBytes ∧ ∀ x ∈ l, ok x := by
  obtain ⟨d, h2, h3⟩ := arg_one h hs
  obtain ⟨l, k1, k2, k3, k4⟩ := cv_many h2 hes g ok h1
  refine ⟨l, ?_, k3, k4⟩
  unfold Rep
  rw [← k1]
  exact cv_rep k2 h3
theorem argA_bytes {P : Program} {w : World} {t : TypeId} {v : Value} (h : ArgIs P w [.sl [.int .u8]] t v) (hs : isStruct P t = false) : ∃ l : List UInt8, Rep no w (.d (bytesD l)) v ∧ l.length ≤ reachBytes := by
  obtain ⟨d, h2, h3⟩ := arg_one h hs
  obtain ⟨l, k1, k2, k3⟩ := cv_bytes h2
  refine ⟨l, ?_, k3⟩
  unfold Rep
  rw [← k1]
  exact cv_rep k2 h3
/-- A struct that comes in: its cells. -/
theorem argA_struct {P : Program} {w : World} {t : TypeId} {v : Value} {tys : List Ty} {g : List Dat} (h : ArgIs P w tys t v) (hs : isStruct P t = true) (h1 : ∀ ds, HasTys tys ds → V.VRep no w ds v.cells.toList → cvs ds = g ∧ poss ds) : Rep no w (.agg (g.map .d)) v := by
  obtain ⟨ds, h2, h3, h4⟩ := h
  obtain ⟨rfl, hp⟩ := h1 ds h2 h3
  have := cvs_vrep hp h3
  rw [h4.1 hs]
  unfold Rep
  exact ⟨_, by simp, Reps.ofV this, this.one⟩
/-- A law: true, whatever comes in; nothing old has turned. -/
theorem law_of {P : Program} {f : FuncId} {W : World} {args : Array Value} {as : List AV} (spec : FSpec P f as [] fun a _ => a = .v (.bool true) 0) (hr : Reps no W as args.toList) : Calls P f args W (LawR W) := by
  have := spec.out no no W args.toList (fun b h => h.elim) (fun b h => h.elim) (fun _ h => h) (hr.of fun b _ h => h.elim id id)
  simp only [Array.toArray_toList] at this
  refine this.mono fun e w' ⟨v, a, cs, S', he, ha, hrep, _, hev, _⟩ => ?_
  subst ha
  rw [he, rep_v hrep]
  exact ⟨rfl, hev⟩

end Go.Proofs.YtjcolfogmmjaoaaGreatDoor.A
end

section
/- Memory of one's own, told otherwise: packed, unpacked, one part taken out of many. It holds of any program. -/
set_option linter.unusedVariables false
set_option linter.unusedSimpArgs false
namespace Go.Proofs.YtjcolfogmmjaoaaGreatDoor.A
open V

theorem HoldsL.ev {M M' N : Nat → Prop} {w w' : World} (he : Ev N w w') (hm : ∀ b, b < w.heap.size → N b ∨ M' b → M b) {cs : List Chunk} {S : Nat → Prop} (h : HoldsL M w cs S) (hN : ∀ b, S b → ¬ N b) : HoldsL M' w' cs S := Holds.ev he hm h hN
theorem HoldsL.append {M : Nat → Prop} {w : World} {a b : List Chunk} {S T U : Nat → Prop} (h1 : HoldsL M w a S) (h2 : HoldsL M w b T) (hd : ∀ b, S b → ¬ T b) (hU : ∀ b, U b ↔ S b ∨ T b) : HoldsL M w (a ++ b) U := by
  unfold HoldsL
  rw [List.map_append]
  exact Holds.append h1 h2 hd hU
theorem HoldsL.parts {M : Nat → Prop} {w : World} {a b : List Chunk} {U : Nat → Prop} (h : HoldsL M w (a ++ b) U) : ∃ S T : Nat → Prop, HoldsL M w a S ∧ HoldsL M w b T ∧ (∀ b, S b → ¬ T b) ∧ ∀ b, U b ↔ S b ∨ T b := by
  unfold HoldsL at h
  rw [List.map_append] at h
  exact Holds.parts h
theorem HoldsL.perm {M : Nat → Prop} {w : World} {a b : List Chunk} (hp : a.Perm b) : ∀ {S : Nat → Prop}, HoldsL M w a S → HoldsL M w b S := by
  induction hp with
  | nil => exact fun h => h
  | cons x _ ih => rintro S ⟨S1, S2, h1, h2, h3, h4⟩; exact ⟨S1, S2, h1, h2, h3, ih h4⟩
  | swap x y l =>
    rintro S ⟨S1, S2, h1, h2, h3, T1, T2, k1, k2, k3, k4⟩
    refine ⟨T1, fun b => S1 b ∨ T2 b, fun b => ?_, fun b hb h => h.elim (fun h => h2 b h ((k1 b).2 (.inl hb))) (k2 b hb), k3, S1, T2, fun b => Iff.rfl, fun b hb h => h2 b hb ((k1 b).2 (.inr h)), h3, k4⟩
    rw [h1 b, k1 b]
    constructor
    · rintro (h | h | h)
      · exact .inr (.inl h)
      · exact .inl h
      · exact .inr (.inr h)
    · rintro (h | h | h)
      · exact .inr (.inl h)
      · exact .inl h
      · exact .inr (.inr h)
  | trans _ _ ih1 ih2 => exact fun h => ih2 (ih1 h)

/-- Chunks, as one. -/
def listA (cs : List Chunk) : Asrt where
  h := fun M S w => HoldsL M w cs S
  ev := fun h he hN hm => HoldsL.ev he hm h hN
  lt := fun h => Holds.lt h
/-- Some such chunks. -/
def exA {X : Type} (φ : X → Prop) (f : X → List Chunk) : Asrt where
  h := fun M S w => ∃ x, φ x ∧ HoldsL M w (f x) S
  ev := fun ⟨x, hx, h⟩ he hN hm => ⟨x, hx, HoldsL.ev he hm h hN⟩
  lt := fun ⟨x, _, h⟩ => Holds.lt h
/-- Where these chunks are, those are. -/
def Ent (cs cs' : List Chunk) : Prop := ∀ M w S, HoldsL M w cs S → HoldsL M w cs' S
def EntX {X : Type} (cs : List Chunk) (φ : X → Prop) (f : X → List Chunk) : Prop := ∀ M w S, HoldsL M w cs S → ∃ x, φ x ∧ HoldsL M w (f x) S
theorem Ent.refl (cs : List Chunk) : Ent cs cs := fun _ _ _ h => h
theorem Ent.trans {a b c : List Chunk} (h1 : Ent a b) (h2 : Ent b c) : Ent a c := fun M w S h => h2 M w S (h1 M w S h)
theorem Ent.perm {a b : List Chunk} (h : a.Perm b) : Ent a b := fun _ _ _ k => k.perm h
theorem Ent.fits {a b : List Chunk} (h : CFits a b) : Ent a b := fun _ _ _ k => h.holds k
theorem Ent.cons (c : Chunk) {a b : List Chunk} (h : Ent a b) : Ent (c :: a) (c :: b) := fun M w S ⟨S1, S2, h1, h2, h3, h4⟩ => ⟨S1, S2, h1, h2, h3, h M w S2 h4⟩
theorem holds_one {M : Nat → Prop} {w : World} {c : Chunk} {S : Nat → Prop} : HoldsL M w [c] S ↔ CRep M w c S := by
  constructor
  · rintro ⟨S1, S2, h1, h2, h3, h4⟩
    exact h3.iff fun b => (h1 b).trans ⟨fun h => h.elim id fun h => absurd h (h4 b), .inl⟩
  · intro h
    exact ⟨S, no, fun b => ⟨.inl, fun h => h.elim id fun h => h.elim⟩, fun _ _ h => h, h, fun _ h => h⟩
theorem Ent.app {a a' b b' : List Chunk} (h1 : Ent a a') (h2 : Ent b b') : Ent (a ++ b) (a' ++ b') := fun M w S h => by
  obtain ⟨S1, S2, k1, k2, k3, k4⟩ := h.parts
  exact (h1 _ _ _ k1).append (h2 _ _ _ k2) k3 k4
theorem ent_open (cs : List Chunk) : Ent [.ext (listA cs)] cs := fun M w S h => holds_one.1 h
theorem ent_shut (cs : List Chunk) : Ent cs [.ext (listA cs)] := fun M w S h => holds_one.2 h
theorem ent_pack {X : Type} {φ : X → Prop} {f : X → List Chunk} (x : X) (hx : φ x) : Ent (f x) [.ext (exA φ f)] := fun M w S h => holds_one.2 ⟨x, hx, h⟩
theorem ent_unpack {X : Type} (φ : X → Prop) (f : X → List Chunk) : EntX [.ext (exA φ f)] φ f := fun M w S h => holds_one.1 h
/-- A part is taken out of many; the rest stays together. -/
theorem ent_focus (a c b : List Chunk) : Ent [.ext (listA (a ++ (c ++ b)))] (c ++ [.ext (listA (a ++ b))]) :=
  (ent_open _).trans ((Ent.perm ((List.perm_append_comm_assoc a c b))).trans (Ent.app (Ent.refl c) (ent_shut _)))
theorem ent_unfocus (a c b : List Chunk) : Ent (c ++ [.ext (listA (a ++ b))]) [.ext (listA (a ++ (c ++ b)))] :=
  (Ent.app (Ent.refl c) (ent_open _)).trans ((Ent.perm (List.perm_append_comm_assoc a c b).symm).trans (ent_shut _))

section
variable {P : Program} {n : Nat} {Q : Exit → Act → World → Prop} {c : Ctx} {s : AMS} {f : AEnv} {σ : Store}
/-- Memory told otherwise: of keys ks, then of ks'. -/
theorem a_ent (ks ks' : List Nat) {cs : List Chunk} {σr : Store} (cs' : List Chunk) (hst : s.still = true) (ht : takes σ ks = some (cs, σr)) (he : Ent cs cs') (hk : rekK ks' cs' σr fun σ1 => DenA c P n Q s f σ1) : DenA c P n Q s f σ := by
  rw [rekK_eq] at hk
  refine a_ghost hst (fun Y S w fc hdY hh henv => ?_) hk
  obtain ⟨S1, S2, h1, h2, hS, hdis⟩ := hh.takes ht
  exact ⟨S, ((he _ _ _ h1).zip ks').append h2 hdis hS, henv, fun b h => h⟩
theorem a_entX {X : Type} {φ : X → Prop} {g : X → List Chunk} (ks ks' : List Nat) {cs : List Chunk} {σr : Store} (hst : s.still = true) (ht : takes σ ks = some (cs, σr)) (he : EntX cs φ g) (hk : ∀ x, φ x → rekK ks' (g x) σr fun σ1 => DenA c P n Q s f σ1) : DenA c P n Q s f σ := by
  refine ⟨fun hok w S fc Sg hs hh => ?_⟩
  have hp : s.mode = .plain ∨ s.mode = .rest ∨ ∃ ex, s.mode = .last ex := by
    cases s with
    | ops m κ all dec rest => cases m <;> first | exact .inl rfl | exact .inr (.inl rfl) | exact .inr (.inr ⟨_, rfl⟩) | cases hst
    | _ => exact .inl rfl
  have hh0 : Holds (or2 S c.X) w σ S := by rcases hp with e | e | ⟨ex, e⟩ <;> (rw [e] at hh; exact hh)
  obtain ⟨S1, S2, h1, h2, hS, hdis⟩ := hh0.takes ht
  obtain ⟨x, hx, hx1⟩ := he _ _ _ h1
  have := hk x hx
  rw [rekK_eq] at this
  refine this.out hok w S fc Sg hs ?_
  rcases hp with e | e | ⟨ex, e⟩ <;> (rw [e]; exact (hx1.zip ks').append h2 hdis hS)
/-- .. an end of what is one's own: it is dropped. -/
theorem a_drop (ks : List Nat) {cs : List Chunk} {σr : Store} (hst : s.still = true) (ht : takes σ ks = some (cs, σr)) (hk : DenA c P n Q s f σr) : DenA c P n Q s f σ := by
  refine a_ghost hst (fun Y S w fc hdY hh henv => ?_) hk
  obtain ⟨S1, S2, h1, h2, hS, hdis⟩ := hh.takes ht
  have hM : ∀ b, or2 S2 Y b → or2 S Y b := fun b h => h.elim (fun h => .inl ((hS b).2 (.inr h))) .inr
  exact ⟨S2, h2.of fun b _ h => hM b h, henv.of fun b _ h => hM b h, fun b h => (hS b).2 (.inr h)⟩
end
end Go.Proofs.YtjcolfogmmjaoaaGreatDoor.A
end

section
/- A map is gone through. It holds of any program. -/
set_option linter.unusedVariables false
set_option linter.unusedSimpArgs false
namespace Go.Proofs.YtjcolfogmmjaoaaGreatDoor.A
open V

/-- A map r and one that goes through it (it): of each entry, whether it has come; cur: the one that came last, if it is still there. -/
def iterA (r it : Nat) (st : List (Bool × (Value × AV))) (cur : Option (Value × AV)) : Asrt where
  h := fun M S w => (∀ b, S b ↔ b = r ∨ b = it) ∧ r ≠ it ∧ ∃ (ents : Array MapEntry) (clock : Nat) (seen : Array Nat), w.heap[r]? = some (.map ents clock) ∧ w.heap[it]? = some (.mapIter (some r) clock seen clock) ∧
    EntsRep M w (st.map (·.2)) ents.toList ∧ (ents.toList.map (·.born)).Nodup ∧ (∀ e ∈ ents.toList, e.born < clock) ∧ ents.toList.map (fun e => seen.contains e.born) = st.map (·.1) ∧
    (∀ p, cur = some p → ∃ b e, seen.back? = some b ∧ ents.find? (·.born == b) = some e ∧ EntRep M w p e)
  ev := fun {M S w M' N w'} h he hN hm => by
    obtain ⟨hS, hne, ents, clock, seen, h1, h2, h3, h4, h5, h6, h7⟩ := h
    refine ⟨hS, hne, ents, clock, seen, ?_, ?_, h3.ev he hm, h4, h5, h6, fun p hp => ?_⟩
    · rw [he.block r (Array.getElem?_eq_some_iff.1 h1).1 (hN r ((hS r).2 (.inl rfl)))]; exact h1
    · rw [he.block it (Array.getElem?_eq_some_iff.1 h2).1 (hN it ((hS it).2 (.inr rfl)))]; exact h2
    · obtain ⟨b, e, k1, k2, k3⟩ := h7 p hp
      exact ⟨b, e, k1, k2, k3.1, k3.2.ev he hm⟩
  lt := fun {M S w} h b hb => by
    obtain ⟨hS, hne, ents, clock, seen, h1, h2, _⟩ := h
    rcases (hS b).1 hb with rfl | rfl
    · exact (Array.getElem?_eq_some_iff.1 h1).1
    · exact (Array.getElem?_eq_some_iff.1 h2).1
/-- One that goes through a map that there isn't. -/
def iterN (it : Nat) : Asrt where
  h := fun M S w => (∀ b, S b ↔ b = it) ∧ w.heap[it]? = some (.mapIter none 0 #[] 0)
  ev := fun {M S w M' N w'} h he hN hm => by
    obtain ⟨hS, h1⟩ := h
    exact ⟨hS, by rw [he.block it (Array.getElem?_eq_some_iff.1 h1).1 (hN it ((hS it).2 rfl))]; exact h1⟩
  lt := fun {M S w} h b hb => by
    obtain ⟨hS, h1⟩ := h
    rw [(hS b).1 hb]
    exact (Array.getElem?_eq_some_iff.1 h1).1

theorem nodup_at {l : List MapEntry} (h : (l.map (·.born)).Nodup) {i j : Nat} (hi : i < l.length) (hj : j < l.length) (e : l[i].born = l[j].born) : i = j := by
  have h2 := List.pairwise_iff_getElem.1 h
  rcases Nat.lt_trichotomy i j with hlt | rfl | hlt
  · exact (h2 i j (by simpa using hi) (by simpa using hj) hlt (by rw [List.getElem_map, List.getElem_map]; exact e)).elim
  · rfl
  · exact (h2 j i (by simpa using hj) (by simpa using hi) hlt (by rw [List.getElem_map, List.getElem_map]; exact e.symm)).elim
section
variable {P : Program} {L : List TD} {Z : List (List Value)} {n : Nat} {Q : Exit → Act → World → Prop} {c : Ctx}
variable {s : AMS} {f f' : AEnv} {σ σ' : Store} {ob : Obs} {κ : List Kt} {all : Array Oper} {dec : List Nat} {o : Oper} {al : Bool} {rest : List (Oper × Bool)} {m : Mode}

/-- range m. -/
theorem a_range (hT : TOk P L) {t kt et : TypeId} {x : Operand} {r r' h0 : Nat} {es : List (Value × AV)} (h : machA L n fuel s f σ [] = ⟨.op m κ all dec o true rest, f', σ', ob⟩) (hob : ob.map (·.1) = ob.map (·.2)) (ho : o.op = .range t x) (ht : mapT P t kt et = true)
    (hx : evA n f' x = .v (.map (some r)) h0) (hl : look σ' h0 = some (.map r' es)) (hrr : r = r')
    (hk : ∀ it, DenA c P n Q (.ops (m.hap true) κ all dec rest) (putA f' o.dst (.v (.pointer (some ⟨it, 0, none⟩)) h0)) ((h0, .ext (iterA r' it (es.map fun p => (false, p)) none)) :: del σ' h0)) : DenA c P n Q s f σ := by
  subst hrr
  refine a_eff hT (fun a σ1 => ∃ it, a = .v (.pointer (some ⟨it, 0, none⟩)) h0 ∧ σ1 = (h0, .ext (iterA r it (es.map fun p => (false, p)) none)) :: del σ' h0) h hob (fun Y Su w fc hd hY hh he => ?_) (fun a σ1 ⟨it, ha, hs⟩ => by subst ha; subst hs; exact hk it)
  obtain ⟨S1, S2, hS, hdis, hc, hrest⟩ := hh.take hl
  obtain ⟨hS1, ents, clock, hheap, hents, hnd, hcl⟩ := hc
  have h1 := he.eval (n := n) x
  rw [hx] at h1
  have hrun : (execOp (ev n fc) o).run P w = .ok (.value (.pointer (some ⟨w.heap.size, 0, none⟩))) (w.alloc (.mapIter (some r) clock #[] clock)) := by
    unfold execOp
    simp only [ho, Sem.run_bind, Sem.run_pure, rep_v h1, Instr.range, run_underlying (mapT_spec ht), Result.andThen_ok, run_get hheap (by simp)]
    simp
  rw [hrun]
  have hlt := (Array.getElem?_eq_some_iff.1 hheap).1
  have hev : Ev no w (w.alloc (.mapIter (some r) clock #[] clock)) := Ev.alloc w _
  have hnew : ∀ b, or2 (or2 S1 (at1 w.heap.size)) S2 b → Su b ∨ w.heap.size ≤ b := fun b hb => by
    rcases hb with (hb | hb) | hb
    · exact .inl ((hS b).2 (.inl hb))
    · right; simp only [at1] at hb; omega
    · exact .inl ((hS b).2 (.inr hb))
  have hm : ∀ b, b < w.heap.size → no b ∨ or2 (or2 (or2 S1 (at1 w.heap.size)) S2) Y b → or2 Su Y b := fun b hb h => by
    rcases h with h | h | h
    · exact h.elim
    · rcases hnew b h with h | h
      · exact .inl h
      · omega
    · exact .inr h
  refine ⟨_, _, or2 (or2 S1 (at1 w.heap.size)) S2, ⟨_, rfl, rfl⟩, mk_v, ⟨or2 S1 (at1 w.heap.size), S2, fun b => Iff.rfl, fun b hb h => ?_, ⟨fun b => ?_, by omega, ents, clock, #[], ?_, heap_alloc_new w _, ?_, hnd, hcl, ?_, by simp⟩, hrest.ev hev hm fun _ _ h => h⟩, hev.no, hnew⟩
  · rcases hb with hb | hb
    · exact hdis b hb h
    · simp only [at1] at hb; have := hrest.lt b h; omega
  · unfold or2 at1; rw [hS1 b]
  · rw [hev.block r hlt fun h => h]; exact hheap
  · rw [List.map_map]
    have e : ((fun q : Bool × (Value × AV) => q.2) ∘ fun p => (false, p)) = id := rfl
    rw [e, List.map_id]
    exact hents.ev hev hm
  · have := ents_len hents
    apply List.ext_getElem?
    intro i
    simp only [List.getElem?_map]
    rcases Nat.lt_or_ge i ents.toList.length with hi | hi
    · rw [List.getElem?_eq_getElem hi, List.getElem?_eq_getElem (by omega)]; simp
    · rw [List.getElem?_eq_none hi, List.getElem?_eq_none (by omega)]; rfl
/-- The entry that came last. -/
theorem a_ientry (hT : TOk P L) {x : Operand} {r it it' h0 : Nat} {st : List (Bool × (Value × AV))} {p : Value × AV} (h : machA L n fuel s f σ [] = ⟨.op m κ all dec o true rest, f', σ', ob⟩) (hob : ob.map (·.1) = ob.map (·.2)) (ho : o.op = .entry x)
    (hx : evA n f' x = .v (.pointer (some ⟨it, 0, none⟩)) h0) (hl : look σ' h0 = some (.ext (iterA r it' st (some p)))) (hii : it = it')
    (hk : DenA c P n Q (.ops (m.hap true) κ all dec rest) (putA f' o.dst (.tup [.v p.1 0, p.2])) σ') : DenA c P n Q s f σ := by
  subst hii
  refine a_eff hT (fun a σ1 => a = .tup [.v p.1 0, p.2] ∧ σ1 = σ') h hob (fun Y Su w fc hd hY hh he => ?_) (fun a σ1 ⟨ha, hs⟩ => by subst ha; subst hs; exact hk)
  obtain ⟨S1, S2, hS, hdis, hc, hrest⟩ := hh.take hl
  obtain ⟨hS1, hne, ents, clock, seen, h1, h2, h3, h4, h5, h6, h7⟩ := hc
  obtain ⟨b, e, k1, k2, k3⟩ := h7 p rfl
  have hv := he.eval (n := n) x
  rw [hx] at hv
  have hrun : (execOp (ev n fc) o).run P w = .ok (.value (.tuple #[e.key, e.val])) w := by
    unfold execOp
    simp only [ho, Sem.run_bind, Sem.run_pure, rep_v hv, Instr.entry, Result.andThen_ok, run_get h2 (by simp), k1, run_get h1 (by simp), bne_self_eq_false, Bool.false_eq_true, if_false, k2]
  rw [hrun]
  refine ⟨_, _, Su, ⟨rfl, rfl⟩, ?_, hh, Ev.refl _ _, fun b hb => .inl hb⟩
  unfold Rep
  exact ⟨[e.key, e.val], rfl, Reps.cons (by unfold Rep; exact k3.1) (Reps.cons k3.2 Reps.nil)⟩
/-- The next entry, in whatever order; or no more. -/
theorem a_inext (hT : TOk P L) {x : Operand} {r it it' h0 : Nat} {st : List (Bool × (Value × AV))} {cur : Option (Value × AV)} (h : machA L n fuel s f σ [] = ⟨.op m κ all dec o true rest, f', σ', ob⟩) (hob : ob.map (·.1) = ob.map (·.2)) (ho : o.op = .next x false)
    (hx : evA n f' x = .v (.pointer (some ⟨it, 0, none⟩)) h0) (hl : look σ' h0 = some (.ext (iterA r it' st cur))) (hii : it = it')
    (hk1 : (∀ q ∈ st, q.1 = true) → DenA c P n Q (.ops (m.hap true) κ all dec rest) (putA f' o.dst (.tup [.v (.bool false) 0])) σ')
    (hk2 : ∀ i p, st[i]? = some (false, p) → DenA c P n Q (.ops (m.hap true) κ all dec rest) (putA f' o.dst (.tup [.v (.bool true) 0, .v p.1 0, p.2])) ((h0, .ext (iterA r it' (st.set i (true, p)) (some p))) :: del σ' h0)) : DenA c P n Q s f σ := by
  subst hii
  refine a_eff hT (fun a σ1 => ((∀ q ∈ st, q.1 = true) ∧ a = .tup [.v (.bool false) 0] ∧ σ1 = σ') ∨ ∃ i p, st[i]? = some (false, p) ∧ a = .tup [.v (.bool true) 0, .v p.1 0, p.2] ∧ σ1 = (h0, .ext (iterA r it (st.set i (true, p)) (some p))) :: del σ' h0) h hob (fun Y Su w fc hd hY hh he => ?_) (fun a σ1 hR => ?_)
  rotate_left
  · rcases hR with ⟨hq, rfl, rfl⟩ | ⟨i, p, hi, rfl, rfl⟩
    · exact hk1 hq
    · exact hk2 i p hi
  obtain ⟨S1, S2, hS, hdis, hc, hrest⟩ := hh.take hl
  obtain ⟨hS1, hne, ents, clock, seen, h1, h2, h3, h4, h5, h6, h7⟩ := hc
  have hv := he.eval (n := n) x
  rw [hx] at hv
  have hlen := ents_len h3
  rw [List.length_map] at hlen
  have hfl : ∀ (i : Nat) e q, ents.toList[i]? = some e → st[i]? = some q → seen.contains e.born = q.1 := fun i e q hi hq => by
    have := congrArg (fun l : List Bool => l[i]?) h6
    simpa [hi, hq] using this
  -- what may come
  have hnot : (!seen.isEmpty && !ents.isEmpty && ents.all (·.born ≥ clock)) = false := by
    cases hE : ents.isEmpty
    · have : ents.all (·.born ≥ clock) = false := by
        rw [Array.all_eq_false]
        have : 0 < ents.size := by
          rcases Nat.eq_zero_or_pos ents.size with h | h
          · simp [Array.isEmpty, h] at hE
          · exact h
        refine ⟨0, this, ?_⟩
        have := h5 ents[0] (by simp)
        simp
        omega
      simp [this]
    · simp
  have hnew : (ents.filter fun e => !seen.contains e.born).filter (·.born ≥ clock) = #[] := by
    apply Array.eq_empty_of_size_eq_zero
    rw [Array.size_eq_zero_iff, Array.filter_eq_empty_iff]
    intro e he'
    have := h5 e (by simpa using (Array.mem_filter.1 he').1)
    simp
    omega
  have hold : (ents.filter fun e => !seen.contains e.born).filter (·.born < clock) = ents.filter fun e => !seen.contains e.born := by
    rw [Array.filter_eq_self]
    intro e he'
    have := h5 e (by simpa using (Array.mem_filter.1 he').1)
    simpa using this
  generalize hFF : (ents.filter fun e : MapEntry => !seen.contains e.born) = F at hnew hold
  have hFm : ∀ e ∈ F, e ∈ ents ∧ seen.contains e.born = false := fun e he' => by
    rw [← hFF] at he'
    simpa using Array.mem_filter.1 he'
  have hisE : F.isEmpty = decide (F.size = 0) := rfl
  generalize hcand : ((if F.isEmpty = true then #[none] else #[]) ++ (F ++ #[]).map some : Array (Option MapEntry)) = cand
  have hcs : 0 < cand.size := by
    rw [← hcand, hisE]
    by_cases h0 : F.size = 0
    · simp [h0]
    · simp [h0]; omega
  -- which one: whatever the answer
  obtain ⟨i, w1, hi, hch, hev1⟩ : ∃ i w1, i < cand.size ∧ (choose (.mapNext cand.size)).run P w = .ok i w1 ∧ Ev no w w1 := by
    rw [run_choose]
    split
    · exact ⟨0, w, hcs, rfl, Ev.refl _ _⟩
    · refine ⟨_, _, ?_, rfl, ⟨rfl, rfl, rfl, Nat.le_refl _, fun _ _ _ => rfl⟩⟩
      exact Nat.mod_lt _ hcs
  have hh1 := hh.ev hev1 (fun b _ h => h.elim (fun h => h.elim) id) (fun _ _ h => h)
  have g1 : w1.heap[r]? = some (.map ents clock) := by rw [hev1.block r (Array.getElem?_eq_some_iff.1 h1).1 fun h => h]; exact h1
  have g2 : w1.heap[it]? = some (.mapIter (some r) clock seen clock) := by rw [hev1.block it (Array.getElem?_eq_some_iff.1 h2).1 fun h => h]; exact h2
  have hrun : (execOp (ev n fc) o).run P w = ((match cand[i]? with
      | some (some e) => (do setObj it (.mapIter (some r) clock (seen.push e.born) clock); pure (.tuple #[.bool true, e.key, e.val]) : Sem Value)
      | some none => pure (.tuple #[.bool false])
      | none => stuck "Next: no such candidate").run P w1).andThen fun v w => .ok (.value v) w := by
    unfold execOp
    simp only [ho, Sem.run_bind, Sem.run_pure, rep_v hv, Instr.next, Result.andThen_ok, run_get h2 (by simp), run_get h1 (by simp), hnot, Bool.false_eq_true, if_false, hFF, hnew, hold, hcand, hch]
    rfl
  rw [hrun]
  by_cases hE : F.size = 0
  rotate_left
  · -- one that hasn't come
    have hcand' : cand = F.map some := by rw [← hcand, hisE]; simp [hE]
    rw [hcand'] at hi ⊢
    rw [Array.size_map] at hi
    have hget : (F.map some)[i]? = some (some F[i]) := by simp [hi]
    rw [hget]
    generalize hee : F[i] = e
    have hmem : e ∈ ents ∧ seen.contains e.born = false := hFm e (by rw [← hee]; exact Array.getElem_mem hi)
    obtain ⟨j, hj⟩ := List.mem_iff_getElem?.1 (show e ∈ ents.toList by simpa using hmem.1)
    have hjl := (List.getElem?_eq_some_iff.1 hj).1
    obtain ⟨q, hq⟩ : ∃ q, st[j]? = some q := ⟨_, List.getElem?_eq_getElem (by omega)⟩
    obtain ⟨bq, p⟩ := q
    have hbq := hfl j e _ hj hq
    rw [hmem.2] at hbq
    simp only at hbq
    subst hbq
    obtain ⟨e', he', hep⟩ := ents_get h3 j p (by rw [List.getElem?_map, hq]; rfl)
    rw [hj] at he'
    cases he'
    have hitlt := (Array.getElem?_eq_some_iff.1 g2).1
    have hset : (setObj it (.mapIter (some r) clock (seen.push e.born) clock)).run P w1 = .ok () (setB w1 it (.mapIter (some r) clock (seen.push e.born) clock)) := run_set g2 (by simp) _
    have hev2 : Ev (at1 it) w1 (setB w1 it (.mapIter (some r) clock (seen.push e.born) clock)) := Ev.setB w1 it _
    have hev : Ev Su w (setB w1 it (.mapIter (some r) clock (seen.push e.born) clock)) := hev1.no.then hev2 fun b hb h => (hS b).2 (.inl ((hS1 b).2 (.inr h)))
    have hm : ∀ b, b < w.heap.size → Su b ∨ or2 Su Y b → or2 Su Y b := fun b _ h => h.elim .inl id
    have hm1 : ∀ b, b < w1.heap.size → at1 it b ∨ or2 Su Y b → or2 Su Y b := fun b _ h => h.elim (fun h => .inl ((hS b).2 (.inl ((hS1 b).2 (.inr h))))) id
    have hm0 : ∀ b, b < w.heap.size → no b ∨ or2 Su Y b → or2 Su Y b := fun b _ h => h.elim (fun h => h.elim) id
    have h3' := (h3.ev hev1 hm0).ev hev2 hm1
    have hep' : EntRep (or2 Su Y) (setB w1 it (.mapIter (some r) clock (seen.push e.born) clock)) p e := ⟨hep.1, (hep.2.ev hev1 hm0).ev hev2 hm1⟩
    simp only [Sem.run_bind, hset, Result.andThen_ok, Sem.run_pure]
    refine ⟨_, _, Su, .inr ⟨j, p, hq, rfl, rfl⟩, ?_, ⟨S1, S2, hS, hdis, ⟨hS1, hne, ents, clock, seen.push e.born, ?_, setB_at hitlt _, ?_, h4, h5, ?_, ?_⟩, (hrest.ev hev1 hm0 fun _ _ h => h).ev hev2 hm1 fun b hb h => hdis b ((hS1 b).2 (.inr h)) hb⟩, hev, fun b hb => .inl hb⟩
    · unfold Rep
      exact ⟨[.bool true, e.key, e.val], rfl, Reps.cons mk_v (Reps.cons (by unfold Rep; exact hep'.1) (Reps.cons hep'.2 Reps.nil))⟩
    · rw [hev2.block r (Array.getElem?_eq_some_iff.1 g1).1 (fun h => hne h)]; exact g1
    · rw [List.map_set]
      have : (st.map (·.2)).set j p = st.map (·.2) := by
        apply List.ext_getElem?
        intro i'
        rw [List.getElem?_set]
        split
        · rename_i hh; subst hh; rw [List.getElem?_map, hq, List.length_map, if_pos (by omega)]; rfl
        · rfl
      rw [this]
      exact h3'
    · apply List.ext_getElem?
      intro i'
      rw [List.map_set, List.getElem?_set, List.getElem?_map, List.getElem?_map]
      by_cases hij : j = i'
      · subst hij
        rw [if_pos rfl, hj, List.length_map, if_pos (by omega)]
        simp
      · rw [if_neg hij]
        rcases Nat.lt_or_ge i' ents.toList.length with hi' | hi'
        · have hne' : ents.toList[i'].born ≠ e.born := by
            intro he''
            obtain ⟨_, hje⟩ := List.getElem?_eq_some_iff.1 hj
            exact hij (nodup_at h4 hjl hi' (by rw [hje, he'']))
          rw [List.getElem?_eq_getElem hi', List.getElem?_eq_getElem (show i' < st.length by omega)]
          have := hfl i' _ _ (List.getElem?_eq_getElem hi') (List.getElem?_eq_getElem (show i' < st.length by omega))
          simp only [Option.map_some, Option.some.injEq]
          rw [← this]
          have hne'' : ¬ e.born = ents.toList[i'].born := fun h => hne' h.symm
          simp only [Array.contains_eq_mem, Array.mem_push]
          simp
          intro h
          exact absurd h (by simpa using hne')
        · rw [List.getElem?_eq_none hi', List.getElem?_eq_none (by omega)]; rfl
    · intro p' hp'
      cases hp'
      refine ⟨e.born, e, by simp, ?_, hep'⟩
      -- its stamp is its own
      rw [← Array.find?_toList]
      rw [List.find?_eq_some_iff_append]
      obtain ⟨hjl', hje⟩ := List.getElem?_eq_some_iff.1 hj
      refine ⟨by simp, ents.toList.take j, ents.toList.drop (j + 1), ?_, fun e' he' => ?_⟩
      · rw [← hje, ← List.drop_eq_getElem_cons hjl, List.take_append_drop]
      · obtain ⟨i', hi'⟩ := List.mem_iff_getElem?.1 he'
        have hlt' : i' < j := by have := (List.getElem?_eq_some_iff.1 hi').1; simp at this; omega
        rw [List.getElem?_take_of_lt hlt'] at hi'
        simp only [Bool.not_eq_eq_eq_not, Bool.not_true, beq_eq_false_iff_ne, ne_eq]
        intro he''
        obtain ⟨hil, hie⟩ := List.getElem?_eq_some_iff.1 hi'
        have := nodup_at h4 hil hjl (by rw [hie, hje]; simpa using he'')
        omega
  · -- all have come
    have hemp : F = #[] := Array.eq_empty_of_size_eq_zero hE
    have hcand' : cand = #[none] := by rw [← hcand, hemp]; simp
    rw [hcand'] at hi ⊢
    have hget : (#[none] : Array (Option MapEntry))[i]? = some none := by
      have : i = 0 := by simpa using hi
      subst this
      rfl
    rw [hget]
    simp only [Sem.run_pure, Result.andThen_ok]
    refine ⟨_, _, Su, .inl ⟨fun q hq => ?_, rfl, rfl⟩, ?_, hh1, hev1.no, fun b hb => .inl hb⟩
    · obtain ⟨j, hj⟩ := List.mem_iff_getElem?.1 hq
      have hjl := (List.getElem?_eq_some_iff.1 hj).1
      have := hfl j _ q (List.getElem?_eq_getElem (show j < ents.toList.length by omega)) hj
      rw [← this]
      rw [← hFF, Array.filter_eq_empty_iff] at hemp
      have := hemp (ents.toList[j]'(by omega)) (by simp)
      simpa using this
    · unfold Rep
      exact ⟨[.bool false], rfl, Reps.cons mk_v Reps.nil⟩
/-- The map alone, again. -/
theorem a_iend (h0 : Nat) {r it : Nat} {st : List (Bool × (Value × AV))} {cur : Option (Value × AV)} (hst : s.still = true) (hl : look σ h0 = some (.ext (iterA r it st cur))) (hk : DenA c P n Q s f ((h0, .map r (st.map (·.2))) :: del σ h0)) : DenA c P n Q s f σ := by
  refine a_ghost hst (fun Y S w fc hdY hh henv => ?_) hk
  obtain ⟨S1, S2, hS, hdis, hc, hrest⟩ := hh.take hl
  obtain ⟨hS1, hne, ents, clock, seen, h1, h2, h3, h4, h5, h6, h7⟩ := hc
  have hM : ∀ b, or2 (or2 (at1 r) S2) Y b → or2 S Y b := fun b h => h.elim (fun h => h.elim (fun h => .inl ((hS b).2 (.inl ((hS1 b).2 (.inl h))))) fun h => .inl ((hS b).2 (.inr h))) .inr
  exact ⟨or2 (at1 r) S2, ⟨at1 r, S2, fun b => Iff.rfl, fun b hb h => hdis b ((hS1 b).2 (.inl hb)) h, ⟨fun b => Iff.rfl, ents, clock, h1, h3.ev (Ev.refl no w) (fun b _ h => h.elim (fun h => h.elim) (hM b)), h4, h5⟩, hrest.of fun b _ h => hM b h⟩, henv.of fun b _ h => hM b h, fun b h => h.elim (fun h => (hS b).2 (.inl ((hS1 b).2 (.inl h)))) fun h => (hS b).2 (.inr h)⟩
def iterE {κ : Type} (kv : κ → Value) (l : List (Bool × (κ × AV))) : List (Bool × (Value × AV)) := l.map fun q => (q.1, (kv q.2.1, q.2.2))
def idel {κ β : Type} [DecidableEq κ] : List (Bool × (κ × β)) → κ → List (Bool × (κ × β))
  | [], _ => []
  | q :: l, k => if q.2.1 = k then l else q :: idel l k
theorem idel_idx {κ β : Type} [DecidableEq κ] : ∀ (l : List (Bool × (κ × β))) (k : κ), match aidx (l.map (·.2.1)) k with
    | none => idel l k = l
    | some i => idel l k = l.eraseIdx i ∧ ∃ q, l[i]? = some q ∧ q.2.1 = k
  | [], k => rfl
  | q :: l, k => by
    have ih := idel_idx l k
    simp only [List.map_cons, aidx, idel]
    by_cases h : q.2.1 = k
    · simp [h]
    · simp only [h, if_false]
      cases hi : aidx (l.map (·.2.1)) k with
      | none => rw [hi] at ih; show q :: idel l k = q :: l; rw [ih]
      | some i => rw [hi] at ih; exact ⟨by rw [ih.1]; rfl, ih.2⟩
/-- An entry goes, of a map that is gone through. -/
theorem a_idel (hT : TOk P L) {t kt et : TypeId} {κ' : Type} [DecidableEq κ'] {kv : κ' → Value} {x y : Operand} {ts : Array TypeId} {r r' it h0 : Nat} {hk0 : Nat} {st : List (Bool × (Value × AV))} {cur : Option (Value × AV)} (l : List (Bool × (κ' × AV))) (k : κ') (h : machA L n fuel s f σ [] = ⟨.op m κ all dec o true rest, f', σ', ob⟩) (hob : ob.map (·.1) = ob.map (·.2)) (ho : o.op = .call ⟨.builtin .delete, #[x, y], ts⟩) (hts : ts[0]? = some t) (ht : mapT P t kt et = true) (hko : KeyOk P kt kv)
    (hx : evA n f' x = .v (.map (some r)) h0) (hl : look σ' h0 = some (.ext (iterA r' it st cur))) (hrr : r = r') (hes : st = iterE kv l) (hy : evN n f' y = .v (kv k) hk0)
    (hk : DenA c P n Q (.ops (m.hap true) κ all dec rest) (putA f' o.dst (.v (.tuple #[]) 0)) (upd σ' h0 (.ext (iterA r' it (iterE kv (idel l k)) none)))) : DenA c P n Q s f σ := by
  subst hrr
  subst hes
  refine a_eff hT (fun a σ1 => a = .v (.tuple #[]) 0 ∧ σ1 = upd σ' h0 (.ext (iterA r it (iterE kv (idel l k)) none))) h hob (fun Y Su w fc hd hY hh he => ?_) (fun a σ1 ⟨ha, hs⟩ => by subst ha; subst hs; exact hk)
  obtain ⟨S1, S2, hS, hdis, hc, hrest⟩ := hh.take hl
  obtain ⟨hS1, hne, ents, clock, seen, g1, g2, h3, h4, h5, h6, h7⟩ := hc
  have h1 := he.eval (n := n) x
  have h2 := he.evalN (n := n) y
  rw [hx] at h1
  rw [hy] at h2
  have e0 : (iterE kv l).map (·.2) = mapE kv (l.map (·.2)) := by unfold iterE mapE; rw [List.map_map, List.map_map]; rfl
  have hkeys : ents.toList.map (·.key) = (l.map (·.2.1)).map kv := by
    have := ents_keys (kv := kv) (l := l.map (·.2)) (by rw [← e0]; exact h3)
    rw [this]; simp [List.map_map, Function.comp_def]
  have hfnd := hko.fnd w k (l.map (·.2.1)) ents.toList hkeys
  have hidx := idel_idx l k
  -- the map's block, turned
  have fin : ∀ (ents' : Array MapEntry) (l' : List (Bool × (κ' × AV))), EntsRep (or2 Su Y) w ((iterE kv l').map (·.2)) ents'.toList → (ents'.toList.map (·.born)).Nodup → (∀ e ∈ ents'.toList, e.born < clock) → ents'.toList.map (fun e => seen.contains e.born) = (iterE kv l').map (·.1) →
      After Y Su w (fun a σ1 => a = .v (.tuple #[]) 0 ∧ σ1 = upd σ' h0 (.ext (iterA r it (iterE kv l') none))) (.tuple #[]) (setB w r (.map ents' clock)) := by
    intro ents' l' q1 q2 q3 q4
    have hlt : r < w.heap.size := (Array.getElem?_eq_some_iff.1 g1).1
    have hev : Ev (at1 r) w (setB w r (.map ents' clock)) := Ev.setB w r _
    have hm : ∀ b, b < w.heap.size → at1 r b ∨ or2 Su Y b → or2 Su Y b := fun b _ h => h.elim (fun h => .inl ((hS b).2 (.inl ((hS1 b).2 (.inl h))))) id
    refine ⟨_, _, Su, ⟨rfl, rfl⟩, mk_v, ?_, hev.mono fun b _ h => (hS b).2 (.inl ((hS1 b).2 (.inl h))), fun b hb => .inl hb⟩
    refine (Holds.upd (S1 := S1) (c' := .ext (iterA r it (iterE kv l') none)) hev hm hh hl hrest (fun b hb hg => hdis b ((hS1 b).2 (.inl hg)) hb) hdis ?_).iff hS
    refine ⟨hS1, hne, ents', clock, seen, setB_at hlt _, ?_, q1.ev hev hm, q2, q3, q4, fun p hp => by cases hp⟩
    rw [hev.block it (Array.getElem?_eq_some_iff.1 g2).1 (fun h => hne h.symm)]
    exact g2
  cases hi' : aidx (l.map (·.2.1)) k with
  | none =>
    rw [hi'] at hidx hfnd
    have hrun : (execOp (ev n fc) o).run P w = .ok (.value (.tuple #[])) (setB w r (.map ents clock)) := by
      unfold execOp
      simp only [ho, resolve, invoke, builtin, Sem.run_bind, Sem.run_pure, Result.andThen_ok, List.map_toArray, List.map_cons, List.map_nil, Builtin.delete_, hts, rep_v h1, rep_v h2, run_underlying (mapT_spec ht), run_get g1 (by simp), hko.chk, hfnd, Option.bind_none, run_set g1 (by simp)]
      simp [run_underlying (mapT_spec ht), run_get g1, hko.chk, hfnd, run_set g1, rep_v h1, rep_v h2]
    rw [hrun, hidx]
    exact fin ents l h3 h4 h5 h6
  | some j =>
    rw [hi'] at hidx hfnd
    obtain ⟨hdel, q, hq, hqk⟩ := hidx
    obtain ⟨e, he', hep⟩ := ents_get h3 j (kv q.2.1, q.2.2) (by unfold iterE; rw [List.getElem?_map, List.getElem?_map, hq]; rfl)
    have hje : ents[j]? = some e := by rw [← Array.getElem?_toList]; exact he'
    have hrun : (execOp (ev n fc) o).run P w = .ok (.value (.tuple #[])) (setB w r (.map (ents.eraseIdxIfInBounds j) clock)) := by
      unfold execOp
      simp only [ho, resolve, invoke, builtin, Sem.run_bind, Sem.run_pure, Result.andThen_ok, List.map_toArray, List.map_cons, List.map_nil, Builtin.delete_, hts, rep_v h1, rep_v h2, run_underlying (mapT_spec ht), run_get g1 (by simp), hko.chk, hfnd, Option.bind_some, he', Option.map_some, run_set g1 (by simp)]
      simp [run_underlying (mapT_spec ht), run_get g1, hko.chk, hfnd, hje, run_set g1, rep_v h1, rep_v h2]
    have hers : (ents.eraseIdxIfInBounds j).toList = ents.toList.eraseIdx j := by
      unfold Array.eraseIdxIfInBounds
      have := (List.getElem?_eq_some_iff.1 he').1
      rw [dif_pos (by simpa using this)]
      simp
    rw [hrun, hdel]
    refine fin _ _ ?_ ?_ ?_ ?_
    · rw [hers]
      unfold iterE at h3 ⊢
      rw [map_erase, map_erase]
      exact ents_erase j h3
    · rw [hers, map_erase]
      exact h4.sublist (List.eraseIdx_sublist _ _)
    · intro e' h'
      rw [hers] at h'
      exact h5 e' ((List.eraseIdx_sublist _ _).subset h')
    · rw [hers, map_erase, h6]
      unfold iterE
      rw [map_erase, map_erase]
end
end Go.Proofs.YtjcolfogmmjaoaaGreatDoor.A
end

section
/- Maps of one kind of entries: kv tells a key, va a value. It holds of any program. -/
set_option linter.unusedVariables false
set_option linter.unusedSectionVars false
set_option linter.unusedSimpArgs false
namespace Go.Proofs.YtjcolfogmmjaoaaGreatDoor.A
open V

def mapG {κ β : Type} (kv : κ → Value) (va : β → AV) (l : List (κ × β)) : List (Value × AV) := l.map fun p => (kv p.1, va p.2)
def iterG {κ β : Type} (kv : κ → Value) (va : β → AV) (l : List (Bool × (κ × β))) : List (Bool × (Value × AV)) := l.map fun q => (q.1, (kv q.2.1, va q.2.2))
theorem mapE_map {κ β : Type} (kv : κ → Value) (va : β → AV) (l : List (κ × β)) : mapE kv (l.map fun p => (p.1, va p.2)) = mapG kv va l := by unfold mapE mapG; rw [List.map_map]; rfl
theorem aget_map {κ β γ : Type} [DecidableEq κ] (g : β → γ) : ∀ (l : List (κ × β)) (k : κ), aget (l.map fun p => (p.1, g p.2)) k = (aget l k).map g
  | [], k => rfl
  | p :: l, k => by
    obtain ⟨j, v⟩ := p
    simp only [List.map_cons, aget]
    split
    · rfl
    · exact aget_map g l k
theorem aput_map {κ β γ : Type} [DecidableEq κ] (g : β → γ) : ∀ (l : List (κ × β)) (k : κ) (v : β), aput (l.map fun p => (p.1, g p.2)) k (g v) = (aput l k v).map fun p => (p.1, g p.2)
  | [], k, v => rfl
  | p :: l, k, v => by
    obtain ⟨j, u⟩ := p
    simp only [List.map_cons, aput]
    split
    · rfl
    · rw [List.map_cons, aput_map g l k v]
theorem adel_map {κ β γ : Type} [DecidableEq κ] (g : β → γ) : ∀ (l : List (κ × β)) (k : κ), adel (l.map fun p => (p.1, g p.2)) k = (adel l k).map fun p => (p.1, g p.2)
  | [], k => rfl
  | p :: l, k => by
    obtain ⟨j, u⟩ := p
    simp only [List.map_cons, adel]
    split
    · rfl
    · rw [List.map_cons, adel_map g l k]
theorem idel_map {κ β γ : Type} [DecidableEq κ] (g : β → γ) : ∀ (l : List (Bool × (κ × β))) (k : κ), idel (l.map fun q => (q.1, (q.2.1, g q.2.2))) k = (idel l k).map fun q => (q.1, (q.2.1, g q.2.2))
  | [], k => rfl
  | q :: l, k => by
    simp only [List.map_cons, idel]
    split
    · rfl
    · rw [List.map_cons, idel_map g l k]

section
variable {P : Program} {L : List TD} {n : Nat} {Q : Exit → Act → World → Prop} {c : Ctx}
variable {s : AMS} {f f' : AEnv} {σ σ' : Store} {ob : Obs} {κ : List Kt} {all : Array Oper} {dec : List Nat} {o : Oper} {al : Bool} {rest : List (Oper × Bool)} {m : Mode}
variable {κ' β : Type} [DecidableEq κ'] {kv : κ' → Value} {va : β → AV}

theorem a_lookG (hT : TOk P L) {t kt et : TypeId} {x y : Operand} {r r' h0 hk0 : Nat} {es : List (Value × AV)} {z : Value} (l : List (κ' × β)) (k : κ') (res : Option β) {ok : Bool} (h : machA L n fuel s f σ [] = ⟨.op m κ all dec o true rest, f', σ', ob⟩) (hob : ob.map (·.1) = ob.map (·.2)) (ho : o.op = .lookup t x y ok) (ht : mapT P t kt et = true) (hko : KeyOk P kt kv) (hz : (P.info? et).map (·.zero) = some (some z))
    (hx : evA n f' x = .v (.map (some r)) h0) (hl : look σ' h0 = some (.map r' es)) (hrr : r = r') (hes : es = mapG kv va l) (hy : evN n f' y = .v (kv k) hk0) (hres : aget l k = res)
    (hk : DenA c P n Q (.ops (m.hap true) κ all dec rest) (putA f' o.dst (if ok then .tup [(res.map va).getD (cAV z), .v (.bool res.isSome) 0] else (res.map va).getD (cAV z))) σ') : DenA c P n Q s f σ := by
  have := a_look (Q := Q) (c := c) hT (l.map fun p => (p.1, va p.2)) k (res.map va) h hob ho ht hko hz hx hl hrr (by rw [mapE_map]; exact hes) hy (by rw [aget_map, hres])
  refine this ?_
  have e : (res.map va).isSome = res.isSome := by cases res <;> rfl
  rw [e]
  exact hk
theorem a_mputG (hT : TOk P L) {t kt et : TypeId} {x y u : Operand} {r r' h0 hk0 : Nat} {es : List (Value × AV)} (l : List (κ' × β)) (k : κ') (b : β) (h : machA L n fuel s f σ [] = ⟨.op m κ all dec o true rest, f', σ', ob⟩) (hob : ob.map (·.1) = ob.map (·.2)) (ho : o.op = .mapUpdate t x y u) (ht : mapT P t kt et = true) (hko : KeyOk P kt kv)
    (hx : evA n f' x = .v (.map (some r)) h0) (hl : look σ' h0 = some (.map r' es)) (hrr : r = r') (hes : es = mapG kv va l) (hy : evN n f' y = .v (kv k) hk0) (hv : evA n f' u = va b)
    (hk : DenA c P n Q (.ops (m.hap true) κ all dec rest) (putA f' o.dst (.v undef 0)) (upd σ' h0 (.map r' (mapG kv va (aput l k b))))) : DenA c P n Q s f σ := by
  refine a_mput hT (l.map fun p => (p.1, va p.2)) k h hob ho ht hko hx hl hrr (by rw [mapE_map]; exact hes) hy ?_
  rw [hv, aput_map, mapE_map]
  exact hk
theorem a_mdelG (hT : TOk P L) {t kt et : TypeId} {x y : Operand} {ts : Array TypeId} {r r' h0 hk0 : Nat} {es : List (Value × AV)} (l : List (κ' × β)) (k : κ') (h : machA L n fuel s f σ [] = ⟨.op m κ all dec o true rest, f', σ', ob⟩) (hob : ob.map (·.1) = ob.map (·.2)) (ho : o.op = .call ⟨.builtin .delete, #[x, y], ts⟩) (hts : ts[0]? = some t) (ht : mapT P t kt et = true) (hko : KeyOk P kt kv)
    (hx : evA n f' x = .v (.map (some r)) h0) (hl : look σ' h0 = some (.map r' es)) (hrr : r = r') (hes : es = mapG kv va l) (hy : evN n f' y = .v (kv k) hk0)
    (hk : DenA c P n Q (.ops (m.hap true) κ all dec rest) (putA f' o.dst (.v (.tuple #[]) 0)) (upd σ' h0 (.map r' (mapG kv va (adel l k))))) : DenA c P n Q s f σ := by
  refine a_mdel hT (l.map fun p => (p.1, va p.2)) k h hob ho hts ht hko hx hl hrr (by rw [mapE_map]; exact hes) hy ?_
  rw [adel_map, mapE_map]
  exact hk
theorem a_rangeG (hT : TOk P L) {t kt et : TypeId} {x : Operand} {r r' h0 : Nat} {es : List (Value × AV)} (l : List (κ' × β)) (h : machA L n fuel s f σ [] = ⟨.op m κ all dec o true rest, f', σ', ob⟩) (hob : ob.map (·.1) = ob.map (·.2)) (ho : o.op = .range t x) (ht : mapT P t kt et = true)
    (hx : evA n f' x = .v (.map (some r)) h0) (hl : look σ' h0 = some (.map r' es)) (hrr : r = r') (hes : es = mapG kv va l)
    (hk : ∀ it, DenA c P n Q (.ops (m.hap true) κ all dec rest) (putA f' o.dst (.v (.pointer (some ⟨it, 0, none⟩)) h0)) ((h0, .ext (iterA r' it (iterG kv va (l.map fun p => (false, p))) none)) :: del σ' h0)) : DenA c P n Q s f σ := by
  refine a_range hT h hob ho ht hx hl hrr fun it => ?_
  have e : es.map (fun p => (false, p)) = iterG kv va (l.map fun p => (false, p)) := by
    rw [hes]; unfold mapG iterG; rw [List.map_map, List.map_map]; rfl
  rw [e]
  exact hk it
theorem a_inextG (hT : TOk P L) {x : Operand} {r it it' h0 : Nat} {st : List (Bool × (Value × AV))} {cur : Option (Value × AV)} (l : List (Bool × (κ' × β))) (h : machA L n fuel s f σ [] = ⟨.op m κ all dec o true rest, f', σ', ob⟩) (hob : ob.map (·.1) = ob.map (·.2)) (ho : o.op = .next x false)
    (hx : evA n f' x = .v (.pointer (some ⟨it, 0, none⟩)) h0) (hl : look σ' h0 = some (.ext (iterA r it' st cur))) (hii : it = it') (hst : st = iterG kv va l)
    (hk1 : (∀ q ∈ l, q.1 = true) → DenA c P n Q (.ops (m.hap true) κ all dec rest) (putA f' o.dst (.tup [.v (.bool false) 0])) σ')
    (hk2 : ∀ i k b, l[i]? = some (false, (k, b)) → DenA c P n Q (.ops (m.hap true) κ all dec rest) (putA f' o.dst (.tup [.v (.bool true) 0, .v (kv k) 0, va b])) ((h0, .ext (iterA r it' (iterG kv va (l.set i (true, (k, b)))) (some (kv k, va b)))) :: del σ' h0)) : DenA c P n Q s f σ := by
  refine a_inext hT h hob ho hx hl hii (fun hq => hk1 fun q hq' => ?_) (fun i p hi => ?_)
  · have := hq (q.1, (kv q.2.1, va q.2.2)) (by rw [hst]; unfold iterG; exact List.mem_map.2 ⟨q, hq', rfl⟩)
    exact this
  · rw [hst] at hi ⊢
    unfold iterG at hi
    rw [List.getElem?_map] at hi
    obtain ⟨q, hq, e⟩ := Option.map_eq_some_iff.1 hi
    obtain ⟨b0, k, b⟩ := q
    cases e
    have := hk2 i k b hq
    have e : iterG kv va (l.set i (true, (k, b))) = (iterG kv va l).set i (true, (kv k, va b)) := by unfold iterG; rw [List.map_set]
    rw [e] at this
    exact this
theorem a_idelG (hT : TOk P L) {t kt et : TypeId} {x y : Operand} {ts : Array TypeId} {r r' it h0 hk0 : Nat} {st : List (Bool × (Value × AV))} {cur : Option (Value × AV)} (l : List (Bool × (κ' × β))) (k : κ') (h : machA L n fuel s f σ [] = ⟨.op m κ all dec o true rest, f', σ', ob⟩) (hob : ob.map (·.1) = ob.map (·.2)) (ho : o.op = .call ⟨.builtin .delete, #[x, y], ts⟩) (hts : ts[0]? = some t) (ht : mapT P t kt et = true) (hko : KeyOk P kt kv)
    (hx : evA n f' x = .v (.map (some r)) h0) (hl : look σ' h0 = some (.ext (iterA r' it st cur))) (hrr : r = r') (hes : st = iterG kv va l) (hy : evN n f' y = .v (kv k) hk0)
    (hk : DenA c P n Q (.ops (m.hap true) κ all dec rest) (putA f' o.dst (.v (.tuple #[]) 0)) (upd σ' h0 (.ext (iterA r' it (iterG kv va (idel l k)) none)))) : DenA c P n Q s f σ := by
  have e0 : ∀ l : List (Bool × (κ' × β)), iterE kv (l.map fun q => (q.1, (q.2.1, va q.2.2))) = iterG kv va l := fun l => by unfold iterE iterG; rw [List.map_map]; rfl
  refine a_idel hT (l.map fun q => (q.1, (q.2.1, va q.2.2))) k h hob ho hts ht hko hx hl hrr (by rw [e0]; exact hes) hy ?_
  rw [idel_map, e0]
  exact hk
theorem a_iendG (h0 : Nat) {r it : Nat} {st : List (Bool × (Value × AV))} {cur : Option (Value × AV)} (l : List (Bool × (κ' × β))) (hst : s.still = true) (hl : look σ h0 = some (.ext (iterA r it st cur))) (hs : st = iterG kv va l) (hk : DenA c P n Q s f ((h0, .map r (mapG kv va (l.map (·.2)))) :: del σ h0)) : DenA c P n Q s f σ := by
  refine a_iend h0 hst hl ?_
  have e : st.map (·.2) = mapG kv va (l.map (·.2)) := by rw [hs]; unfold iterG mapG; rw [List.map_map, List.map_map]; rfl
  rw [e]
  exact hk
end
/-- As many as haven't come. -/
def left {α : Type} (l : List (Bool × α)) : Nat := (l.filter fun q => !q.1).length
theorem left_set {α : Type} : ∀ {l : List (Bool × α)} {i : Nat} {a : α}, l[i]? = some (false, a) → ∀ b, left (l.set i (true, b)) + 1 = left l
  | [], i, a, h, b => by simp at h
  | q :: l, 0, a, h, b => by simp at h; subst h; simp [left]
  | q :: l, i + 1, a, h, b => by
    have := left_set (l := l) (i := i) (a := a) (by simpa using h) b
    unfold left at this ⊢
    rw [List.set_cons_succ, List.filter_cons, List.filter_cons]
    split
    · simp; omega
    · exact this
theorem left_sub {α : Type} {l l' : List (Bool × α)} (h : l'.Sublist l) : left l' ≤ left l := (h.filter _).length_le
end Go.Proofs.YtjcolfogmmjaoaaGreatDoor.A
end
