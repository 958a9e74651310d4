/- What a function does, told over what is known; the steps of a walk: beginning, branches, effects, calls, loops, drawn regions, the end. It holds of any program. -/
import Derived.Test.YtepjnmocepkfjaaD
set_option linter.unusedVariables false
set_option linter.unusedSimpArgs false
namespace Go.Proofs.Ytepjnmocepkfjaa.A
open V

/-! ### Lists of chunks -/
def zipk : List Nat → List Chunk → Store
  | k :: ks, c :: cs => (k, c) :: zipk ks cs
  | [], c :: cs => (0, c) :: zipk [] cs
  | _, [] => []
def HoldsL (M : Nat → Prop) (w : World) (cs : List Chunk) (S : Nat → Prop) : Prop := Holds M w (cs.map fun c => (0, c)) S
theorem Holds.keys {M : Nat → Prop} {w : World} : ∀ {σ τ : Store} {S : Nat → Prop}, Holds M w σ S → σ.map (·.2) = τ.map (·.2) → Holds M w τ S
  | [], [], S, h, _ => h
  | [], _ :: _, S, h, e => by simp at e
  | _ :: _, [], S, h, e => by simp at e
  | (j, c) :: σ, (k, d) :: τ, S, ⟨S1, S2, h1, h2, h3, h4⟩, e => by
    simp only [List.map_cons, List.cons.injEq] at e
    obtain ⟨rfl, e⟩ := e
    exact ⟨S1, S2, h1, h2, h3, h4.keys e⟩
theorem zipk_snd : ∀ (ks : List Nat) (cs : List Chunk), (zipk ks cs).map (·.2) = cs
  | k :: ks, c :: cs => by unfold zipk; simp [zipk_snd ks cs]
  | [], c :: cs => by unfold zipk; simp [zipk_snd [] cs]
  | [], [] => rfl
  | _ :: _, [] => rfl
theorem HoldsL.zip {M : Nat → Prop} {w : World} {cs : List Chunk} {S : Nat → Prop} (h : HoldsL M w cs S) (ks : List Nat) : Holds M w (zipk ks cs) S := Holds.keys h (by rw [zipk_snd, List.map_map]; exact List.map_id' cs)
theorem Holds.list {M : Nat → Prop} {w : World} {σ : Store} {S : Nat → Prop} (h : Holds M w σ S) : HoldsL M w (σ.map (·.2)) S := Holds.keys h (by simp)
/-- Chunks by their keys, in that order; and the rest. -/
def takes : Store → List Nat → Option (List Chunk × Store)
  | σ, [] => some ([], σ)
  | σ, k :: ks => match look σ k with
    | none => none
    | some c => match takes (del σ k) ks with
      | none => none
      | some (cs, r) => some (c :: cs, r)
theorem Holds.takes {M : Nat → Prop} {w : World} : ∀ {ks : List Nat} {σ : Store} {S : Nat → Prop} {cs : List Chunk} {r : Store}, Holds M w σ S → A.takes σ ks = some (cs, r) → ∃ S1 S2, HoldsL M w cs S1 ∧ Holds M w r S2 ∧ (∀ b, S b ↔ S1 b ∨ S2 b) ∧ ∀ b, S1 b → ¬ S2 b
  | [], σ, S, cs, r, h, e => by
    unfold A.takes at e
    simp at e
    obtain ⟨rfl, rfl⟩ := e
    exact ⟨no, S, fun _ h => h, h, fun b => ⟨.inr, fun h => h.elim (fun h => h.elim) id⟩, fun _ h => h.elim⟩
  | k :: ks, σ, S, cs, r, h, e => by
    unfold A.takes at e
    split at e
    · cases e
    · rename_i c hl
      split at e
      · cases e
      · rename_i cs' r' ht
        simp at e
        obtain ⟨rfl, rfl⟩ := e
        obtain ⟨T1, T2, k1, k2, k3, k4⟩ := h.take hl
        obtain ⟨U1, U2, u1, u2, u3, u4⟩ := k4.takes ht
        refine ⟨fun b => T1 b ∨ U1 b, U2, ⟨T1, U1, fun b => Iff.rfl, fun b hb hu => k2 b hb ((u3 b).2 (.inl hu)), k3, u1⟩, u2, fun b => ?_, fun b hb hu => hb.elim (fun hb => k2 b hb ((u3 b).2 (.inr hu))) fun hb => u4 b hb hu⟩
        rw [k1 b, u3 b, or_assoc]
def rekK {α : Sort _} : List Nat → List Chunk → Store → (Store → α) → α
  | _, [], r, k => k r
  | [], c :: cs, r, k => rekK [] cs r fun s => k ((0, c) :: s)
  | j :: ks, c :: cs, r, k => rekK ks cs r fun s => k ((j, c) :: s)
theorem rekK_eq {α : Sort _} : ∀ (ks : List Nat) (cs : List Chunk) (r : Store) (k : Store → α), rekK ks cs r k = k (zipk ks cs ++ r)
  | [], [], r, k => rfl
  | _ :: _, [], r, k => rfl
  | [], c :: cs, r, k => by unfold rekK zipk; rw [rekK_eq]; rfl
  | j :: ks, c :: cs, r, k => by unfold rekK zipk; rw [rekK_eq]; rfl

/-! ### The same values, told otherwise -/
mutual
def Fit : AV → AV → Prop
  | .v x _, .v y _ => x = y
  | .v x _, .d d => match d with
    | .v y => x = y ∧ x.oneCell' = true
    | .sl _ es => x = .slice none 0 0 ∧ es = []
    | _ => False
  | .d x, .v y _ => x = .v y
  | .d x, .d y => x = y
  | .row x _, .row y _ => x = y
  | .agg xs, .agg ys => Fits xs ys
  | .tup xs, .tup ys => Fits xs ys
  | .ifc t a, .ifc u b => t = u ∧ Fit a b
  | .fn g xs, .fn h ys => g = h ∧ Fits xs ys
  | _, .any => True
  | _, _ => False
def Fits : List AV → List AV → Prop
  | [], [] => True
  | a :: as, b :: bs => Fit a b ∧ Fits as bs
  | _, _ => False
end
mutual
theorem Fit.rep {M : Nat → Prop} {w : World} : ∀ {a b : AV} {v : Value}, Fit a b → Rep M w a v → Rep M w b v
  | .v x _, .v y _, v, h, hr => by unfold Fit at h; subst h; unfold Rep at hr ⊢; exact hr
  | .v x _, .d d, v, h, hr => by
    unfold Fit at h
    unfold Rep at hr ⊢
    subst hr
    cases d with
    | v y => obtain ⟨rfl, h⟩ := h; unfold DRep; exact ⟨rfl, h⟩
    | sl k es => obtain ⟨rfl, rfl⟩ := h; unfold DRep; exact ⟨none, 0, rfl, by simp, by simp, by simp⟩
    | _ => exact h.elim
  | .d x, .v y _, v, h, hr => by unfold Fit at h; subst h; unfold Rep at hr ⊢; unfold DRep at hr; exact hr.1
  | .d x, .d y, v, h, hr => by unfold Fit at h; subst h; exact hr
  | .row x _, .row y _, v, h, hr => by unfold Fit at h; subst h; unfold Rep at hr ⊢; exact hr
  | .agg xs, .agg ys, v, h, hr => by unfold Fit at h; unfold Rep at hr ⊢; obtain ⟨zs, e, h1, h2⟩ := hr; exact ⟨zs, e, Fits.reps h h1, h2⟩
  | .tup xs, .tup ys, v, h, hr => by unfold Fit at h; unfold Rep at hr ⊢; obtain ⟨zs, e, h1⟩ := hr; exact ⟨zs, e, Fits.reps h h1⟩
  | .ifc t a, .ifc u b, v, h, hr => by unfold Fit at h; unfold Rep at hr ⊢; obtain ⟨rfl, h⟩ := h; obtain ⟨x, e, h1⟩ := hr; exact ⟨x, e, Fit.rep h h1⟩
  | .fn g xs, .fn k ys, v, h, hr => by unfold Fit at h; unfold Rep at hr ⊢; obtain ⟨rfl, h⟩ := h; obtain ⟨zs, e, h1⟩ := hr; exact ⟨zs, e, Fits.reps h h1⟩
  | .v _ _, .any, v, h, hr => by unfold Rep; trivial
  | .d _, .any, v, h, hr => by unfold Rep; trivial
  | .row _ _, .any, v, h, hr => by unfold Rep; trivial
  | .agg _, .any, v, h, hr => by unfold Rep; trivial
  | .tup _, .any, v, h, hr => by unfold Rep; trivial
  | .ifc _ _, .any, v, h, hr => by unfold Rep; trivial
  | .fn _ _, .any, v, h, hr => by unfold Rep; trivial
  | .any, .any, v, h, hr => by unfold Rep; trivial
  | .v _ _, .row _ _, v, h, hr => by unfold Fit at h; exact h.elim
  | .v _ _, .agg _, v, h, hr => by unfold Fit at h; exact h.elim
  | .v _ _, .tup _, v, h, hr => by unfold Fit at h; exact h.elim
  | .v _ _, .ifc _ _, v, h, hr => by unfold Fit at h; exact h.elim
  | .v _ _, .fn _ _, v, h, hr => by unfold Fit at h; exact h.elim
  | .d _, .row _ _, v, h, hr => by unfold Fit at h; exact h.elim
  | .d _, .agg _, v, h, hr => by unfold Fit at h; exact h.elim
  | .d _, .tup _, v, h, hr => by unfold Fit at h; exact h.elim
  | .d _, .ifc _ _, v, h, hr => by unfold Fit at h; exact h.elim
  | .d _, .fn _ _, v, h, hr => by unfold Fit at h; exact h.elim
  | .row _ _, .v _ _, v, h, hr => by unfold Fit at h; exact h.elim
  | .row _ _, .d _, v, h, hr => by unfold Fit at h; exact h.elim
  | .row _ _, .agg _, v, h, hr => by unfold Fit at h; exact h.elim
  | .row _ _, .tup _, v, h, hr => by unfold Fit at h; exact h.elim
  | .row _ _, .ifc _ _, v, h, hr => by unfold Fit at h; exact h.elim
  | .row _ _, .fn _ _, v, h, hr => by unfold Fit at h; exact h.elim
  | .agg _, .v _ _, v, h, hr => by unfold Fit at h; exact h.elim
  | .agg _, .d _, v, h, hr => by unfold Fit at h; exact h.elim
  | .agg _, .row _ _, v, h, hr => by unfold Fit at h; exact h.elim
  | .agg _, .tup _, v, h, hr => by unfold Fit at h; exact h.elim
  | .agg _, .ifc _ _, v, h, hr => by unfold Fit at h; exact h.elim
  | .agg _, .fn _ _, v, h, hr => by unfold Fit at h; exact h.elim
  | .tup _, .v _ _, v, h, hr => by unfold Fit at h; exact h.elim
  | .tup _, .d _, v, h, hr => by unfold Fit at h; exact h.elim
  | .tup _, .row _ _, v, h, hr => by unfold Fit at h; exact h.elim
  | .tup _, .agg _, v, h, hr => by unfold Fit at h; exact h.elim
  | .tup _, .ifc _ _, v, h, hr => by unfold Fit at h; exact h.elim
  | .tup _, .fn _ _, v, h, hr => by unfold Fit at h; exact h.elim
  | .ifc _ _, .v _ _, v, h, hr => by unfold Fit at h; exact h.elim
  | .ifc _ _, .d _, v, h, hr => by unfold Fit at h; exact h.elim
  | .ifc _ _, .row _ _, v, h, hr => by unfold Fit at h; exact h.elim
  | .ifc _ _, .agg _, v, h, hr => by unfold Fit at h; exact h.elim
  | .ifc _ _, .tup _, v, h, hr => by unfold Fit at h; exact h.elim
  | .ifc _ _, .fn _ _, v, h, hr => by unfold Fit at h; exact h.elim
  | .fn _ _, .v _ _, v, h, hr => by unfold Fit at h; exact h.elim
  | .fn _ _, .d _, v, h, hr => by unfold Fit at h; exact h.elim
  | .fn _ _, .row _ _, v, h, hr => by unfold Fit at h; exact h.elim
  | .fn _ _, .agg _, v, h, hr => by unfold Fit at h; exact h.elim
  | .fn _ _, .tup _, v, h, hr => by unfold Fit at h; exact h.elim
  | .fn _ _, .ifc _ _, v, h, hr => by unfold Fit at h; exact h.elim
  | .any, .v _ _, v, h, hr => by unfold Fit at h; exact h.elim
  | .any, .d _, v, h, hr => by unfold Fit at h; exact h.elim
  | .any, .row _ _, v, h, hr => by unfold Fit at h; exact h.elim
  | .any, .agg _, v, h, hr => by unfold Fit at h; exact h.elim
  | .any, .tup _, v, h, hr => by unfold Fit at h; exact h.elim
  | .any, .ifc _ _, v, h, hr => by unfold Fit at h; exact h.elim
  | .any, .fn _ _, v, h, hr => by unfold Fit at h; exact h.elim
theorem Fits.reps {M : Nat → Prop} {w : World} : ∀ {as bs : List AV} {vs : List Value}, Fits as bs → Reps M w as vs → Reps M w bs vs
  | [], [], vs, h, hr => hr
  | [], _ :: _, vs, h, hr => by unfold Fits at h; exact h.elim
  | _ :: _, [], vs, h, hr => by unfold Fits at h; exact h.elim
  | a :: as, b :: bs, vs, h, hr => by
    unfold Fits at h
    unfold Reps at hr ⊢
    obtain ⟨x, r, e, h1, h2⟩ := hr
    exact ⟨x, r, e, Fit.rep h.1 h1, Fits.reps h.2 h2⟩
end
def CFit : Chunk → Chunk → Prop
  | .blk g t cs, .blk g' t' cs' => g = g' ∧ t = t' ∧ Fits cs cs'
  | .row x e k es, .row x' e' k' es' => x = x' ∧ e = e' ∧ k = k' ∧ es = es'
  | .map r es, .map r' es' => r = r' ∧ es = es'
  | .ext a, .ext b => a = b
  | _, _ => False
def CFits : List Chunk → List Chunk → Prop
  | [], [] => True
  | a :: as, b :: bs => CFit a b ∧ CFits as bs
  | _, _ => False
theorem CFit.rep {M : Nat → Prop} {w : World} {a b : Chunk} {S : Nat → Prop} (h : CFit a b) (hr : CRep M w a S) : CRep M w b S := by
  cases a <;> cases b <;> first | exact h.elim | skip
  · obtain ⟨rfl, rfl, h⟩ := h
    obtain ⟨hS, xs, hb, hr, h1⟩ := hr
    exact ⟨hS, xs, hb, h.reps hr, h1⟩
  · obtain ⟨rfl, rfl, rfl, rfl⟩ := h; exact hr
  · obtain ⟨rfl, rfl⟩ := h; exact hr
  · cases h; exact hr
theorem CFits.holds {M : Nat → Prop} {w : World} : ∀ {as bs : List Chunk} {S : Nat → Prop}, CFits as bs → HoldsL M w as S → HoldsL M w bs S
  | [], [], S, h, hr => hr
  | [], _ :: _, S, h, hr => h.elim
  | _ :: _, [], S, h, hr => h.elim
  | a :: as, b :: bs, S, h, ⟨S1, S2, h1, h2, h3, h4⟩ => ⟨S1, S2, h1, h2, h.1.rep h3, CFits.holds h.2 h4⟩

theorem HoldsM.step {m : Mode} {M S : Nat → Prop} {w : World} {σ : Store} {Sg : World → Prop} (h : HoldsM m M S w σ Sg) : ∃ Sp Su, Holds M w (spOf m) Sp ∧ Holds M w σ Su ∧ (∀ b, S b ↔ Sp b ∨ Su b) ∧ (∀ b, Sp b → ¬ Su b) ∧
    ∀ (M' Su' : Nat → Prop) (w1 : World) (σ1 : Store), Ev Su w w1 → (∀ b, b < w.heap.size → Su b ∨ M' b → M b) → Holds M' w1 σ1 Su' → (∀ b, Su' b → Su b ∨ w.heap.size ≤ b) → (∀ pre σp ex, m = .reg pre σp ex → Sg w1) ∧ HoldsM (m.hap true) M' (or2 Sp Su') w1 σ1 Sg := by
  cases m with
  | plain => exact ⟨no, S, fun _ h => h, h, fun b => ⟨.inr, fun h => h.elim (fun h => h.elim) id⟩, fun _ h => h.elim, fun M' Su' w1 σ1 hev hm h1 hs => ⟨fun _ _ _ e => (by cases e), Holds.iff h1 fun b => ⟨fun h => h.elim (fun h => h.elim) id, .inr⟩⟩⟩
  | rest => exact ⟨no, S, fun _ h => h, h, fun b => ⟨.inr, fun h => h.elim (fun h => h.elim) id⟩, fun _ h => h.elim, fun M' Su' w1 σ1 hev hm h1 hs => ⟨fun _ _ _ e => (by cases e), Holds.iff h1 fun b => ⟨fun h => h.elim (fun h => h.elim) id, .inr⟩⟩⟩
  | last ex => exact ⟨no, S, fun _ h => h, h, fun b => ⟨.inr, fun h => h.elim (fun h => h.elim) id⟩, fun _ h => h.elim, fun M' Su' w1 σ1 hev hm h1 hs => ⟨fun _ _ _ e => (by cases e), Holds.iff h1 fun b => ⟨fun h => h.elim (fun h => h.elim) id, .inr⟩⟩⟩
  | reg pre σp ex =>
    obtain ⟨ws, U, Sp, Su, h⟩ := h
    refine ⟨Sp, Su, h.hp, h.hu, h.all, h.dis, fun M' Su' w1 σ1 hev hm h1 hs => ?_⟩
    have hsg1 : Sg w1 := by
      have hnow := h.now
      rw [h.sg] at hnow ⊢
      intro b hb hU
      rw [← hnow b hb hU]
      exact hev.block b (Nat.lt_of_lt_of_le hb h.size) fun h' => by
        rcases h.un b h' with h' | h'
        · exact hU h'
        · omega
    refine ⟨fun _ _ _ _ => hsg1, ws, U, Sp, Su', h.sg, hsg1, Nat.le_trans h.size hev.size, h.hp.ev hev hm (fun b hb h' => h.dis b hb h'), h1, fun b => Iff.rfl, fun b hb h' => ?_, fun b hb => ?_, h.kept, fun h => by cases h⟩
    · rcases hs b h' with h' | h'
      · exact h.dis b hb h'
      · have := h.hp.lt b hb; omega
    · rcases hs b hb with h' | h'
      · exact h.un b h'
      · exact .inr (Nat.le_trans h.size h')

/-! ### What a function does -/
def Post (X S : Nat → Prop) (w : World) (R : AV → List Chunk → Prop) (e : Ending) (w' : World) : Prop :=
  ∃ v a cs S', e = .returned v ∧ R a cs ∧ Rep (or2 S' X) w' a v ∧ HoldsL (or2 S' X) w' cs S' ∧ Ev S w w' ∧ ∀ b, S' b → S b ∨ w.heap.size ≤ b
/-- Called with such values, and such memory of its caller's own, the function returns such a one, and leaves such memory; all else is as it was. -/
structure FSpec (P : Program) (g : FuncId) (args : List AV) (cs : List Chunk) (R : AV → List Chunk → Prop) : Prop where
  out : ∀ (X S : Nat → Prop) (w : World) (xs : List Value), (∀ b, S b → ¬ X b) → (∀ b, X b → b < w.heap.size) → HoldsL (or2 S X) w cs S → Reps (or2 S X) w args xs → Calls P g xs.toArray w (Post X S w R)
theorem FSpec.mono {P : Program} {g : FuncId} {args : List AV} {cs : List Chunk} {R R' : AV → List Chunk → Prop} (h : FSpec P g args cs R) (hR : ∀ a cs, R a cs → R' a cs) : FSpec P g args cs R' :=
  ⟨fun X S w xs h1 h2 h3 h4 => (h.out X S w xs h1 h2 h3 h4).mono fun e w' ⟨v, a, cs', S', k1, k2, k3⟩ => ⟨v, a, cs', S', k1, hR _ _ k2, k3⟩⟩
theorem FSpec.fit {P : Program} {g : FuncId} {args args' : List AV} {cs cs' : List Chunk} {R : AV → List Chunk → Prop} (h : FSpec P g args' cs' R) (ha : Fits args args') (hc : CFits cs cs') : FSpec P g args cs R :=
  ⟨fun X S w xs h1 h2 h3 h4 => h.out X S w xs h1 h2 (hc.holds h3) (ha.reps h4)⟩
def enA : Nat → List AV → AEnv
  | _, [] => []
  | i, v :: vs => (i, v) :: enA (i + 1) vs
theorem enA_rep {M : Nat → Prop} {w : World} : ∀ {as : List AV} {xs : List Value} (i : Nat), Reps M w as xs → EnvRep M w (enA i as) (en i xs)
  | [], xs, i, h => fun t => by show Rep M w (getA [] t) _; show Rep M w .any _; unfold Rep; trivial
  | a :: as, xs, i, h => by
    unfold Reps at h
    obtain ⟨x, r, rfl, h1, h2⟩ := h
    intro t
    show Rep M w (getA ((i, a) :: enA (i + 1) as) t) (get ((i, x) :: en (i + 1) r) t)
    rw [getA_cons, get_cons]
    split
    · exact h1
    · exact enA_rep (i + 1) h2 t
def Ctx.post (c : Ctx) (R : AV → List Chunk → Prop) : Ending → World → Prop := Post c.X c.S c.w R

section
variable {P : Program} {L : List TD} {n : Nat} {Q : Exit → Act → World → Prop} {c : Ctx}
/-- The call's beginning. args': the arguments as the walk tells them; ks: the chunks' keys. -/
theorem a_enter (hT : TOk P L) {k : FuncId} {fn : Func} {cd : Code} {args : List AV} {cs : List Chunk} {R : AV → List Chunk → Prop} (args' : List AV) (ks : List Nat) (hf : P.funcs[k]? = some fn) (hb : fn.body = some cd) (hn : fn.ntmps = n) (hl : Nat.ble args'.length n = true)
    (ha : Fits args args') (h : ∀ c : Ctx, DenA c P n (bodyPost P fn (c.post R)) (.code [] cd) (enA 0 args') (zipk ks cs)) : FSpec P k args cs R := by
  refine ⟨fun X S w xs h1 h2 h3 h4 => ?_⟩
  have h5 := ha.reps h4
  have hlen := h5.len
  refine V.enter hT xs hf hb hn (by rw [hlen]; exact hl) ⟨?_⟩
  exact (h ⟨X, S, w, h1, h2⟩).out trivial w S (en 0 xs) (fun _ => True) ⟨enA_rep 0 h5, Ev.refl _ _, fun b hb => .inl hb⟩ (h3.zip ks)
theorem a_go (hT : TOk P L) {s : AMS} {f : AEnv} {σ : Store} {r : ARes} (h : machA L n fuel s f σ [] = r) (hob : r.ob.map (·.1) = r.ob.map (·.2)) (hd : DenOA c P n Q r) : DenA c P n Q s f σ :=
  ⟨machA_sound hT fuel s f σ [] (h ▸ OT.of hob) (h ▸ hd)⟩

variable {s : AMS} {f f' : AEnv} {σ σ' : Store} {ob : Obs} {κ : List Kt} {all : Array Oper} {dec : List Nat} {o : Oper} {al : Bool} {rest : List (Oper × Bool)} {m : Mode}

/-! #### Branches -/
theorem a_if (hT : TOk P L) {x y : Code} {b : Bool} (h : machA L n fuel s f σ [] = ⟨.br κ b x y, f', σ', ob⟩) (hob : ob.map (·.1) = ob.map (·.2)) (h1 : b = true → DenA c P n Q (.code κ x) f' σ') (h2 : b = false → DenA c P n Q (.code κ y) f' σ') : DenA c P n Q s f σ :=
  a_go hT h hob fun _ w S fc Sg hs hh => by
    cases b
    · exact (h2 rfl).out trivial w S fc Sg hs hh
    · exact (h1 rfl).out trivial w S fc Sg hs hh
theorem a_t (hT : TOk P L) {x y : Code} {b : Bool} (h : machA L n fuel s f σ [] = ⟨.br κ b x y, f', σ', ob⟩) (hob : ob.map (·.1) = ob.map (·.2)) (hb : b = true) (h1 : DenA c P n Q (.code κ x) f' σ') : DenA c P n Q s f σ :=
  a_if hT h hob (fun _ => h1) (fun e => by rw [hb] at e; cases e)
theorem a_f (hT : TOk P L) {x y : Code} {b : Bool} (h : machA L n fuel s f σ [] = ⟨.br κ b x y, f', σ', ob⟩) (hob : ob.map (·.1) = ob.map (·.2)) (hb : b = false) (h1 : DenA c P n Q (.code κ y) f' σ') : DenA c P n Q s f σ :=
  a_if hT h hob (fun e => by rw [hb] at e; cases e) (fun _ => h1)
/-- A guard is decided: '&&', '||'. -/
theorem a_g (hT : TOk P L) {d : Nat} {b : Bool} (h : machA L n fuel s f σ [] = ⟨.grd m κ all dec d b o al rest, f', σ', ob⟩) (hob : ob.map (·.1) = ob.map (·.2)) {hh : Nat} (hd : getA f' d = .v (.bool b) hh)
    (h1 : b = true → DenA c P n Q (.ops m κ all (d :: dec) ((o, al) :: rest)) ((d, .v (.bool true) 0) :: f') σ') (h2 : b = false → DenA c P n Q (.ops m κ all (d :: dec) ((o, al) :: rest)) ((d, .v (.bool false) 0) :: f') σ') : DenA c P n Q s f σ :=
  a_go hT h hob fun hok w S fc Sg hs hh => by
    have hok' : ∀ dec', (AMS.ops m κ all dec' ((o, al) :: rest)).ok := fun dec' => by
      cases m with
      | last ex => obtain ⟨h1, h2, h3⟩ := hok; exact ⟨h1, .inl ⟨o, by rw [h2, h3]⟩⟩
      | _ => trivial
    have hx : get fc d = .bool b := by have := hs.env d; rw [hd] at this; exact rep_v this
    have key : ∀ b', b' = b → Sat c w S ((d, .v (.bool b') 0) :: f') ((d, .bool b') :: fc) := fun b' e => ⟨hs.env.put (some d) mk_v, hs.ev, hs.sub⟩
    show OR P (conM Sg m) all (post P Q κ) ((o, al) :: rest) (act n fc) w
    cases b
    · have := (h2 rfl).out (hok' _) w S ((d, .bool false) :: fc) Sg (key false rfl) hh
      change OR P (conM Sg m) all (post P Q κ) ((o, al) :: rest) (act n ((d, .bool false) :: fc)) w at this
      rwa [act_same hx] at this
    · have := (h1 rfl).out (hok' _) w S ((d, .bool true) :: fc) Sg (key true rfl) hh
      change OR P (conM Sg m) all (post P Q κ) ((o, al) :: rest) (act n ((d, .bool true) :: fc)) w at this
      rwa [act_same hx] at this
theorem a_gt (hT : TOk P L) {d : Nat} {b : Bool} (h : machA L n fuel s f σ [] = ⟨.grd m κ all dec d b o al rest, f', σ', ob⟩) (hob : ob.map (·.1) = ob.map (·.2)) {hh : Nat} (hd : getA f' d = .v (.bool b) hh) (hb : b = true)
    (h1 : DenA c P n Q (.ops m κ all (d :: dec) ((o, al) :: rest)) ((d, .v (.bool true) 0) :: f') σ') : DenA c P n Q s f σ := a_g hT h hob hd (fun _ => h1) (fun e => by rw [hb] at e; cases e)
theorem a_gf (hT : TOk P L) {d : Nat} {b : Bool} (h : machA L n fuel s f σ [] = ⟨.grd m κ all dec d b o al rest, f', σ', ob⟩) (hob : ob.map (·.1) = ob.map (·.2)) {hh : Nat} (hd : getA f' d = .v (.bool b) hh) (hb : b = false)
    (h1 : DenA c P n Q (.ops m κ all (d :: dec) ((o, al) :: rest)) ((d, .v (.bool false) 0) :: f') σ') : DenA c P n Q s f σ := a_g hT h hob hd (fun e => by rw [hb] at e; cases e) (fun _ => h1)

/-! #### Effects -/
/-- Behind an effect: what was found, and what there is now. -/
def After (Y Su : Nat → Prop) (w : World) (R : AV → Store → Prop) (v : Value) (w1 : World) : Prop :=
  ∃ a σ1 Su', R a σ1 ∧ Rep (or2 Su' Y) w1 a v ∧ Holds (or2 Su' Y) w1 σ1 Su' ∧ Ev Su w w1 ∧ ∀ b, Su' b → Su b ∨ w.heap.size ≤ b
def Does (P : Program) (Y Su : Nat → Prop) (w : World) (R : AV → Store → Prop) : Result Next → Prop
  | .ok (.value v) w1 => After Y Su w R v w1
  | .ok .skip w1 => After Y Su w R undef w1
  | .ok (.enter k args) w0 => Calls P k args w0 fun e w1 => ∃ v, e = .returned v ∧ After Y Su w R v w1
  | _ => False
/-- An operation that does something to one's own memory. -/
theorem a_eff (hT : TOk P L) (R : AV → Store → Prop) (h : machA L n fuel s f σ [] = ⟨.op m κ all dec o true rest, f', σ', ob⟩) (hob : ob.map (·.1) = ob.map (·.2))
    (he : ∀ (Y Su : Nat → Prop) (w : World) (fc : Env), (∀ b, Su b → ¬ Y b) → (∀ b, Y b → b < w.heap.size) → Holds (or2 Su Y) w σ' Su → EnvRep (or2 Su Y) w f' fc → Does P Y Su w R ((execOp (ev n fc) o).run P w))
    (hk : ∀ a σ1, R a σ1 → DenA c P n Q (.ops (m.hap true) κ all dec rest) (putA f' o.dst a) σ1) : DenA c P n Q s f σ := by
  refine a_go hT h hob fun hok w S fc Sg hs hh => ?_
  have haa : (act n fc).eval = ev n fc := funext (act_eval n fc)
  have hcon : conM Sg (m.hap true) = conM Sg m := by cases m <;> rfl
  have hok' : (AMS.ops (m.hap true) κ all dec rest).ok := by
    cases m with
    | last ex => obtain ⟨h1, h2, h3⟩ := hok; exact ⟨h1, .inr h3⟩
    | _ => trivial
  obtain ⟨Sp, Su, hp, hu, hall, hdis, hstep⟩ := hh.step
  -- what the others own, and the region's part that is left alone
  have hY : ∀ b, or2 Sp c.X b → b < w.heap.size := fun b hb => hb.elim (fun hb => hp.lt b hb) fun hb => Nat.lt_of_lt_of_le (c.old b hb) hs.ev.size
  have hdisX : ∀ b, S b → ¬ c.X b := fun b hb hx => (hs.sub b hb).elim (fun h => c.dis b h hx) fun h => Nat.lt_irrefl _ (Nat.lt_of_le_of_lt h (c.old b hx))
  have hd : ∀ b, Su b → ¬ or2 Sp c.X b := fun b hb h => h.elim (fun h => hdis b h hb) (hdisX b ((hall b).2 (.inr hb)))
  have hM1 : ∀ b, or2 Su (or2 Sp c.X) b → or2 S c.X b := fun b h => h.elim (fun h => .inl ((hall b).2 (.inr h))) fun h => h.elim (fun h => .inl ((hall b).2 (.inl h))) .inr
  have hdo := he (or2 Sp c.X) Su w fc hd hY (hu.of fun b _ h => hM1 b h) (hs.env.of fun b _ h => hM1 b h)
  -- what is so behind it
  have next : ∀ v w1, After (or2 Sp c.X) Su w R v w1 → Keep (conM Sg m) rest.isEmpty w1 ∧ OR P (conM Sg m) all (post P Q κ) rest ((act n fc).put o.dst v) w1 := by
    rintro v w1 ⟨a, σ1, Su', hR, hrep, hh1, hev, hsub⟩
    have hM2 : ∀ b, or2 (or2 Sp Su') c.X b → or2 Su' (or2 Sp c.X) b := fun b h => h.elim (fun h => h.elim (fun h => .inr (.inl h)) .inl) fun h => .inr (.inr h)
    have hm : ∀ b, b < w.heap.size → Su b ∨ or2 (or2 Sp Su') c.X b → or2 S c.X b := fun b hb h => by
      rcases h with h | (h | h) | h
      · exact .inl ((hall b).2 (.inr h))
      · exact .inl ((hall b).2 (.inl h))
      · rcases hsub b h with h | h
        · exact .inl ((hall b).2 (.inr h))
        · omega
      · exact .inr h
    obtain ⟨hsg, hh2⟩ := hstep (or2 (or2 Sp Su') c.X) Su' w1 σ1 hev hm (hh1.of fun b _ h => hM2 b h) hsub
    refine ⟨?_, ?_⟩
    · cases m with
      | plain => trivial
      | rest => exact .inr trivial
      | last ex => obtain ⟨h1, _, h3⟩ := hok; exact .inl (by rw [h1, h3]; rfl)
      | reg pre σp ex => exact .inr (hsg _ _ _ rfl)
    · rw [act_put, ← hcon]
      refine (hk a σ1 hR).out hok' w1 (or2 Sp Su') (put fc o.dst v) Sg ⟨?_, ?_, ?_⟩ hh2
      · exact EnvRep.put (hs.env.pass hev hm) o.dst (hrep.of fun b _ h => hM2 b h)
      · exact hs.ev.then hev fun b hb h => (hs.sub b ((hall b).2 (.inr h))).elim id fun h => by omega
      · rintro b (h | h)
        · exact hs.sub b ((hall b).2 (.inl h))
        · rcases hsub b h with h | h
          · exact hs.sub b ((hall b).2 (.inr h))
          · exact .inr (Nat.le_trans hs.ev.size h)
  refine .inr ⟨rfl, .inl ?_⟩
  unfold Oper.wp
  rw [haa]
  revert hdo
  generalize (execOp (ev n fc) o).run P w = res
  intro hdo
  cases res with
  | halt _ _ => exact hdo.elim
  | ok nx w1 =>
    cases nx with
    | value v => exact next v w1 hdo
    | skip => exact next undef w1 hdo
    | enter k args =>
      refine Calls.mono hdo fun e w2 ⟨v, he, hv⟩ => ?_
      subst he
      exact next v w2 hv
    | _ => exact hdo.elim
end
end Go.Proofs.Ytepjnmocepkfjaa.A
