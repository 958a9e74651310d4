/- Blocks of one's own, lent: a function that only reads them is called; it takes them as frozen. It holds of any program. -/
import Derived.Test.YtepjnmocepkfjaaTd
set_option linter.unusedVariables false
set_option linter.unusedSectionVars false
set_option linter.unusedSimpArgs false
namespace Go.Proofs.Ytepjnmocepkfjaa.A
open V

def memN (l : List Nat) (k : Nat) : Bool := match l with | [] => false | x :: r => match Nat.beq x k with | true => true | false => memN r k
/-- Pointers to lent blocks, and lent rows, as what lies frozen. -/
def lendK (τ : Store) (ls : List Nat) : List AV → Option (List AV × Obs)
  | [] => some ([], [])
  | a :: as => match lendK τ ls as with
    | none => none
    | some (bs, o) => match a with
      | .v (.pointer (some ⟨g, 0, none⟩)) k => match memN ls k with
        | true => match look τ k with
          | some (.blk g' _ cs) => match datsK cs with
            | some ds => some (.d (.p ds) :: bs, (ptrV g none, ptrV g' none) :: o)
            | none => none
          | _ => none
        | false => some (.v (.pointer (some ⟨g, 0, none⟩)) k :: bs, o)
      | .row x k => match memN ls k with
        | true => match look τ k with
          | some (.row x' _ kk es) => some (.d (.sl kk es) :: bs, (x, x') :: o)
          | _ => none
        | false => some (.row x k :: bs, o)
      | a => some (a :: bs, o)
def Lent (τ : Store) (ls : List Nat) (b : Nat) : Prop := ∃ k, memN ls k = true ∧ ((∃ t cs, look τ k = some (.blk b t cs)) ∨ ∃ x e kk es, look τ k = some (.row x e kk es) ∧ V.ob x b)
theorem look_take {M : Nat → Prop} {w : World} {τ : Store} {S : Nat → Prop} {k : Nat} {c : Chunk} (h : Holds M w τ S) (hl : look τ k = some c) : ∃ S1, (∀ b, S1 b → S b) ∧ CRep M w c S1 := by
  obtain ⟨S1, S2, h1, h2, h3, h4⟩ := h.take hl
  exact ⟨S1, fun b hb => (h1 b).2 (.inl hb), h3⟩
theorem row_lent {M M' : Nat → Prop} {S1 : Nat → Prop} {w : World} {x : Value} {e k : Nat} {es : List (List Dat)} (hc : CRep M w (.row x e k es) S1) (hm : ∀ b, M' b → M b ∧ ¬ V.ob x b) : DRep M' w (.sl k es) x := by
  obtain ⟨hS1, hk, xs, ho, hv⟩ := hc
  have hlen := hv.len
  unfold DRep
  rcases ho.2 with ⟨rfl, h0⟩ | ⟨g, cap, cur, rfl, hb, hh, hn, hcl, hs, ht⟩
  · have : es = [] := List.eq_nil_of_length_eq_zero h0
    subst this
    exact ⟨none, 0, rfl, by simp, by simp, by simp⟩
  · refine ⟨_, cap, rfl, hn, hk, fun hne => ⟨_, rfl, fun h => (hm _ h).2 rfl, (Array.getElem?_eq_some_iff.1 hh).1, SRep.flat.2 (LRep.mk fun j d hj => ?_)⟩⟩
    obtain ⟨y, hy, hr⟩ := hv.get j d hj
    rw [Nat.zero_add]
    exact ⟨y, ho.cells (g := g) rfl j y hy, hr.ev (Ev.refl no w) fun b _ h => h.elim (fun h => h.elim) fun h => (hm b h).1⟩
theorem lend_rep {M M' : Nat → Prop} {w : World} {τ : Store} {S : Nat → Prop} {ls : List Nat} (h : Holds M w τ S) (hm : ∀ b, M' b → M b ∧ ¬ Lent τ ls b) :
    ∀ {as bs : List AV} {o : Obs} {xs : List Value}, lendK τ ls as = some (bs, o) → o.map (·.1) = o.map (·.2) → Reps M w as xs → Reps M' w bs xs
  | [], bs, o, xs, hl, ho, hr => by
    simp [lendK] at hl
    obtain ⟨rfl, rfl⟩ := hl
    unfold Reps at hr ⊢
    exact hr
  | a :: as, bs, o, xs, hl, ho, hr => by
    unfold lendK at hl
    unfold Reps at hr
    obtain ⟨x, r, rfl, hx, hr⟩ := hr
    cases hk : lendK τ ls as with
    | none => rw [hk] at hl; cases hl
    | some p =>
      obtain ⟨bs', o'⟩ := p
      rw [hk] at hl
      simp only at hl
      have old : ∀ (hl : some (a :: bs', o') = some (bs, o)), Reps M' w bs (x :: r) := fun hl => by
        simp only [Option.some.injEq, Prod.mk.injEq] at hl
        obtain ⟨rfl, rfl⟩ := hl
        exact Reps.cons (hx.of fun b _ hb => (hm b hb).1) (lend_rep h hm hk ho hr)
      split at hl
      · rename_i g k
        split at hl
        · rename_i hmem
          split at hl
          · rename_i g' t cs hlook
            split at hl
            · rename_i ds hds
              simp only [Option.some.injEq, Prod.mk.injEq] at hl
              obtain ⟨rfl, rfl⟩ := hl
              simp only [List.map_cons, List.cons.injEq, ptrV, Value.pointer.injEq, Option.some.injEq, Addr.mk.injEq] at ho
              obtain ⟨⟨rfl, _⟩, ho⟩ := ho
              refine Reps.cons ?_ (lend_rep h hm hk ho hr)
              obtain ⟨S1, hS1, hS, xs', hb, hrs, h1⟩ := look_take h hlook
              have hv := datsK_rep hds hrs
              unfold Rep at hx
              subst hx
              unfold Rep DRep
              have hlt := hb.lt
              refine ⟨⟨g, 0, none⟩, rfl, fun hb' => (hm _ hb').2 ⟨k, hmem, .inl ⟨t, cs, hlook⟩⟩, hlt, LRep.mk fun j d hd => ?_⟩
              obtain ⟨y, hy, hyr⟩ := hv.get j d hd
              refine ⟨y, ?_, hyr.ev (Ev.refl no w) fun b hb h => h.elim (fun h => h.elim) fun h => (hm b h).1⟩
              have := hb.cell j hy
              rw [add_off]
              simpa using this
            · cases hl
          · cases hl
        · exact old hl
      · rename_i x0 k
        split at hl
        · rename_i hmem
          split at hl
          · rename_i x' e kk es hlook
            simp only [Option.some.injEq, Prod.mk.injEq] at hl
            obtain ⟨rfl, rfl⟩ := hl
            simp only [List.map_cons, List.cons.injEq] at ho
            obtain ⟨rfl, ho⟩ := ho
            refine Reps.cons ?_ (lend_rep h hm hk ho hr)
            obtain ⟨S1, hS1, hc⟩ := look_take h hlook
            unfold Rep at hx
            obtain ⟨rfl, _⟩ := hx
            unfold Rep
            exact row_lent hc fun b hb => ⟨(hm b hb).1, fun ho' => (hm b hb).2 ⟨k, hmem, .inr ⟨_, e, kk, es, hlook, ho'⟩⟩⟩
          · cases hl
        · exact old hl
      · exact old hl
/-- What doesn't hang on who owns what. -/
class FreeA (a : AV) : Prop where
  out : ∀ (M M' : Nat → Prop) (w : World) (v : Value), Rep M w a v → Rep M' w a v
class FreeAs (as : List AV) : Prop where
  out : ∀ (M M' : Nat → Prop) (w : World) (vs : List Value), Reps M w as vs → Reps M' w as vs
class FreeC (c : Chunk) : Prop where
  out : ∀ (M M' : Nat → Prop) (w : World) (S : Nat → Prop), CRep M w c S → CRep M' w c S
class FreeCs (cs : List Chunk) : Prop where
  out : ∀ c ∈ cs, FreeC c
instance FreeA.v (x : Value) (h : Nat) : FreeA (.v x h) := ⟨fun M M' w v hr => by unfold Rep at hr ⊢; exact hr⟩
instance FreeA.row (x : Value) (h : Nat) : FreeA (.row x h) := ⟨fun M M' w v hr => by unfold Rep at hr ⊢; exact hr⟩
instance FreeA.dv (x : Value) : FreeA (.d (.v x)) := ⟨fun M M' w v hr => by unfold Rep DRep at hr ⊢; exact hr⟩
instance FreeAs.nil : FreeAs [] := ⟨fun M M' w v hr => by unfold Reps at hr ⊢; exact hr⟩
instance FreeAs.cons {a : AV} {as : List AV} [h : FreeA a] [h2 : FreeAs as] : FreeAs (a :: as) := ⟨fun M M' w v hr => by
  unfold Reps at hr
  obtain ⟨x, r, rfl, h3, h4⟩ := hr
  exact Reps.cons (h.out M M' w x h3) (h2.out M M' w r h4)⟩
instance FreeA.agg {as : List AV} [h : FreeAs as] : FreeA (.agg as) := ⟨fun M M' w v hr => by
  unfold Rep at hr ⊢
  obtain ⟨ys, e, h1, h2⟩ := hr
  exact ⟨ys, e, h.out M M' w ys h1, h2⟩⟩
instance FreeA.tup {as : List AV} [h : FreeAs as] : FreeA (.tup as) := ⟨fun M M' w v hr => by
  unfold Rep at hr ⊢
  obtain ⟨ys, e, h1⟩ := hr
  exact ⟨ys, e, h.out M M' w ys h1⟩⟩
instance FreeC.blk {g : Nat} {t : TypeId} {cs : List AV} [h : FreeAs cs] : FreeC (.blk g t cs) := ⟨fun M M' w S ⟨h1, xs, h2, h3, h4⟩ => ⟨h1, xs, h2, h.out M M' w xs h3, h4⟩⟩
theorem bytes_free {M M' : Nat → Prop} {w : World} : ∀ (l : List UInt8) {xs : List Value}, VRep M w (l.map fun b => .v (byV b)) xs → VRep M' w (l.map fun b => .v (byV b)) xs
  | [], xs, h => by unfold VRep at h ⊢; exact h
  | b :: l, xs, h => by
    simp only [List.map_cons] at h ⊢
    unfold VRep at h
    obtain ⟨x, r, rfl, h1, h2⟩ := h
    refine VRep.cons ?_ (bytes_free l h2)
    unfold DRep at h1 ⊢
    exact h1
instance FreeC.rowB (x : Value) (e : TypeId) (l : List UInt8) : FreeC (.row x e 1 (l.map eB)) := ⟨fun M M' w S ⟨h1, h2, xs, h3, h4⟩ => by
  refine ⟨h1, h2, xs, h3, ?_⟩
  rw [flat_eB] at h4 ⊢
  exact bytes_free l h4⟩
theorem ents_free {β : Type} {kv : Int → Value} {va : β → AV} {M M' : Nat → Prop} {w : World} (hv : ∀ b, FreeA (va b)) : ∀ (l : List (Int × β)) {es : List MapEntry}, EntsRep M w (mapG kv va l) es → EntsRep M' w (mapG kv va l) es
  | [], es, h => h
  | p :: l, es, ⟨e, r', h1, h5, h6⟩ => ⟨e, r', h1, ⟨h5.1, (hv p.2).out M M' w _ h5.2⟩, ents_free hv l h6⟩
instance FreeC.map {β : Type} {kv : Int → Value} {va : β → AV} (r : Nat) (l : List (Int × β)) [hv : ∀ b, FreeA (va b)] : FreeC (.map r (mapG kv va l)) := ⟨fun M M' w S ⟨h1, ents, clock, h2, h3, h4⟩ => by
  refine ⟨h1, ents, clock, h2, ?_, h4⟩
  exact ents_free hv l h3⟩
instance FreeCs.nil : FreeCs [] := ⟨fun c h => by simp at h⟩
instance FreeCs.cons {c : Chunk} {cs : List Chunk} [h : FreeC c] [h2 : FreeCs cs] : FreeCs (c :: cs) := ⟨fun d hd => by
  rcases List.mem_cons.1 hd with rfl | hd
  · exact h
  · exact h2.out d hd⟩
theorem FreeCs.holds {M M' : Nat → Prop} {w : World} : ∀ {cs : List Chunk} {S : Nat → Prop}, FreeCs cs → HoldsL M w cs S → HoldsL M' w cs S
  | [], S, h, hr => hr
  | c :: cs, S, h, ⟨S1, S2, h1, h2, h3, h4⟩ => ⟨S1, S2, h1, h2, (h.out c (by simp)).out _ _ _ _ h3, FreeCs.holds ⟨fun d hd => h.out d (by simp [hd])⟩ h4⟩
section
variable {P : Program} {L : List TD} {n : Nat} {Q : Exit → Act → World → Prop} {c : Ctx}
variable {s : AMS} {f f' : AEnv} {σ σ' : Store} {ob : Obs} {κ : List Kt} {all : Array Oper} {dec : List Nat} {o : Oper} {al : Bool} {rest : List (Oper × Bool)} {m : Mode}
/-- An operation that does something to one's own memory; what is left alone is known. -/
theorem a_effP (hT : TOk P L) (R : AV → Store → Prop) (h : machA L n fuel s f σ [] = ⟨.op m κ all dec o true rest, f', σ', ob⟩) (hob : ob.map (·.1) = ob.map (·.2))
    (he : ∀ (Y Su Sp : Nat → Prop) (w : World) (fc : Env), (∀ b, Su b → ¬ Y b) → (∀ b, Y b → b < w.heap.size) → Holds (or2 Su Y) w σ' Su → Holds (or2 Su Y) w (spOf m) Sp → (∀ b, Sp b → Y b) → EnvRep (or2 Su Y) w f' fc → Does P Y Su w R ((execOp (ev n fc) o).run P w))
    (hk : ∀ a σ1, R a σ1 → DenA c P n Q (.ops (m.hap true) κ all dec rest) (putA f' o.dst a) σ1) : DenA c P n Q s f σ := by
  refine a_go hT h hob fun hok w S fc Sg hs hh => ?_
  have haa : (act n fc).eval = ev n fc := funext (act_eval n fc)
  have hcon : conM Sg (m.hap true) = conM Sg m := by cases m <;> rfl
  have hok' : (AMS.ops (m.hap true) κ all dec rest).ok := by
    cases m with
    | last ex => obtain ⟨h1, h2, h3⟩ := hok; exact ⟨h1, .inr h3⟩
    | _ => trivial
  obtain ⟨Sp, Su, hp, hu, hall, hdis, hstep⟩ := hh.step
  have hY : ∀ b, or2 Sp c.X b → b < w.heap.size := fun b hb => hb.elim (fun hb => hp.lt b hb) fun hb => Nat.lt_of_lt_of_le (c.old b hb) hs.ev.size
  have hdisX : ∀ b, S b → ¬ c.X b := fun b hb hx => (hs.sub b hb).elim (fun h => c.dis b h hx) fun h => Nat.lt_irrefl _ (Nat.lt_of_le_of_lt h (c.old b hx))
  have hd : ∀ b, Su b → ¬ or2 Sp c.X b := fun b hb h => h.elim (fun h => hdis b h hb) (hdisX b ((hall b).2 (.inr hb)))
  have hM1 : ∀ b, or2 Su (or2 Sp c.X) b → or2 S c.X b := fun b h => h.elim (fun h => .inl ((hall b).2 (.inr h))) fun h => h.elim (fun h => .inl ((hall b).2 (.inl h))) .inr
  have hdo := he (or2 Sp c.X) Su Sp w fc hd hY (hu.of fun b _ h => hM1 b h) (hp.of fun b _ h => hM1 b h) (fun b hb => .inl hb) (hs.env.of fun b _ h => hM1 b h)
  have next : ∀ v w1, After (or2 Sp c.X) Su w R v w1 → Keep (conM Sg m) rest.isEmpty w1 ∧ OR P (conM Sg m) all (post P Q κ) rest ((act n fc).put o.dst v) w1 := by
    rintro v w1 ⟨a, σ1, Su', hR, hrep, hh1, hev, hsub⟩
    have hM2 : ∀ b, or2 (or2 Sp Su') c.X b → or2 Su' (or2 Sp c.X) b := fun b h => h.elim (fun h => h.elim (fun h => .inr (.inl h)) .inl) fun h => .inr (.inr h)
    have hm : ∀ b, b < w.heap.size → Su b ∨ or2 (or2 Sp Su') c.X b → or2 S c.X b := fun b hb h => by
      rcases h with h | (h | h) | h
      · exact .inl ((hall b).2 (.inr h))
      · exact .inl ((hall b).2 (.inl h))
      · rcases hsub b h with h | h
        · exact .inl ((hall b).2 (.inr h))
        · omega
      · exact .inr h
    obtain ⟨hsg, hh2⟩ := hstep (or2 (or2 Sp Su') c.X) Su' w1 σ1 hev hm (hh1.of fun b _ h => hM2 b h) hsub
    refine ⟨?_, ?_⟩
    · cases m with
      | plain => trivial
      | rest => exact .inr trivial
      | last ex => obtain ⟨h1, _, h3⟩ := hok; exact .inl (by rw [h1, h3]; rfl)
      | reg pre σp ex => exact .inr (hsg _ _ _ rfl)
    · rw [act_put, ← hcon]
      refine (hk a σ1 hR).out hok' w1 (or2 Sp Su') (put fc o.dst v) Sg ⟨?_, ?_, ?_⟩ hh2
      · exact EnvRep.put (hs.env.pass hev hm) o.dst (hrep.of fun b _ h => hM2 b h)
      · exact hs.ev.then hev fun b hb h => (hs.sub b ((hall b).2 (.inr h))).elim id fun h => by omega
      · rintro b (h | h)
        · exact hs.sub b ((hall b).2 (.inl h))
        · rcases hsub b h with h | h
          · exact hs.sub b ((hall b).2 (.inr h))
          · exact .inr (Nat.le_trans hs.ev.size h)
  refine .inr ⟨rfl, .inl ?_⟩
  unfold Oper.wp
  rw [haa]
  revert hdo
  generalize (execOp (ev n fc) o).run P w = res
  intro hdo
  cases res with
  | halt _ _ => exact hdo.elim
  | ok nx w1 =>
    cases nx with
    | value v => exact next v w1 hdo
    | skip => exact next undef w1 hdo
    | enter k args =>
      refine Calls.mono hdo fun e w2 ⟨v, he, hv⟩ => ?_
      subst he
      exact next v w2 hv
    | _ => exact hdo.elim
/-- A function is called that reads blocks of one's own: ls: their keys. ks: the keys of the memory that it gets; ks': the keys of what it leaves. -/
theorem a_callZ (hT : TOk P L) {g : FuncId} {xs : Array Operand} {ts : Array TypeId} {args0 args : List AV} {cs cs0 : List Chunk} {σr : Store} {R : AV → List Chunk → Prop} {o2 : Obs} (h : machA L n fuel s f σ [] = ⟨.op m κ all dec o true rest, f', σ', ob⟩) (hob : ob.map (·.1) = ob.map (·.2)) (ho : o.op = .call ⟨.value (.func g), xs, ts⟩) (hb : callOk P g = true)
    (spec : FSpec P g args cs R) (ls ks ks' : List Nat) (ht : takes σ' ks = some (cs0, σr)) (hl : lendK (spOf m ++ σr) ls (evAs n f' xs.toList) = some (args0, o2)) (ho2 : o2.map (·.1) = o2.map (·.2)) (ha : Fits args0 args) (hc : CFits cs0 cs) (hfree : ∀ a cs', R a cs' → FreeA a ∧ FreeCs cs')
    (hk : ∀ a cs', R a cs' → rekK ks' cs' σr fun σ1 => DenA c P n Q (.ops (m.hap true) κ all dec rest) (putA f' o.dst a) σ1) : DenA c P n Q s f σ := by
  refine a_effP hT (fun a σ1 => ∃ cs', R a cs' ∧ σ1 = zipk ks' cs' ++ σr) h hob (fun Y Su Sp w fc hd hY hh hp hSp he => ?_) (fun a σ1 ⟨cs', hR, hs⟩ => by subst hs; have := hk a cs' hR; rwa [rekK_eq] at this)
  have hr := he.evals (n := n) xs.toList
  have hrun : (execOp (ev n fc) o).run P w = .ok (.enter g (xs.toList.map (ev n fc)).toArray) w := by
    have : xs.map (ev n fc) = (xs.toList.map (ev n fc)).toArray := by obtain ⟨xs⟩ := xs; simp
    simp [execOp, ho, resolve, invoke, ev, evK, Deferred.ofValue, run_callFunc hb, this]
  rw [hrun]
  show Calls P g _ w _
  obtain ⟨S1, S2, h1, h2, hS, hdis⟩ := hh.takes ht
  -- what is lent
  have hτ : Holds (or2 Su Y) w (spOf m ++ σr) (or2 Sp S2) := Holds.append hp h2 (fun b hb h => hd b ((hS b).2 (.inr h)) (hSp b hb)) (fun b => Iff.rfl)
  have hlent : ∀ b, Lent (spOf m ++ σr) ls b → or2 Sp S2 b := fun b ⟨k, _, hk⟩ => by
    rcases hk with ⟨t, cs, hk⟩ | ⟨x, e, kk, es, hk, hob'⟩
    · obtain ⟨T1, hT1, hc1⟩ := look_take hτ hk
      exact hT1 b ((hc1.1 b).2 rfl)
    · obtain ⟨T1, hT1, hc1⟩ := look_take hτ hk
      exact hT1 b ((hc1.1 b).2 hob')
  have hl1 : ∀ b, S1 b → ¬ Lent (spOf m ++ σr) ls b := fun b hb hl => (hlent b hl).elim (fun h => hd b ((hS b).2 (.inl hb)) (hSp b h)) (hdis b hb)
  have hX : ∀ b, (or2 S2 Y b ∧ ¬ Lent (spOf m ++ σr) ls b) → or2 Su Y b := fun b h => h.1.elim (fun h => .inl ((hS b).2 (.inr h))) .inr
  have hM : ∀ b, or2 S1 (fun b => or2 S2 Y b ∧ ¬ Lent (spOf m ++ σr) ls b) b → or2 Su Y b ∧ ¬ Lent (spOf m ++ σr) ls b := fun b h => h.elim (fun h => ⟨.inl ((hS b).2 (.inl h)), hl1 b h⟩) fun h => ⟨hX b h, h.2⟩
  have hargs := ha.reps (lend_rep hτ hM hl ho2 hr)
  refine (spec.out (fun b => or2 S2 Y b ∧ ¬ Lent (spOf m ++ σr) ls b) S1 w _ (fun b hb h => h.1.elim (hdis b hb) (hd b ((hS b).2 (.inl hb)))) (fun b h => h.1.elim (h2.lt b) (hY b)) (hc.holds (Holds.of h1 fun b _ h => (hM b h).1)) hargs).mono ?_
  rintro e w1 ⟨v, a, cs', S', rfl, hR, hrep, hh', hev, hsub⟩
  obtain ⟨hf1, hf2⟩ := hfree a cs' hR
  have hm : ∀ b, b < w.heap.size → S1 b ∨ or2 (or2 S' S2) Y b → or2 Su Y b := fun b hb h => by
    rcases h with h | (h | h) | h
    · exact .inl ((hS b).2 (.inl h))
    · rcases hsub b h with h | h
      · exact .inl ((hS b).2 (.inl h))
      · omega
    · exact .inl ((hS b).2 (.inr h))
    · exact .inr h
  refine ⟨v, rfl, a, zipk ks' cs' ++ σr, or2 S' S2, ⟨cs', hR, rfl⟩, hf1.out _ _ _ _ hrep, Holds.append (HoldsL.zip (hf2.holds hh') ks') (h2.ev hev hm fun b hb h => hdis b h hb) (fun b hb h => ?_) (fun b => Iff.rfl), hev.mono fun b _ h => (hS b).2 (.inl h), fun b hb => ?_⟩
  · rcases hsub b hb with h' | h'
    · exact hdis b h' h
    · have := h2.lt b h; omega
  · rcases hb with h | h
    · exact (hsub b h).imp (fun h => (hS b).2 (.inl h)) id
    · exact .inl ((hS b).2 (.inr h))
/-- A drawn region, up to operation x (the last of ord), which all wait for or which waits for all: behind it nothing need be left alone; then a_rest. -/
theorem a_drawX (hT : TOk P L) {fn : Func} {R : Ending → World → Prop} {id : Nat} {ops : Array Oper} {cu : List Chunk} {σp : Store} (us : List Nat) (x : Nat) (ord : List (Nat × Bool)) (h : machA L n fuel s f σ [] = ⟨.draw κ id ops, f', σ', ob⟩) (hob : ob.map (·.1) = ob.map (·.2)) (hm : P.follows .mixedOrders = true)
    (ho : (Nat.ble ord.length ops.size && Region.noSelect ops && (ordTo ops (Array.replicate ops.size false) ord).isSome && (!(Nat.blt x ops.size) || waitsAll .any ops x) && xOk x ord && Nat.beq (lastI ord) x) = true) (ht : takes σ' us = some (cu, σp))
    (hk : DenA c P n (bodyPost P fn R) (.ops (.reg true σp ⟨true, some (x, ops.size - ord.length, (ordTo ops (Array.replicate ops.size false) ord).getD #[])⟩) κ ops [] (selK ops.toList ord)) f' (zipk us cu)) : DenA c P n (bodyPost P fn R) s f σ := by
  simp only [Bool.and_eq_true] at ho
  refine a_go hT h hob fun hok w S fc Sg hs hh => ?_
  obtain ⟨Sg', hg, hs', hh'⟩ := reg_begin (ex := ⟨true, some (x, ops.size - ord.length, (ordTo ops (Array.replicate ops.size false) ord).getD #[])⟩) hs hh ht
  show (Code.region id ops true).wp P (post P (bodyPost P fn R) κ) (act n fc) w
  refine wp_region_tree (S := Sg') (x := x) ord hm (Nat.le_of_ble_eq_true ho.1.1.1.1.1) ho.1.1.1.1.2 ho.1.1.1.2 (fun hlt => ?_) ho.1.2 ?_ hg true (fun _ _ => Nat.eq_of_beq_eq_true ho.2) (hk.out trivial w.drew S fc Sg' hs' hh')
  · have h2 := ho.1.1.2
    rw [Bool.or_eq_true, Bool.not_eq_true'] at h2
    rcases h2 with h2 | h2
    · rw [show Nat.blt x ops.size = true by simpa [Nat.blt_eq] using hlt] at h2; cases h2
    · exact h2
  intro cc a d v w hp
  rw [post_panic] at hp ⊢
  exact ⟨by simpa [Act.put] using (show (a.put d v).defers = [] from hp.1) |> fun h => by cases d <;> simpa [Act.put] using h, hp.2⟩
theorem a_rest (hT : TOk P L) {fn : Func} {R : Ending → World → Prop} {b : Bool} {x q : Nat} {listed : Array Bool} (ord : List (Nat × Bool)) (h : machA L n fuel s f σ [] = ⟨.st (.ops (.last ⟨b, some (x, q, listed)⟩) κ all dec []), f', σ', ob⟩) (hob : ob.map (·.1) = ob.map (·.2))
    (ho : (Nat.beq ord.length q && Region.noSelect all && ordOk all listed ord && listed.getD x false && Nat.beq listed.size all.size && xOk all.size ord) = true)
    (hk : DenA c P n (bodyPost P fn R) (.ops .rest κ all dec (selK all.toList ord)) f' σ') : DenA c P n (bodyPost P fn R) s f σ := by
  simp only [Bool.and_eq_true] at ho
  refine a_go hT h hob fun hok w S fc Sg hs hh => ?_
  show ClosedL .any all listed → _
  intro hcl
  refine OR_rest ho.1.1.1.1.1 ho.1.1.1.1.2 ho.1.1.1.2 ho.1.1.2 ho.1.2 ho.2 (fun c a d v w hp => ?_) hcl (hk.out trivial w S fc Sg hs hh)
  rw [post_panic] at hp ⊢
  exact ⟨by simpa [Act.put] using (show (a.put d v).defers = [] from hp.1) |> fun h => by cases d <;> simpa [Act.put] using h, hp.2⟩
/-- A cut, where what follows stands behind already. -/
theorem a_cutK (hT : TOk P L) {X : Type} (l : List Nat) (vs : X → List AV) (sg : X → Store) (φ : X → Prop) {cd d : Code} (q : Nat) (h : machA L n q s f σ [] = ⟨.st (.code (.seq d :: κ) cd), f', σ', ob⟩) (hob : ob.map (·.1) = ob.map (·.2))
    (h1 : DenA c P n Q (.code (.inv (InvA c n l vs sg φ) :: κ) cd) f' σ') (h2 : ∀ x, φ x → DenA c P n Q (.code κ d) (overA l (vs x)) (sg x)) : DenA c P n Q s f σ := by
  have key : DenA c P n Q (.code (.seq d :: κ) cd) f' σ' := by
    refine ⟨fun hok w S fc Sg hs hh => ?_⟩
    show cd.wp P (post P Q (.seq d :: κ)) (act n fc) w
    refine wp_mono (h1.out trivial w S fc Sg hs hh) ?_
    intro e a' w' hq
    cases e with
    | normal =>
      obtain ⟨x', fc', S', rfl, hx', hs', hh'⟩ := hq
      exact (h2 x' hx').out trivial w' S' fc' (fun _ => True) hs' hh'
    | exit id => exact hq
    | goto l => exact hq
    | ret => exact hq
    | panic ch => exact hq
    | outgrown => exact hq
  exact ⟨machA_sound hT q s f σ [] (by rw [h]; exact OT.of hob) (by rw [h]; exact key.out)⟩
end
end Go.Proofs.Ytepjnmocepkfjaa.A
