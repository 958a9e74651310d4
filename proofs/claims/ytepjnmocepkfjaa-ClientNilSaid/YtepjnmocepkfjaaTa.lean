/- A slice held against nil; a nil slice as a row of one's own; contracts told more weakly; slices.Clone of bytes. -/
import Derived.Test.YtepjnmocepkfjaaSg
set_option linter.unusedVariables false
set_option linter.unusedSimpArgs false
namespace Go.Proofs.Ytepjnmocepkfjaa.A
open V

mutual
theorem Fit.refl : ∀ a : AV, Fit a a
  | .v x _ => by unfold Fit; rfl
  | .d x => by unfold Fit; rfl
  | .row x _ => by unfold Fit; rfl
  | .agg xs => by unfold Fit; exact Fits.refl xs
  | .tup xs => by unfold Fit; exact Fits.refl xs
  | .ifc t a => by unfold Fit; exact ⟨rfl, Fit.refl a⟩
  | .fn g xs => by unfold Fit; exact ⟨rfl, Fits.refl xs⟩
  | .any => by unfold Fit; trivial
theorem Fits.refl : ∀ as : List AV, Fits as as
  | [] => by unfold Fits; trivial
  | a :: as => by unfold Fits; exact ⟨Fit.refl a, Fits.refl as⟩
end
/-- What a contract leaves may be told otherwise, and of what it leaves some may be dropped. -/
theorem FSpec.weak {P : Program} {g : FuncId} {args : List AV} {cs : List Chunk} {R R' : AV → List Chunk → Prop} (h : FSpec P g args cs R) (hR : ∀ a cs, R a cs → ∃ a' cs1 cs2, Fit a a' ∧ Ent cs (cs1 ++ cs2) ∧ R' a' cs1) : FSpec P g args cs R' :=
  ⟨fun X S w xs h1 h2 h3 h4 => (h.out X S w xs h1 h2 h3 h4).mono fun e w' ⟨v, a, cs', S', k1, k2, k3, k4, k5, k6⟩ => by
    obtain ⟨a', cs1, cs2, r1, r2, r3⟩ := hR _ _ k2
    have r2 := r2 _ _ _ k4
    by_cases hn : cs2 = []
    · subst hn
      rw [List.append_nil] at r2
      exact ⟨v, a', cs1, S', k1, r3, r1.rep k3, r2, k5, k6⟩
    · obtain ⟨S1, S2, q1, q2, q3, q4⟩ := r2.parts
      have hM : ∀ b, or2 S1 X b → or2 S' X b := fun b h => h.elim (fun h => .inl ((q4 b).2 (.inl h))) .inr
      refine ⟨v, a', cs1, S1, k1, r3, ?_, Holds.of (σ := cs1.map fun c => (0, c)) q1 fun b _ h => hM b h, k5, fun b hb => k6 b ((q4 b).2 (.inl hb))⟩
      have hfit := r1.rep k3
      exact Rep.of hfit fun b _ h => hM b h⟩

/-- .. what it is given, told otherwise. -/
theorem FSpec.ent {P : Program} {g : FuncId} {args : List AV} {cs cs' : List Chunk} {R : AV → List Chunk → Prop} (h : FSpec P g args cs' R) (he : Ent cs cs') : FSpec P g args cs R :=
  ⟨fun X S w xs h1 h2 h3 h4 => h.out X S w xs h1 h2 (he _ _ _ h3) h4⟩
/-- .. of something that there is. -/
theorem FSpec.entX {P : Program} {g : FuncId} {args : List AV} {cs : List Chunk} {R : AV → List Chunk → Prop} {X : Type} {φ : X → Prop} {f : X → List Chunk} (he : EntX cs φ f) (h : ∀ x, φ x → FSpec P g args (f x) R) : FSpec P g args cs R :=
  ⟨fun X S w xs h1 h2 h3 h4 => by obtain ⟨x, hx, k⟩ := he _ _ _ h3; exact (h x hx).out X S w xs h1 h2 k h4⟩
/-- .. beside other memory. -/
theorem FSpec.frame {P : Program} {g : FuncId} {args : List AV} {cs : List Chunk} {R : AV → List Chunk → Prop} (h : FSpec P g args cs R) (F : List Chunk) : FSpec P g args (cs ++ F) fun a cs' => ∃ cs1, cs' = cs1 ++ F ∧ R a cs1 :=
  ⟨fun X S w xs h1 h2 h3 h4 => by
    obtain ⟨S1, S2, k1, k2, k3, k4⟩ := h3.parts
    have hM : ∀ b, or2 S1 (or2 S2 X) b → or2 S X b := fun b h => h.elim (fun h => .inl ((k4 b).2 (.inl h))) fun h => h.elim (fun h => .inl ((k4 b).2 (.inr h))) .inr
    have hlt : ∀ b, S2 b → b < w.heap.size := fun b hb => Holds.lt k2 b hb
    refine (h.out (or2 S2 X) S1 w xs (fun b hb h => h.elim (k3 b hb) (h1 b ((k4 b).2 (.inl hb)))) (fun b hb => hb.elim (hlt b) (h2 b)) (Holds.of k1 fun b _ h => hM b h) (h4.of fun b _ h => hM b h)).mono ?_
    rintro e w' ⟨v, a, cs', S', rfl, q1, q2, q3, q4, q5⟩
    have hN : ∀ b, or2 (or2 S' S2) X b → or2 S' (or2 S2 X) b := fun b h => h.elim (fun h => h.elim .inl fun h => .inr (.inl h)) fun h => .inr (.inr h)
    refine ⟨v, a, cs' ++ F, or2 S' S2, rfl, ⟨cs', rfl, q1⟩, q2.of fun b _ h => hN b h, HoldsL.append (Holds.of q3 fun b _ h => hN b h) (HoldsL.ev q4 (fun b hb h => ?_) k2 fun b hb h => k3 b h hb) (fun b hb h => ?_) (fun b => Iff.rfl), q4.mono fun b _ h => (k4 b).2 (.inl h), fun b hb => ?_⟩
    · rcases h with h | h | h
      · exact .inl ((k4 b).2 (.inl h))
      · rcases h with h | h
        · rcases q5 b h with h | h
          · exact .inl ((k4 b).2 (.inl h))
          · omega
        · exact .inl ((k4 b).2 (.inr h))
      · exact .inr h
    · rcases q5 b hb with h' | h'
      · exact k3 b h' h
      · have := hlt b h; omega
    · rcases hb with hb | hb
      · exact (q5 b hb).imp (fun h => (k4 b).2 (.inl h)) id
      · exact .inl ((k4 b).2 (.inr hb))⟩
/-- .. a row that it yields is frozen. -/
theorem FSpec.freeze {P : Program} {g : FuncId} {args : List AV} {cs : List Chunk} {e k hh : Nat} {es : List (List Dat)} (h : FSpec P g args cs fun a cs' => ∃ x, a = .row x hh ∧ cs' = [.row x e k es]) : FSpec P g args cs fun a cs' => a = .d (.sl k es) ∧ cs' = [] :=
  ⟨fun X S w xs h1 h2 h3 h4 => (h.out X S w xs h1 h2 h3 h4).mono fun en w' hp => by
    obtain ⟨v, a, cs', S', rfl, ⟨x, rfl, rfl⟩, q2, q3, q4, q5⟩ := hp
    have hc := holds_one.1 q3
    have hx : v = x := by unfold Rep at q2; exact q2.1
    subst hx
    have hd : ∀ b, S' b → ¬ X b := fun b hb hx => by
      rcases q5 b hb with h | h
      · exact h1 b h hx
      · have := h2 b hx; omega
    have hf := row_frozen (S1 := S') (S2 := no) (S := S') (Y := X) hc (fun b => ⟨.inl, fun h => h.elim id fun h => h.elim⟩) (fun _ _ h => h.elim) hd
    exact ⟨v, .d (.sl k es), [], no, rfl, ⟨rfl, rfl⟩, by unfold Rep; exact hf, fun b h => h, q4, fun b h => h.elim⟩⟩
theorem wrapI_add (a b : Int) : IntKind.i64.wrap (IntKind.i64.wrap a + b) = IntKind.i64.wrap (a + b) := by
  have h : ∀ n : Int, IntKind.i64.wrap n = (n + 9223372036854775808) % 18446744073709551616 - 9223372036854775808 := fun n => by simp [IntKind.wrap, IntKind.bits, IntKind.signed]; omega
  rw [h, h, h]
  omega
section
variable {P : Program} {L : List TD} {n : Nat} {Q : Exit → Act → World → Prop} {c : Ctx}
variable {s : AMS} {f f' : AEnv} {σ σ' : Store} {ob : Obs} {κ : List Kt} {all : Array Oper} {dec : List Nat} {o : Oper} {al : Bool} {rest : List (Oper × Bool)} {m : Mode}

theorem exec_sl_nil {P : Program} {L : List TD} (hT : TOk P L) {n : Nat} {fc : Env} {o : Oper} {t yt e : TypeId} {k : Nat} {x y : Operand} {A : Option Addr} {l cap : Nat} (ho : o.op = .binOp .eql t x y yt) (hx : ev n fc x = .slice A l cap) (hy : ev n fc y = .slice none 0 0) (ht : tl L t = .sl e k) (w : World) :
    (execOp (ev n fc) o).run P w = .ok (.value (.bool A.isNone)) w := by
  rw [run_binOp ho, hx, hy, guard_int (by simp)]
  have hu := (sl_tl hT ht).1
  have he : (Op.equal t (.slice A l cap) (.slice none 0 0)).run P w = .ok A.isNone w := by
    show (Op.equalIn (9999 + 1) t _ _).run P w = _
    unfold Op.equalIn
    cases A <;> simp [underlying, hu]
  show (Result.ok () w).andThen _ = _
  simp [binOp, he]
/-- A slice that lies frozen, held against nil. -/
theorem a_isnil (hT : TOk P L) {t yt e : TypeId} {k k2 h1 : Nat} {x y : Operand} {es : List (List Dat)} (h : machA L n fuel s f σ [] = ⟨.op m κ all dec o true rest, f', σ', ob⟩) (hob : ob.map (·.1) = ob.map (·.2)) (ho : o.op = .binOp .eql t x y yt) (ht : tl L t = .sl e k)
    (hx : evA n f' x = .d (.sl k2 es)) (hy : evA n f' y = .v (.slice none 0 0) h1)
    (hk : ∀ b, (b = true → es = []) → DenA c P n Q (.ops (m.hap true) κ all dec rest) (putA f' o.dst (.v (.bool b) 0)) σ') : DenA c P n Q s f σ := by
  refine a_eff hT (fun a σ1 => ∃ b : Bool, (b = true → es = []) ∧ a = .v (.bool b) 0 ∧ σ1 = σ') h hob (fun Y Su w fc hd hY hh he => ?_) (fun a σ1 ⟨b, hb, ha, hs⟩ => by subst ha; subst hs; exact hk b hb)
  have h1 := he.eval (n := n) x
  have h2 := he.eval (n := n) y
  rw [hx] at h1
  rw [hy] at h2
  unfold Rep at h1 h2
  unfold DRep at h1
  obtain ⟨A, cap, e1, _, _, h3⟩ := h1
  rw [exec_sl_nil hT ho e1 h2 ht]
  refine ⟨_, _, Su, ⟨A.isNone, fun hn => ?_, rfl, rfl⟩, mk_v, hh, Ev.refl _ w, fun b hb => .inl hb⟩
  cases A with
  | none =>
    apply Classical.byContradiction
    intro hne
    obtain ⟨ad, hc, _⟩ := h3 hne
    cases hc
  | some a => cases hn
theorem row_nil {M : Nat → Prop} {w : World} (e k : Nat) : CRep M w (.row (.slice none 0 0) e k []) no :=
  ⟨fun b => ⟨fun h => h.elim, fun h => by cases h⟩, by simp, [], World.ownsRow_nil w 0 e k, VRep.nil⟩
/-- The round's end; memory told otherwise. -/
theorem a_nextE (hT : TOk P L) {X : Type} {l : List Nat} {vs : X → List AV} {sg : X → Store} {φ : X → Prop} {cs : List Chunk} {σr : Store} (x' : X) (ks : List Nat) (h : machA L n fuel s f σ [] = ⟨.nrm (.inv (InvA c n l vs sg φ) :: κ), f', σ', ob⟩) (hob : ob.map (·.1) = ob.map (·.2)) (hx : φ x')
    (hf : Fits (l.map (getA f')) (vs x')) (ht : takes σ' ks = some (cs, σr)) (hc : Ent cs ((sg x').map (·.2))) : DenA c P n Q s f σ := by
  refine a_go hT h hob fun hok w S fc Sg hs hh => ?_
  show InvA c n l vs sg φ (act n fc) w
  obtain ⟨S1, S2, h1, h2, hS, hdis⟩ := hh.takes ht
  have hM : ∀ b, or2 S1 c.X b → or2 S c.X b := fun b h => h.elim (fun h => .inl ((hS b).2 (.inl h))) .inr
  refine ⟨x', fc, S1, rfl, hx, ⟨fits_over (hs.env.of fun b _ h => hM b h) hf, hs.ev, fun b hb => hs.sub b ((hS b).2 (.inl hb))⟩, ?_⟩
  have := (hc _ _ _ h1).zip ((sg x').map (·.1))
  refine Holds.keys (this.of fun b _ h => hM b h) ?_
  rw [zipk_snd]
/-- So many steps. -/
theorem a_run (hT : TOk P L) (q : Nat) {s' : AMS} (h : machA L n q s f σ [] = ⟨.st s', f', σ', ob⟩) (hob : ob.map (·.1) = ob.map (·.2)) (hk : DenA c P n Q s' f' σ') : DenA c P n Q s f σ :=
  ⟨machA_sound hT q s f σ [] (by rw [h]; exact OT.of hob) (by rw [h]; exact hk.out)⟩
/-- A nil slice is a row of one's own. -/
theorem a_nilrow (t kn e k : Nat) {hh : Nat} (hst : s.still = true) (ht : getA f t = .v (.slice none 0 0) hh) (hk : DenA c P n Q s ((t, .row (.slice none 0 0) kn) :: f) ((kn, .row (.slice none 0 0) e k []) :: σ)) : DenA c P n Q s f σ := by
  refine a_ghost hst (fun Y S w fc hdY hh henv => ?_) hk
  refine ⟨S, ⟨no, S, fun b => ⟨.inr, fun h => h.elim (fun h => h.elim) id⟩, fun _ h => h.elim, row_nil e k, hh⟩, fun t' => ?_, fun b h => h⟩
  rw [getA_cons]
  split
  · rename_i e
    subst e
    have := henv t'
    rw [ht] at this
    unfold Rep at this ⊢
    exact ⟨this, rfl⟩
  · exact henv t'
/-- A map that there isn't is gone through. -/
theorem a_rangeN (hT : TOk P L) (kn : Nat) {t kt et : TypeId} {x : Operand} {h0 : Nat} (h : machA L n fuel s f σ [] = ⟨.op m κ all dec o true rest, f', σ', ob⟩) (hob : ob.map (·.1) = ob.map (·.2)) (ho : o.op = .range t x) (ht : mapT P t kt et = true)
    (hx : evN n f' x = .v (.map none) h0)
    (hk : ∀ it, DenA c P n Q (.ops (m.hap true) κ all dec rest) (putA f' o.dst (.v (.pointer (some ⟨it, 0, none⟩)) kn)) ((kn, .ext (iterN it)) :: σ')) : DenA c P n Q s f σ := by
  refine a_eff hT (fun a σ1 => ∃ it, a = .v (.pointer (some ⟨it, 0, none⟩)) kn ∧ σ1 = (kn, .ext (iterN it)) :: σ') h hob (fun Y Su w fc hd hY hh he => ?_) (fun a σ1 ⟨it, ha, hs⟩ => by subst ha; subst hs; exact hk it)
  have h1 := he.evalN (n := n) x
  rw [hx] at h1
  have hrun : (execOp (ev n fc) o).run P w = .ok (.value (.pointer (some ⟨w.heap.size, 0, none⟩))) (w.alloc (.mapIter none 0 #[] 0)) := by
    unfold execOp
    simp only [ho, Sem.run_bind, Sem.run_pure, rep_v h1, Instr.range, run_underlying (mapT_spec ht), Result.andThen_ok]
    simp
  rw [hrun]
  have hev : Ev no w (w.alloc (.mapIter none 0 #[] 0)) := Ev.alloc w _
  have hm : ∀ b, b < w.heap.size → no b ∨ or2 (or2 (at1 w.heap.size) Su) Y b → or2 Su Y b := fun b hb h => by
    rcases h with h | (h | h) | h
    · exact h.elim
    · simp only [at1] at h; omega
    · exact .inl h
    · exact .inr h
  refine ⟨_, _, or2 (at1 w.heap.size) Su, ⟨_, rfl, rfl⟩, mk_v, ⟨at1 w.heap.size, Su, fun b => Iff.rfl, fun b hb h => ?_, ⟨fun b => Iff.rfl, heap_alloc_new w _⟩, hh.ev hev hm fun _ _ h => h⟩, hev.no, fun b h => h.elim (fun h => .inr (by simp only [at1] at h; omega)) .inl⟩
  simp only [at1] at hb
  have := hh.lt b h
  omega
theorem a_inextN (hT : TOk P L) {x : Operand} {it it' h0 : Nat} (h : machA L n fuel s f σ [] = ⟨.op m κ all dec o true rest, f', σ', ob⟩) (hob : ob.map (·.1) = ob.map (·.2)) (ho : o.op = .next x false)
    (hx : evA n f' x = .v (.pointer (some ⟨it, 0, none⟩)) h0) (hl : look σ' h0 = some (.ext (iterN it'))) (hii : it = it')
    (hk1 : DenA c P n Q (.ops (m.hap true) κ all dec rest) (putA f' o.dst (.tup [.v (.bool false) 0])) σ') : DenA c P n Q s f σ := by
  subst hii
  refine a_eff hT (fun a σ1 => a = .tup [.v (.bool false) 0] ∧ σ1 = σ') h hob (fun Y Su w fc hd hY hh he => ?_) (fun a σ1 ⟨ha, hs⟩ => by subst ha; subst hs; exact hk1)
  obtain ⟨S1, S2, hS, hdis, hc, hrest⟩ := hh.take hl
  obtain ⟨hS1, h1⟩ := hc
  have hv := he.eval (n := n) x
  rw [hx] at hv
  have hrun : (execOp (ev n fc) o).run P w = .ok (.value (.tuple #[.bool false])) w := by
    unfold execOp
    simp only [ho, Sem.run_bind, Sem.run_pure, rep_v hv, Instr.next, Result.andThen_ok, run_get h1 (by simp)]
  rw [hrun]
  refine ⟨_, _, Su, ⟨rfl, rfl⟩, ?_, hh, Ev.refl _ _, fun b hb => .inl hb⟩
  unfold Rep
  exact ⟨[.bool false], rfl, Reps.cons mk_v Reps.nil⟩
end
end Go.Proofs.Ytepjnmocepkfjaa.A
