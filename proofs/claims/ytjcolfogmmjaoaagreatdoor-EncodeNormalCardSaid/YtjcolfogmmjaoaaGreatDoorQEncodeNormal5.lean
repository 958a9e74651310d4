import Derived.Test.YtjcolfogmmjaoaaGreatDoorQEncodeNormal4
section
/- A slice held against nil; a nil slice as a row of one's own; contracts told more weakly; slices.Clone of bytes. -/
set_option linter.unusedVariables false
set_option linter.unusedSimpArgs false
namespace Go.Proofs.YtjcolfogmmjaoaaGreatDoor.A
open V

mutual
theorem Fit.refl : ∀ a : AV, Fit a a
  | .v x _ => by unfold Fit; rfl
  | .d x => by unfold Fit; rfl
  | .row x _ => by unfold Fit; rfl
  | .agg xs => by unfold Fit; exact Fits.refl xs
  | .tup xs => by unfold Fit; exact Fits.refl xs
  | .ifc t a => by unfold Fit; exact ⟨rfl, Fit.refl a⟩
  | .fn g xs => by unfold Fit; exact ⟨rfl, Fits.refl xs⟩
  | .any => by unfold Fit; trivial
theorem Fits.refl : ∀ axs : List AV, Fits axs axs
  | [] => by unfold Fits; trivial
  | a :: axs => by unfold Fits; exact ⟨Fit.refl a, Fits.refl axs⟩
end
/-- What a contract leaves may be told otherwise, and of what it leaves some may be dropped. -/
theorem FSpec.weak {P : Program} {g : FuncId} {args : List AV} {cs : List Chunk} {R R' : AV → List Chunk → Prop} (h : FSpec P g args cs R) (hR : ∀ a cs, R a cs → ∃ a' cs1 cs2, Fit a a' ∧ Ent cs (cs1 ++ cs2) ∧ R' a' cs1) : FSpec P g args cs R' :=
  ⟨fun X S w xs h1 h2 h3 h4 => (h.out X S w xs h1 h2 h3 h4).mono fun e w' ⟨v, a, cs', S', k1, k2, k3, k4, k5, k6⟩ => by
    obtain ⟨a', cs1, cs2, r1, r2, r3⟩ := hR _ _ k2
    have r2 := r2 _ _ _ k4
    by_cases hn : cs2 = []
    · subst hn
      rw [List.append_nil] at r2
      exact ⟨v, a', cs1, S', k1, r3, r1.rep k3, r2, k5, k6⟩
    · obtain ⟨S1, S2, q1, q2, q3, q4⟩ := r2.parts
      have hM : ∀ b, or2 S1 X b → or2 S' X b := fun b h => h.elim (fun h => .inl ((q4 b).2 (.inl h))) .inr
      refine ⟨v, a', cs1, S1, k1, r3, ?_, Holds.of (σ := cs1.map fun c => (0, c)) q1 fun b _ h => hM b h, k5, fun b hb => k6 b ((q4 b).2 (.inl hb))⟩
      have hfit := r1.rep k3
      exact Rep.of hfit fun b _ h => hM b h⟩

/-- .. what it is given, told otherwise. -/
theorem FSpec.ent {P : Program} {g : FuncId} {args : List AV} {cs cs' : List Chunk} {R : AV → List Chunk → Prop} (h : FSpec P g args cs' R) (he : Ent cs cs') : FSpec P g args cs R :=
  ⟨fun X S w xs h1 h2 h3 h4 => h.out X S w xs h1 h2 (he _ _ _ h3) h4⟩
/-- .. of something that there is. -/
theorem FSpec.entX {P : Program} {g : FuncId} {args : List AV} {cs : List Chunk} {R : AV → List Chunk → Prop} {X : Type} {φ : X → Prop} {f : X → List Chunk} (he : EntX cs φ f) (h : ∀ x, φ x → FSpec P g args (f x) R) : FSpec P g args cs R :=
  ⟨fun X S w xs h1 h2 h3 h4 => by obtain ⟨x, hx, k⟩ := he _ _ _ h3; exact (h x hx).out X S w xs h1 h2 k h4⟩
/-- .. beside other memory. -/
theorem FSpec.frame {P : Program} {g : FuncId} {args : List AV} {cs : List Chunk} {R : AV → List Chunk → Prop} (h : FSpec P g args cs R) (F : List Chunk) : FSpec P g args (cs ++ F) fun a cs' => ∃ cs1, cs' = cs1 ++ F ∧ R a cs1 :=
  ⟨fun X S w xs h1 h2 h3 h4 => by
    obtain ⟨S1, S2, k1, k2, k3, k4⟩ := h3.parts
    have hM : ∀ b, or2 S1 (or2 S2 X) b → or2 S X b := fun b h => h.elim (fun h => .inl ((k4 b).2 (.inl h))) fun h => h.elim (fun h => .inl ((k4 b).2 (.inr h))) .inr
    have hlt : ∀ b, S2 b → b < w.heap.size := fun b hb => Holds.lt k2 b hb
    refine (h.out (or2 S2 X) S1 w xs (fun b hb h => h.elim (k3 b hb) (h1 b ((k4 b).2 (.inl hb)))) (fun b hb => hb.elim (hlt b) (h2 b)) (Holds.of k1 fun b _ h => hM b h) (h4.of fun b _ h => hM b h)).mono ?_
    rintro e w' ⟨v, a, cs', S', rfl, q1, q2, q3, q4, q5⟩
    have hN : ∀ b, or2 (or2 S' S2) X b → or2 S' (or2 S2 X) b := fun b h => h.elim (fun h => h.elim .inl fun h => .inr (.inl h)) fun h => .inr (.inr h)
    refine ⟨v, a, cs' ++ F, or2 S' S2, rfl, ⟨cs', rfl, q1⟩, q2.of fun b _ h => hN b h, HoldsL.append (Holds.of q3 fun b _ h => hN b h) (HoldsL.ev q4 (fun b hb h => ?_) k2 fun b hb h => k3 b h hb) (fun b hb h => ?_) (fun b => Iff.rfl), q4.mono fun b _ h => (k4 b).2 (.inl h), fun b hb => ?_⟩
    · rcases h with h | h | h
      · exact .inl ((k4 b).2 (.inl h))
      · rcases h with h | h
        · rcases q5 b h with h | h
          · exact .inl ((k4 b).2 (.inl h))
          · omega
        · exact .inl ((k4 b).2 (.inr h))
      · exact .inr h
    · rcases q5 b hb with h' | h'
      · exact k3 b h' h
      · have := hlt b h; omega
    · rcases hb with hb | hb
      · exact (q5 b hb).imp (fun h => (k4 b).2 (.inl h)) id
      · exact .inl ((k4 b).2 (.inr hb))⟩
/-- .. a row that it yields is frozen. -/
theorem FSpec.freeze {P : Program} {g : FuncId} {args : List AV} {cs : List Chunk} {e k hh : Nat} {es : List (List Dat)} (h : FSpec P g args cs fun a cs' => ∃ x, a = .row x hh ∧ cs' = [.row x e k es]) : FSpec P g args cs fun a cs' => a = .d (.sl k es) ∧ cs' = [] :=
  ⟨fun X S w xs h1 h2 h3 h4 => (h.out X S w xs h1 h2 h3 h4).mono fun en w' hp => by
    obtain ⟨v, a, cs', S', rfl, ⟨x, rfl, rfl⟩, q2, q3, q4, q5⟩ := hp
    have hc := holds_one.1 q3
    have hx : v = x := by unfold Rep at q2; exact q2.1
    subst hx
    have hd : ∀ b, S' b → ¬ X b := fun b hb hx => by
      rcases q5 b hb with h | h
      · exact h1 b h hx
      · have := h2 b hx; omega
    have hf := row_frozen (S1 := S') (S2 := no) (S := S') (Y := X) hc (fun b => ⟨.inl, fun h => h.elim id fun h => h.elim⟩) (fun _ _ h => h.elim) hd
    exact ⟨v, .d (.sl k es), [], no, rfl, ⟨rfl, rfl⟩, by unfold Rep; exact hf, fun b h => h, q4, fun b h => h.elim⟩⟩
theorem wrapI_add (a b : Int) : IntKind.i64.wrap (IntKind.i64.wrap a + b) = IntKind.i64.wrap (a + b) := by
  have h : ∀ n : Int, IntKind.i64.wrap n = (n + 9223372036854775808) % 18446744073709551616 - 9223372036854775808 := fun n => by simp [IntKind.wrap, IntKind.bits, IntKind.signed]; omega
  rw [h, h, h]
  omega
section
variable {P : Program} {L : List TD} {n : Nat} {Q : Exit → Act → World → Prop} {c : Ctx}
variable {s : AMS} {f f' : AEnv} {σ σ' : Store} {ob : Obs} {κ : List Kt} {all : Array Oper} {dec : List Nat} {o : Oper} {al : Bool} {rest : List (Oper × Bool)} {m : Mode}

theorem exec_sl_nil {P : Program} {L : List TD} (hT : TOk P L) {n : Nat} {fc : Env} {o : Oper} {t yt e : TypeId} {k : Nat} {x y : Operand} {A : Option Addr} {l cap : Nat} (ho : o.op = .binOp .eql t x y yt) (hx : ev n fc x = .slice A l cap) (hy : ev n fc y = .slice none 0 0) (ht : tl L t = .sl e k) (w : World) :
    (execOp (ev n fc) o).run P w = .ok (.value (.bool A.isNone)) w := by
  rw [run_binOp ho, hx, hy, guard_int (by simp)]
  have hu := (sl_tl hT ht).1
  have he : (Op.equal t (.slice A l cap) (.slice none 0 0)).run P w = .ok A.isNone w := by
    show (Op.equalIn (9999 + 1) t _ _).run P w = _
    unfold Op.equalIn
    cases A <;> simp [underlying, hu]
  show (Result.ok () w).andThen _ = _
  simp [binOp, he]
/-- A slice that lies frozen, held against nil. -/
theorem a_isnil (hT : TOk P L) {t yt e : TypeId} {k k2 h1 : Nat} {x y : Operand} {es : List (List Dat)} (h : machA L n fuel s f σ [] = ⟨.op m κ all dec o true rest, f', σ', ob⟩) (hob : ob.map (·.1) = ob.map (·.2)) (ho : o.op = .binOp .eql t x y yt) (ht : tl L t = .sl e k)
    (hx : evA n f' x = .d (.sl k2 es)) (hy : evA n f' y = .v (.slice none 0 0) h1)
    (hk : ∀ b, (b = true → es = []) → DenA c P n Q (.ops (m.hap true) κ all dec rest) (putA f' o.dst (.v (.bool b) 0)) σ') : DenA c P n Q s f σ := by
  refine a_eff hT (fun a σ1 => ∃ b : Bool, (b = true → es = []) ∧ a = .v (.bool b) 0 ∧ σ1 = σ') h hob (fun Y Su w fc hd hY hh he => ?_) (fun a σ1 ⟨b, hb, ha, hs⟩ => by subst ha; subst hs; exact hk b hb)
  have h1 := he.eval (n := n) x
  have h2 := he.eval (n := n) y
  rw [hx] at h1
  rw [hy] at h2
  unfold Rep at h1 h2
  unfold DRep at h1
  obtain ⟨A, cap, e1, _, _, h3⟩ := h1
  rw [exec_sl_nil hT ho e1 h2 ht]
  refine ⟨_, _, Su, ⟨A.isNone, fun hn => ?_, rfl, rfl⟩, mk_v, hh, Ev.refl _ w, fun b hb => .inl hb⟩
  cases A with
  | none =>
    apply Classical.byContradiction
    intro hne
    obtain ⟨ad, hc, _⟩ := h3 hne
    cases hc
  | some a => cases hn
theorem row_nil {M : Nat → Prop} {w : World} (e k : Nat) : CRep M w (.row (.slice none 0 0) e k []) no :=
  ⟨fun b => ⟨fun h => h.elim, fun h => by cases h⟩, by simp, [], World.ownsRow_nil w 0 e k, VRep.nil⟩
/-- The round's end; memory told otherwise. -/
theorem a_nextE (hT : TOk P L) {X : Type} {l : List Nat} {vs : X → List AV} {sg : X → Store} {φ : X → Prop} {cs : List Chunk} {σr : Store} (x' : X) (ks : List Nat) (h : machA L n fuel s f σ [] = ⟨.nrm (.inv (InvA c n l vs sg φ) :: κ), f', σ', ob⟩) (hob : ob.map (·.1) = ob.map (·.2)) (hx : φ x')
    (hf : Fits (l.map (getA f')) (vs x')) (ht : takes σ' ks = some (cs, σr)) (hc : Ent cs ((sg x').map (·.2))) : DenA c P n Q s f σ := by
  refine a_go hT h hob fun hok w S fc Sg hs hh => ?_
  show InvA c n l vs sg φ (act n fc) w
  obtain ⟨S1, S2, h1, h2, hS, hdis⟩ := hh.takes ht
  have hM : ∀ b, or2 S1 c.X b → or2 S c.X b := fun b h => h.elim (fun h => .inl ((hS b).2 (.inl h))) .inr
  refine ⟨x', fc, S1, rfl, hx, ⟨fits_over (hs.env.of fun b _ h => hM b h) hf, hs.ev, fun b hb => hs.sub b ((hS b).2 (.inl hb))⟩, ?_⟩
  have := (hc _ _ _ h1).zip ((sg x').map (·.1))
  refine Holds.keys (this.of fun b _ h => hM b h) ?_
  rw [zipk_snd]
/-- So many steps. -/
theorem a_run (hT : TOk P L) (q : Nat) {s' : AMS} (h : machA L n q s f σ [] = ⟨.st s', f', σ', ob⟩) (hob : ob.map (·.1) = ob.map (·.2)) (hk : DenA c P n Q s' f' σ') : DenA c P n Q s f σ :=
  ⟨machA_sound hT q s f σ [] (by rw [h]; exact OT.of hob) (by rw [h]; exact hk.out)⟩
/-- A nil slice is a row of one's own. -/
theorem a_nilrow (t kn e k : Nat) {hh : Nat} (hst : s.still = true) (ht : getA f t = .v (.slice none 0 0) hh) (hk : DenA c P n Q s ((t, .row (.slice none 0 0) kn) :: f) ((kn, .row (.slice none 0 0) e k []) :: σ)) : DenA c P n Q s f σ := by
  refine a_ghost hst (fun Y S w fc hdY hh henv => ?_) hk
  refine ⟨S, ⟨no, S, fun b => ⟨.inr, fun h => h.elim (fun h => h.elim) id⟩, fun _ h => h.elim, row_nil e k, hh⟩, fun t' => ?_, fun b h => h⟩
  rw [getA_cons]
  split
  · rename_i e
    subst e
    have := henv t'
    rw [ht] at this
    unfold Rep at this ⊢
    exact ⟨this, rfl⟩
  · exact henv t'
/-- A map that there isn't is gone through. -/
theorem a_rangeN (hT : TOk P L) (kn : Nat) {t kt et : TypeId} {x : Operand} {h0 : Nat} (h : machA L n fuel s f σ [] = ⟨.op m κ all dec o true rest, f', σ', ob⟩) (hob : ob.map (·.1) = ob.map (·.2)) (ho : o.op = .range t x) (ht : mapT P t kt et = true)
    (hx : evN n f' x = .v (.map none) h0)
    (hk : ∀ it, DenA c P n Q (.ops (m.hap true) κ all dec rest) (putA f' o.dst (.v (.pointer (some ⟨it, 0, none⟩)) kn)) ((kn, .ext (iterN it)) :: σ')) : DenA c P n Q s f σ := by
  refine a_eff hT (fun a σ1 => ∃ it, a = .v (.pointer (some ⟨it, 0, none⟩)) kn ∧ σ1 = (kn, .ext (iterN it)) :: σ') h hob (fun Y Su w fc hd hY hh he => ?_) (fun a σ1 ⟨it, ha, hs⟩ => by subst ha; subst hs; exact hk it)
  have h1 := he.evalN (n := n) x
  rw [hx] at h1
  have hrun : (execOp (ev n fc) o).run P w = .ok (.value (.pointer (some ⟨w.heap.size, 0, none⟩))) (w.alloc (.mapIter none 0 #[] 0)) := by
    unfold execOp
    simp only [ho, Sem.run_bind, Sem.run_pure, rep_v h1, Instr.range, run_underlying (mapT_spec ht), Result.andThen_ok]
    simp
  rw [hrun]
  have hev : Ev no w (w.alloc (.mapIter none 0 #[] 0)) := Ev.alloc w _
  have hm : ∀ b, b < w.heap.size → no b ∨ or2 (or2 (at1 w.heap.size) Su) Y b → or2 Su Y b := fun b hb h => by
    rcases h with h | (h | h) | h
    · exact h.elim
    · simp only [at1] at h; omega
    · exact .inl h
    · exact .inr h
  refine ⟨_, _, or2 (at1 w.heap.size) Su, ⟨_, rfl, rfl⟩, mk_v, ⟨at1 w.heap.size, Su, fun b => Iff.rfl, fun b hb h => ?_, ⟨fun b => Iff.rfl, heap_alloc_new w _⟩, hh.ev hev hm fun _ _ h => h⟩, hev.no, fun b h => h.elim (fun h => .inr (by simp only [at1] at h; omega)) .inl⟩
  simp only [at1] at hb
  have := hh.lt b h
  omega
theorem a_inextN (hT : TOk P L) {x : Operand} {it it' h0 : Nat} (h : machA L n fuel s f σ [] = ⟨.op m κ all dec o true rest, f', σ', ob⟩) (hob : ob.map (·.1) = ob.map (·.2)) (ho : o.op = .next x false)
    (hx : evA n f' x = .v (.pointer (some ⟨it, 0, none⟩)) h0) (hl : look σ' h0 = some (.ext (iterN it'))) (hii : it = it')
    (hk1 : DenA c P n Q (.ops (m.hap true) κ all dec rest) (putA f' o.dst (.tup [.v (.bool false) 0])) σ') : DenA c P n Q s f σ := by
  subst hii
  refine a_eff hT (fun a σ1 => a = .tup [.v (.bool false) 0] ∧ σ1 = σ') h hob (fun Y Su w fc hd hY hh he => ?_) (fun a σ1 ⟨ha, hs⟩ => by subst ha; subst hs; exact hk1)
  obtain ⟨S1, S2, hS, hdis, hc, hrest⟩ := hh.take hl
  obtain ⟨hS1, h1⟩ := hc
  have hv := he.eval (n := n) x
  rw [hx] at hv
  have hrun : (execOp (ev n fc) o).run P w = .ok (.value (.tuple #[.bool false])) w := by
    unfold execOp
    simp only [ho, Sem.run_bind, Sem.run_pure, rep_v hv, Instr.next, Result.andThen_ok, run_get h1 (by simp)]
  rw [hrun]
  refine ⟨_, _, Su, ⟨rfl, rfl⟩, ?_, hh, Ev.refl _ _, fun b hb => .inl hb⟩
  unfold Rep
  exact ⟨[.bool false], rfl, Reps.cons mk_v Reps.nil⟩
end
end Go.Proofs.YtjcolfogmmjaoaaGreatDoor.A
end

section
/- A row of one's own, read at an index that isn't known. It holds of any program. -/
set_option linter.unusedVariables false
set_option linter.unusedSectionVars false
set_option linter.unusedSimpArgs false
namespace Go.Proofs.YtjcolfogmmjaoaaGreatDoor.A
open V

section
variable {P : Program} {L : List TD} {n : Nat} {Q : Exit → Act → World → Prop} {c : Ctx}
variable {s : AMS} {f f' : AEnv} {σ σ' : Store} {ob : Obs} {κ : List Kt} {all : Array Oper} {dec : List Nat} {o : Oper} {al : Bool} {rest : List (Oper × Bool)} {m : Mode}

/-- How a row's value looks. -/
theorem a_rowfact (h0 : Nat) {x : Value} {e k : Nat} {es : List (List Dat)} (hst : s.still = true) (hl : look σ h0 = some (.row x e k es))
    (hk : (x = .slice none 0 0 ∧ es = []) ∨ (∃ g cap, x = .slice (some ⟨g, 0, none⟩) es.length cap) → DenA c P n Q s f σ) : DenA c P n Q s f σ := by
  refine ⟨fun hok w S fc Sg hs hh => ?_⟩
  have hp : s.mode = .plain ∨ s.mode = .rest ∨ ∃ ex, s.mode = .last ex := by
    cases s with
    | ops m κ all dec rest => cases m <;> first | exact .inl rfl | exact .inr (.inl rfl) | exact .inr (.inr ⟨_, rfl⟩) | cases hst
    | _ => exact .inl rfl
  have hh0 : Holds (or2 S c.X) w σ S := by rcases hp with e | e | ⟨ex, e⟩ <;> (rw [e] at hh; exact hh)
  obtain ⟨S1, S2, hS, hd, hc, _⟩ := hh0.take hl
  obtain ⟨_, _, xs, ho, _⟩ := hc
  refine (hk ?_).out hok w S fc Sg hs hh
  rcases ho.2 with ⟨h1, h2⟩ | ⟨g, cap, cur, h1, _⟩
  · exact .inl ⟨h1, List.eq_nil_of_length_eq_zero h2⟩
  · exact .inr ⟨g, cap, h1⟩
/-- Where an element of a row lies. -/
theorem a_rix (hT : TOk P L) {t e : TypeId} {k hh h2 l cap g : Nat} {x y : Operand} {ki : IntKind} {i : Int} (j : Nat) (h : machA L n fuel s f σ [] = ⟨.op m κ all dec o al rest, f', σ', ob⟩) (hob : ob.map (·.1) = ob.map (·.2)) (ho : o.op = .indexAddr t x y) (ht : tl L t = .sl e k)
    (hx : evA n f' x = .row (.slice (some ⟨g, 0, none⟩) l cap) hh) (hy : evN n f' y = .v (.int ki i) h2) (hi : i = (j : Int)) (hj : j < l) (hk : DenA c P n Q (.ops m κ all dec rest) (putA f' o.dst (.v (.pointer (some ⟨g, j * k, none⟩)) hh)) σ') : DenA c P n Q s f σ := by
  subst hi
  refine a_pure hT (.v (.pointer (some ⟨g, j * k, none⟩)) hh) h hob (fun M w fc he => ?_) hk
  obtain ⟨hu, hi, hm⟩ := sl_tl hT ht
  have h1 := he.eval (n := n) x
  have h2 := he.evalN (n := n) y
  rw [hx] at h1
  rw [hy] at h2
  unfold Rep at h1
  refine ⟨.pointer (some ⟨g, j * k, none⟩), fun w' => ?_, mk_v⟩
  simp [execOp, ho, Instr.indexAt, h1.1, rep_v h2, asIntOf, underlying, hu, hj, run_sizeOf' hi, hm, Addr.add]
  intro h0
  rw [h0]
theorem add_off (g a j : Nat) : (⟨g, a, none⟩ : Addr).add j = ⟨g, a + j, none⟩ := by
  unfold Addr.add
  by_cases h : j = 0
  · subst h; simp
  · simp [h]
theorem flat_part {k : Nat} : ∀ {es : List (List Dat)} {i : Nat} {d : List Dat}, (∀ e ∈ es, e.length = k) → es[i]? = some d → (es.flatten.drop (i * k)).take k = d
  | [], i, d, hl, h => by simp at h
  | e :: es, 0, d, hl, h => by
    simp at h
    subst h
    have := hl e (by simp)
    rw [Nat.zero_mul, List.drop_zero, List.flatten_cons, List.take_append_of_le_length (by omega), List.take_of_length_le (by omega)]
  | e :: es, i + 1, d, hl, h => by
    have he := hl e (by simp)
    have := flat_part (es := es) (i := i) (d := d) (fun e' h' => hl e' (by simp [h'])) (by simpa using h)
    rw [List.flatten_cons, List.drop_append, List.drop_eq_nil_of_le (by rw [he, Nat.succ_mul]; omega), he, List.nil_append, show (i + 1) * k - k = i * k by rw [Nat.succ_mul]; omega]
    exact this
theorem row_elem {M : Nat → Prop} {w : World} {S1 : Nat → Prop} {g l cap e k i : Nat} {es : List (List Dat)} {d : List Dat} (hc : CRep M w (.row (.slice (some ⟨g, 0, none⟩) l cap) e k es) S1) (hd : es[i]? = some d) :
    S1 g ∧ ∃ ys, Reps M w (dcells d) ys ∧ (∀ u ∈ ys, u.oneCell' = true) ∧ Cells w ⟨g, i * k, none⟩ ys := by
  obtain ⟨hS1, hk, xs, ho, hv⟩ := hc
  refine ⟨(hS1 g).2 rfl, (xs.drop (i * k)).take k, ?_, fun u hu => hv.one u (List.mem_of_mem_drop (List.mem_of_mem_take hu)), fun j v hj => ?_⟩
  · have := ((Reps.ofV hv).drop (i * k)).take k
    rw [← List.map_drop, ← List.map_take, flat_part hk hd] at this
    rw [dcells_eq]
    exact this
  · have hjk : j < k := by have := (List.getElem?_eq_some_iff.1 hj).1; simp at this; omega
    rw [List.getElem?_take_of_lt hjk, List.getElem?_drop] at hj
    have := ho.cells (g := g) rfl _ _ hj
    rw [add_off] at this ⊢
    rwa [Nat.zero_add] at this
/-- An element of a row, or a part of it, is read. -/
theorem a_rld (hT : TOk P L) {t e : TypeId} {x : Operand} {g k hh l cap off : Nat} {es : List (List Dat)} {v' : Value} (i j : Nat) (d : List Dat) (a : AV) (h : machA L n fuel s f σ [] = ⟨.op m κ all dec o true rest, f', σ', ob⟩) (hob : ob.map (·.1) = ob.map (·.2)) (ho : o.op = .load t x)
    (hx : evA n f' x = .v (.pointer (some ⟨g, off, none⟩)) hh) (hl : look σ' hh = some (.row v' e k es)) (hv' : v' = .slice (some ⟨g, 0, none⟩) l cap) (hoff : off = i * k + j) (hd : es[i]? = some d) (hld : loadK L t (dcells d) j some none = some a)
    (hk : DenA c P n Q (.ops (m.hap true) κ all dec rest) (putA f' o.dst a) σ') : DenA c P n Q s f σ := by
  subst hv'
  subst hoff
  refine a_eff hT (fun a1 σ1 => a1 = a ∧ σ1 = σ') h hob (fun Y Su w fc hdd hY hhd henv => ?_) (fun a1 σ1 ⟨ha, hs⟩ => by subst ha; subst hs; exact hk)
  obtain ⟨S1, S2, hS, hdis, hc, _⟩ := hhd.take hl
  obtain ⟨_, ys, hr, h1, hcl⟩ := row_elem hc hd
  have hxv := henv.eval (n := n) x
  rw [hx] at hxv
  rcases loadK_says (P := P) hT (t := t) hr h1 j (W := fun w' => w' = w) (ad := ⟨g, i * k, none⟩) (fun w' e => by subst e; exact hcl) with hz | ⟨a', ha', v, hv, hrv⟩
  · rw [hz] at hld; cases hld
  · rw [ha'] at hld
    cases hld
    have hv := hv w rfl
    rw [add_off] at hv
    rw [exec_load ho (rep_v hxv) hv]
    exact ⟨_, _, Su, ⟨rfl, rfl⟩, hrv, hhd, Ev.refl _ _, fun b hb => .inl hb⟩
/-- .. in a drawn region. -/
theorem a_rldP (hT : TOk P L) {t e : TypeId} {x : Operand} {g k hh l cap off : Nat} {es : List (List Dat)} {v' : Value} {σp : Store} {ex : Ex} {pre : Bool} (i j : Nat) (d : List Dat) (a : AV) (h : machA L n fuel s f σ [] = ⟨.op (.reg pre σp ex) κ all dec o al rest, f', σ', ob⟩) (hob : ob.map (·.1) = ob.map (·.2)) (ho : o.op = .load t x)
    (hx : evA n f' x = .v (.pointer (some ⟨g, off, none⟩)) hh) (hl : look σp hh = some (.row v' e k es)) (hv' : v' = .slice (some ⟨g, 0, none⟩) l cap) (hoff : off = i * k + j) (hd : es[i]? = some d) (hld : loadK L t (dcells d) j some none = some a)
    (hk : DenA c P n Q (.ops (.reg pre σp ex) κ all dec rest) (putA f' o.dst a) σ') : DenA c P n Q s f σ := by
  subst hv'
  subst hoff
  refine a_go hT h hob fun hok w S fc Sg hsat hh => ?_
  have haa : (act n fc).eval = ev n fc := funext (act_eval n fc)
  obtain ⟨ws, U, Sp, Su, hh'⟩ := id hh
  obtain ⟨S1, S2, hS, hdis, hc, _⟩ := hh'.hp.take hl
  obtain ⟨hg, ys, hr, h1, hcl⟩ := row_elem hc hd
  have hxv := hsat.env.eval (n := n) x
  rw [hx] at hxv
  have hkept := hh'.kept g ((hS g).2 (.inl hg))
  have hcl' : ∀ w', Sg w' → Cells w' ⟨g, i * k, none⟩ ys := fun w' hw' q v hq => by
    have hnow := hh'.now
    rw [hh'.sg] at hw' hnow
    rw [← hcl q v hq]
    exact World.cell?_of_block (w := w) (by rw [add_block, hw' g hkept.2 hkept.1, hnow g hkept.2 hkept.1])
  rcases loadK_says (P := P) hT (t := t) hr h1 j (W := Sg) (ad := ⟨g, i * k, none⟩) hcl' with hz | ⟨a', ha', v, hv, hrv⟩
  · rw [hz] at hld; cases hld
  · rw [ha'] at hld
    cases hld
    refine .inl ⟨v, fun w' hw' => ?_, ?_⟩
    · rw [haa]
      have hv := hv w' hw'
      rw [add_off] at hv
      exact exec_load ho (rep_v hxv) hv
    · rw [act_put]
      exact hk.out trivial w S (put fc o.dst _) Sg ⟨hsat.env.put o.dst hrv, hsat.ev, hsat.sub⟩ hh
/-- A drawn region whose order branches; what comes behind it, whatever that is. -/
theorem a_treeN (hT : TOk P L) {fn : Func} {R : Ending → World → Prop} {id : Nat} {ops : Array Oper} {cu : List Chunk} {σp : Store} {X : Type} (l : List Nat) (vs : X → List AV) (sg : X → Store) (φ : X → Prop) (us : List Nat) (x : Nat) (ord : List (Nat × Bool)) (h : machA L n fuel s f σ [] = ⟨.draw κ id ops, f', σ', ob⟩) (hob : ob.map (·.1) = ob.map (·.2)) (hm : P.follows .mixedOrders = true)
    (ho : (Nat.ble ord.length ops.size && Region.noSelect ops && (ordTo ops (Array.replicate ops.size false) ord).isSome && (!(Nat.blt x ops.size) || waitsAll .any ops x) && xOk x ord) = true) (ht : takes σ' us = some (cu, σp))
    (hk : DenA c P n (bodyPost P fn R) (.ops (.reg true σp ⟨false, some (x, ops.size - ord.length, (ordTo ops (Array.replicate ops.size false) ord).getD #[])⟩) (.inv (InvA c n l vs sg φ) :: κ) ops [] (selK ops.toList ord)) f' (zipk us cu))
    (h2 : ∀ x, φ x → DenA c P n (bodyPost P fn R) (.nrm κ) (overA l (vs x)) (sg x)) : DenA c P n (bodyPost P fn R) s f σ := by
  simp only [Bool.and_eq_true] at ho
  refine a_go hT h hob fun hok w S fc Sg hs hh => ?_
  obtain ⟨Sg', hg, hs', hh'⟩ := reg_begin (ex := ⟨false, some (x, ops.size - ord.length, (ordTo ops (Array.replicate ops.size false) ord).getD #[])⟩) hs hh ht
  show (Code.region id ops true).wp P (post P (bodyPost P fn R) κ) (act n fc) w
  have h1 : (Code.region id ops true).wp P (post P (bodyPost P fn R) (.inv (InvA c n l vs sg φ) :: κ)) (act n fc) w := by
    refine wp_region_tree (S := Sg') (x := x) ord hm (Nat.le_of_ble_eq_true ho.1.1.1.1) ho.1.1.1.2 ho.1.1.2 (fun hlt => ?_) ho.2 ?_ hg false (fun h => by cases h) (hk.out trivial w.drew S fc Sg' hs' hh')
    · have h2 := ho.1.2
      rw [Bool.or_eq_true, Bool.not_eq_true'] at h2
      rcases h2 with h2 | h2
      · rw [show Nat.blt x ops.size = true by simpa [Nat.blt_eq] using hlt] at h2; cases h2
      · exact h2
    · intro cc a d v w hp
      rw [post_panic] at hp ⊢
      exact ⟨by simpa [Act.put] using (show (a.put d v).defers = [] from hp.1) |> fun h => by cases d <;> simpa [Act.put] using h, hp.2⟩
  refine wp_mono h1 ?_
  intro e a' w' he
  cases e with
  | normal =>
    obtain ⟨x', fc', S', rfl, hx', hs', hh'⟩ := he
    exact (h2 x' hx').out trivial w' S' fc' (fun _ => True) hs' hh'
  | _ => exact he
end
end Go.Proofs.YtjcolfogmmjaoaaGreatDoor.A
end

section
/- A method is called through an interface. It holds of any program. -/
set_option linter.unusedVariables false
set_option linter.unusedSectionVars false
set_option linter.unusedSimpArgs false
namespace Go.Proofs.YtjcolfogmmjaoaaGreatDoor.A
open V

/-- The method of that name of type t, of pointers, is g; ptr: it takes the pointer itself. -/
def invOk (P : Program) (t e : TypeId) (name : String) (g : FuncId) (ptr : Bool) : Bool :=
  (match P.underlying t with | some (.pointer e') => Nat.beq e' e | _ => false) &&
  (match P.info? t with
  | some i => match i.methods.find? (·.name == name) with
    | some m => m.path.isEmpty && (match m.func with | some (f, p) => Nat.beq f g && (p == ptr) | none => false)
    | none => false
  | none => false)
theorem invOk_spec {P : Program} {t e : TypeId} {name : String} {g : FuncId} {ptr : Bool} (h : invOk P t e name g ptr = true) : P.underlying t = some (.pointer e) ∧ ∃ i m, P.info? t = some i ∧ i.methods.find? (·.name == name) = some m ∧ m.path = #[] ∧ m.func = some (g, ptr) := by
  unfold invOk at h
  rw [Bool.and_eq_true] at h
  obtain ⟨h1, h2⟩ := h
  refine ⟨?_, ?_⟩
  · split at h1
    · rename_i e' he; rw [he, Nat.eq_of_beq_eq_true h1]
    · cases h1
  · split at h2
    · rename_i i hi
      split at h2
      · rename_i m hm
        rw [Bool.and_eq_true] at h2
        obtain ⟨h3, h4⟩ := h2
        split at h4
        · rename_i f p hf
          rw [Bool.and_eq_true] at h4
          refine ⟨i, m, hi, hm, by simpa using h3, ?_⟩
          rw [hf, Nat.eq_of_beq_eq_true h4.1, eq_of_beq h4.2]
        · cases h4
      · cases h2
    · cases h2
theorem run_methodP {P : Program} {t e : TypeId} {name : String} {g : FuncId} (h : invOk P t e name g true = true) (fuel : Nat) (v : Value) (w : World) : (method (fuel + 1) t v name).run P w = .ok (g, v) w := by
  obtain ⟨hu, i, m, hi, hm, hp, hf⟩ := invOk_spec h
  unfold method
  simp [typeInfo, hi, hm, hp, hf, follow, receiverAt, underlying, hu, Place.get]
theorem run_methodV {P : Program} {t e : TypeId} {name : String} {g : FuncId} (h : invOk P t e name g false = true) (fuel : Nat) (ad : Addr) {u : Value} {w : World} (hl : (loadVar e ad).run P w = .ok u w) : (method (fuel + 1) t (.pointer (some ad)) name).run P w = .ok (g, u) w := by
  obtain ⟨hu, i, m, hi, hm, hp, hf⟩ := invOk_spec h
  have hw : ∀ s1 s2 : String, (Builtin.ssaWrapNilChk_ #[t] t #[.pointer (some ad), strVal s1, strVal s2]).run P w = .ok (.pointer (some ad)) w := fun _ _ => rfl
  unfold method
  simp [typeInfo, hi, hm, hp, hf, follow, receiverAt, underlying, hu, Place.get, hw, asAddr, hl]
theorem run_inv {P : Program} {n : Nat} {fc : Env} {o : Oper} {y : Operand} {name : String} {xs : Array Operand} {ts : Array TypeId} {t : TypeId} {v u : Value} {g : FuncId} {w : World} (ho : o.op = .call ⟨.invoke y name, xs, ts⟩) (hy : ev n fc y = .iface t v) (hm : (method (P.types.size + Made.depth) t v name).run P w = .ok (g, u) w) (hb : callOk P g = true) :
    (execOp (ev n fc) o).run P w = .ok (.enter g (u :: xs.toList.map (ev n fc)).toArray) w := by
  have hx : xs.map (ev n fc) = (xs.toList.map (ev n fc)).toArray := by obtain ⟨xs⟩ := xs; simp
  unfold execOp
  simp only [ho, resolve, Sem.run_bind, Sem.run_pure, Result.andThen_ok, invoke, hy, hx]
  simp [callMethod, hm, run_callFunc hb]
  exact List.take_of_length_le (by simp)
section
variable {P : Program} {L : List TD} {n : Nat} {Q : Exit → Act → World → Prop} {c : Ctx}
variable {s : AMS} {f f' : AEnv} {σ σ' : Store} {ob : Obs} {κ : List Kt} {all : Array Oper} {dec : List Nat} {o : Oper} {al : Bool} {rest : List (Oper × Bool)} {m : Mode}
/-- A pointer's own method. -/
theorem a_invP (hT : TOk P L) {t e : TypeId} {name : String} {g : FuncId} {y : Operand} {xs : Array Operand} {ts : Array TypeId} {r : AV} {args : List AV} {cs cs0 : List Chunk} {σr : Store} {R : AV → List Chunk → Prop} (h : machA L n fuel s f σ [] = ⟨.op m κ all dec o true rest, f', σ', ob⟩) (hob : ob.map (·.1) = ob.map (·.2)) (ho : o.op = .call ⟨.invoke y name, xs, ts⟩) (hy : evA n f' y = .ifc t r)
    (hi : invOk P t e name g true = true) (hb : callOk P g = true) (spec : FSpec P g args cs R) (ks ks' : List Nat) (ha : Fits (r :: evAs n f' xs.toList) args) (ht : takes σ' ks = some (cs0, σr)) (hc : CFits cs0 cs)
    (hk : ∀ a cs', R a cs' → rekK ks' cs' σr fun σ1 => DenA c P n Q (.ops (m.hap true) κ all dec rest) (putA f' o.dst a) σ1) : DenA c P n Q s f σ := by
  refine a_eff hT (fun a σ1 => ∃ cs', R a cs' ∧ σ1 = zipk ks' cs' ++ σr) h hob (fun Y Su w fc hd hY hh he => ?_) (fun a σ1 ⟨cs', hR, hs⟩ => by subst hs; have := hk a cs' hR; rwa [rekK_eq] at this)
  have hr := he.evals (n := n) xs.toList
  have hv := he.eval (n := n) y
  rw [hy] at hv
  unfold Rep at hv
  obtain ⟨v, hv, hrv⟩ := hv
  rw [run_inv ho hv (run_methodP hi _ _ _) hb]
  exact call_does (spec.fit ha hc) hY hd hh ht (Reps.cons hrv hr)
/-- A value's method, by a pointer to the value. -/
theorem a_invV (hT : TOk P L) {t e tb : TypeId} {name : String} {g gb off hh0 : Nat} {gb' : Nat} {cells : List AV} {y : Operand} {xs : Array Operand} {ts : Array TypeId} (r : AV) {args : List AV} {cs cs0 : List Chunk} {σr : Store} {R : AV → List Chunk → Prop} (h : machA L n fuel s f σ [] = ⟨.op m κ all dec o true rest, f', σ', ob⟩) (hob : ob.map (·.1) = ob.map (·.2)) (ho : o.op = .call ⟨.invoke y name, xs, ts⟩) (hy : evA n f' y = .ifc t (.v (.pointer (some ⟨gb, off, none⟩)) hh0))
    (hi : invOk P t e name g false = true) (hb : callOk P g = true) (hl : look σ' hh0 = some (.blk gb' tb cells)) (hgb : gb = gb') (hld : loadK L e cells off some none = some r) (spec : FSpec P g args cs R) (ks ks' : List Nat) (ha : Fits (r :: evAs n f' xs.toList) args) (ht : takes σ' ks = some (cs0, σr)) (hc : CFits cs0 cs)
    (hk : ∀ a cs', R a cs' → rekK ks' cs' σr fun σ1 => DenA c P n Q (.ops (m.hap true) κ all dec rest) (putA f' o.dst a) σ1) : DenA c P n Q s f σ := by
  subst hgb
  refine a_eff hT (fun a σ1 => ∃ cs', R a cs' ∧ σ1 = zipk ks' cs' ++ σr) h hob (fun Y Su w fc hd hY hh he => ?_) (fun a σ1 ⟨cs', hR, hs⟩ => by subst hs; have := hk a cs' hR; rwa [rekK_eq] at this)
  have hr := he.evals (n := n) xs.toList
  have hv := he.eval (n := n) y
  rw [hy] at hv
  unfold Rep at hv
  obtain ⟨v, hv, hrv⟩ := hv
  have hrv := rep_v hrv
  subst hrv
  obtain ⟨S1, S2, hS, hdis, hcb, _⟩ := hh.take hl
  obtain ⟨hS1, ys, hbk, hry, h1⟩ := hcb
  rcases loadK_says (P := P) hT (t := e) hry h1 off (W := fun w' => w' = w) (ad := ⟨gb, 0, none⟩) (fun w' e => by subst e; exact hbk.cells) with hz | ⟨a', ha', u, hu, hru⟩
  · rw [hz] at hld; cases hld
  · rw [ha'] at hld
    cases hld
    have hu := hu w rfl
    rw [add_plain] at hu
    rw [run_inv ho hv (run_methodV hi _ _ hu) hb]
    exact call_does (spec.fit ha hc) hY hd hh ht (Reps.cons hru hr)
theorem flat_set {k : Nat} : ∀ {es : List (List Dat)} {i j : Nat} {ds : List Dat} (d : Dat), (∀ e ∈ es, e.length = k) → es[i]? = some ds → j < k → (es.set i (ds.set j d)).flatten = es.flatten.set (i * k + j) d
  | [], i, j, ds, d, hl, h, hj => by simp at h
  | e :: es, 0, j, ds, d, hl, h, hj => by
    simp at h
    subst h
    have := hl e (by simp)
    rw [List.set_cons_zero, List.flatten_cons, List.flatten_cons, Nat.zero_mul, Nat.zero_add, List.set_append_left _ _ (by omega)]
  | e :: es, i + 1, j, ds, d, hl, h, hj => by
    have he := hl e (by simp)
    have := flat_set (es := es) (i := i) (j := j) (ds := ds) d (fun e' h' => hl e' (by simp [h'])) (by simpa using h) hj
    rw [List.set_cons_succ, List.flatten_cons, List.flatten_cons, this, List.set_append_right _ _ (by rw [he, Nat.succ_mul]; omega), he, show (i + 1) * k + j - k = i * k + j by rw [Nat.succ_mul]; omega]
theorem vrep_set {M : Nat → Prop} {w : World} : ∀ {ds : List Dat} {xs : List Value} (i : Nat) {d : Dat} {u : Value}, VRep M w ds xs → DRep M w d u → VRep M w (ds.set i d) (xs.set i u)
  | [], xs, i, d, u, h, hd => by unfold VRep at h; subst h; simp; exact VRep.nil
  | d0 :: ds, xs, 0, d, u, h, hd => by
    unfold VRep at h
    obtain ⟨x, r, rfl, h1, h2⟩ := h
    rw [List.set_cons_zero, List.set_cons_zero]
    unfold VRep
    exact ⟨u, r, rfl, hd, h2⟩
  | d0 :: ds, xs, i + 1, d, u, h, hd => by
    unfold VRep at h
    obtain ⟨x, r, rfl, h1, h2⟩ := h
    rw [List.set_cons_succ, List.set_cons_succ]
    unfold VRep
    exact ⟨x, r.set i u, rfl, h1, vrep_set i h2 hd⟩
theorem VRep.split' {M : Nat → Prop} {w : World} : ∀ {ds : List Dat} {xs : List Value}, VRep M w ds xs → ∀ n, VRep M w (ds.take n) (xs.take n)
  | [], xs, h, n => by unfold VRep at h; subst h; simp; exact VRep.nil
  | d :: ds, xs, h, 0 => by simp; exact VRep.nil
  | d :: ds, xs, h, n + 1 => by
    unfold VRep at h
    obtain ⟨x, r, rfl, h1, h3⟩ := h
    exact VRep.cons h1 (h3.split' n)
/-- A cell of a row is written. -/
theorem a_rst (hT : TOk P L) {t e : TypeId} {x y : Operand} {g k hh l cap off : Nat} {es : List (List Dat)} {v' : Value} (i j : Nat) (ds : List Dat) (d : Dat) (h : machA L n fuel s f σ [] = ⟨.op m κ all dec o true rest, f', σ', ob⟩) (hob : ob.map (·.1) = ob.map (·.2)) (ho : o.op = .store t x y) (ht : oneT (tl L t) = true)
    (hx : evA n f' x = .v (.pointer (some ⟨g, off, none⟩)) hh) (hl : look σ' hh = some (.row v' e k es)) (hv' : v' = .slice (some ⟨g, 0, none⟩) l cap) (hoff : off = i * k + j) (hd : es[i]? = some ds) (hj : j < k) (hy : datK (evA n f' y) = some d)
    (hk : DenA c P n Q (.ops (m.hap true) κ all dec rest) (putA f' o.dst (.v undef 0)) (upd σ' hh (.row v' e k (es.set i (ds.set j d))))) : DenA c P n Q s f σ := by
  subst hv'
  subst hoff
  refine a_eff hT (fun a1 σ1 => a1 = .v undef 0 ∧ σ1 = upd σ' hh (.row (.slice (some ⟨g, 0, none⟩) l cap) e k (es.set i (ds.set j d)))) h hob (fun Y Su w fc hdd hY hhd henv => ?_) (fun a1 σ1 ⟨ha, hs⟩ => by subst ha; subst hs; exact hk)
  obtain ⟨S1, S2, hS, hdis, hc, hrest⟩ := hhd.take hl
  obtain ⟨hS1, hkl, xs, ho', hv⟩ := hc
  have hxv := henv.eval (n := n) x
  rw [hx] at hxv
  have hyv := datK_rep hy (henv.eval (n := n) y)
  generalize hu : ev n fc y = u at hyv
  have h1 := hyv.one
  have hlt := (List.getElem?_eq_some_iff.1 hd).1
  have hlen : i * k + j < es.length * k := by
    have : (i + 1) * k ≤ es.length * k := Nat.mul_le_mul_right _ hlt
    rw [Nat.succ_mul] at this
    omega
  rcases ho'.2 with ⟨hbad, _⟩ | ⟨g', cap', cur, hvv, hb0, hgg, hn, hcap, hsz, htk⟩
  · cases hbad
  simp only [Value.slice.injEq, Option.some.injEq, Addr.mk.injEq, and_true] at hvv
  obtain ⟨rfl, rfl, rfl⟩ := hvv
  have hblk : Blk w g e cur.toList := by unfold Blk; simpa using hgg
  have hoff : i * k + j < cur.toList.length := by
    have : es.length * k ≤ cap * k := Nat.mul_le_mul_right _ hn
    simp
    omega
  have hone := one_tl hT ht
  obtain ⟨td, htd, _, hsz1⟩ := hone
  have hrun : (execOp (ev n fc) o).run P w = .ok .skip (w.setCell ⟨g, i * k + j, none⟩ u) := by
    have := exec_store (P := P) (n := n) (f := fc) (w := w) (vs := [u]) hT ho (rep_v hxv) (by rw [hu]; exact cells_one h1) hsz1 (some_of_one htd) (by simpa using h1) (fun q hq => by
      obtain rfl : q = 0 := by simpa using hq
      simp [Addr.add, hblk.cell (i * k + j) (List.getElem?_eq_getElem hoff), hblk.free])
    simpa [setAll, Addr.add] using this
  rw [hrun]
  have hSg : S1 g := (hS1 g).2 rfl
  have hev : Ev (at1 g) w (w.setCell ⟨g, i * k + j, none⟩ u) := Ev.setCell w ⟨g, i * k + j, none⟩ u
  have hm : ∀ b, b < w.heap.size → at1 g b ∨ or2 Su Y b → or2 Su Y b := fun b _ h => h.elim (fun h => by rw [show b = g from h]; exact .inl ((hS g).2 (.inl hSg))) id
  refine ⟨_, _, Su, ⟨rfl, rfl⟩, mk_v, ?_, hev.mono fun b _ h => by rw [show b = g from h]; exact (hS g).2 (.inl hSg), fun b hb => .inl hb⟩
  refine (Holds.upd (S1 := S1) (c' := .row (.slice (some ⟨g, 0, none⟩) es.length cap) e k (es.set i (ds.set j d))) hev hm hhd hl hrest (fun b hb hg => hdis b (by rw [show b = g from hg]; exact hSg) hb) hdis ⟨hS1, ?_, xs.set (i * k + j) u, ?_, ?_⟩).iff hS
  · intro e' he'
    rcases List.mem_or_eq_of_mem_set he' with h | rfl
    · exact hkl e' h
    · rw [List.length_set]; exact hkl ds (List.mem_of_getElem? hd)
  · refine ⟨?_, .inr ⟨g, cap, (cur.toList.set (i * k + j) u).toArray, by simp, hb0, by simpa [Blk] using hblk.set (i * k + j) u, by simpa using hn, hcap, by simpa using hsz, ?_⟩⟩
    · rw [List.length_set, List.length_set]; exact ho'.1
    · rw [List.length_set, ← htk]
      simp [List.take_set]
  · rw [flat_set d hkl hd hj]
    exact (vrep_set _ hv hyv).ev hev hm
theorem take_flat {k : Nat} : ∀ {es : List (List Dat)} (r : Nat), (∀ e ∈ es, e.length = k) → (es.take r).flatten = es.flatten.take (r * k)
  | [], r, h => by simp
  | e :: es, 0, h => by simp
  | e :: es, r + 1, h => by
    have he := h e (by simp)
    have h5 : e.take ((r + 1) * k) = e := List.take_of_length_le (by rw [he, Nat.succ_mul]; omega)
    rw [List.take_succ_cons, List.flatten_cons, List.flatten_cons, take_flat r fun e' h' => h e' (by simp [h']), List.take_append, h5, he, show (r + 1) * k - k = r * k by rw [Nat.succ_mul]; omega]
/-- A row is cut off. -/
theorem a_rsl (hT : TOk P L) {t e : TypeId} {x y : Operand} {q : IntKind} {i : Int} {g k hh h2 l cap : Nat} {es : List (List Dat)} {v' : Value} (r : Nat) (h : machA L n fuel s f σ [] = ⟨.op m κ all dec o true rest, f', σ', ob⟩) (hob : ob.map (·.1) = ob.map (·.2)) (ho : o.op = .slice t x none (some y) none) (ht : tl L t = .sl e k)
    (hx : evA n f' x = .row (.slice (some ⟨g, 0, none⟩) l cap) hh) (hl : look σ' hh = some (.row v' e k es)) (hv' : v' = .slice (some ⟨g, 0, none⟩) l cap) (hy : evN n f' y = .v (.int q i) h2) (hi : i = (r : Int)) (hr : r ≤ es.length)
    (hk : DenA c P n Q (.ops (m.hap true) κ all dec rest) (putA f' o.dst (.row (.slice (some ⟨g, 0, none⟩) r cap) hh)) (upd σ' hh (.row (.slice (some ⟨g, 0, none⟩) r cap) e k (es.take r)))) : DenA c P n Q s f σ := by
  subst hv'
  subst hi
  refine a_eff hT (fun a1 σ1 => a1 = .row (.slice (some ⟨g, 0, none⟩) r cap) hh ∧ σ1 = upd σ' hh (.row (.slice (some ⟨g, 0, none⟩) r cap) e k (es.take r))) h hob (fun Y Su w fc hdd hY hhd henv => ?_) (fun a1 σ1 ⟨ha, hs⟩ => by subst ha; subst hs; exact hk)
  obtain ⟨S1, S2, hS, hdis, hc, hrest⟩ := hhd.take hl
  obtain ⟨hS1, hkl, xs, ho', hv⟩ := hc
  obtain ⟨hu, hinf, hm⟩ := sl_tl hT ht
  have hxv := henv.eval (n := n) x
  rw [hx] at hxv
  unfold Rep at hxv
  have hyv := rep_v (by have := henv.evalN (n := n) y; rw [hy] at this; exact this : Rep (or2 Su Y) w (.v (.int q (r : Int)) h2) (ev n fc y))
  rcases ho'.2 with ⟨hbad, _⟩ | ⟨g', cap', cur, hvv, hb0, hgg, hn, hcap, hsz, htk⟩
  · cases hbad
  simp only [Value.slice.injEq, Option.some.injEq, Addr.mk.injEq, and_true] at hvv
  obtain ⟨rfl, rfl, rfl⟩ := hvv
  have hrc : r ≤ cap := by omega
  have hrun : (execOp (ev n fc) o).run P w = .ok (.value (.slice (some ⟨g, 0, none⟩) r cap)) w := by
    simp [execOp, ho, Instr.sliceAt, Instr.slice, hxv.1, hyv, underlying, hu, Instr.sliceBounds, Instr.sliceBound, asIntOf, hrc, run_sizeOf' hinf, Addr.add]
  rw [hrun]
  have hev : Ev no w w := Ev.refl no w
  have hm' : ∀ b, b < w.heap.size → no b ∨ or2 Su Y b → or2 Su Y b := fun b _ h => h.elim (fun h => h.elim) id
  refine ⟨_, _, Su, ⟨rfl, rfl⟩, by unfold Rep; exact ⟨rfl, rfl⟩, ?_, Ev.refl _ _, fun b hb => .inl hb⟩
  refine (Holds.upd (S1 := S1) (c' := .row (.slice (some ⟨g, 0, none⟩) r cap) e k (es.take r)) hev hm' hhd hl hrest (fun b hb hg => hg.elim) hdis ⟨hS1, fun e' he' => hkl e' (List.mem_of_mem_take he'), xs.take (r * k), ?_, ?_⟩).iff hS
  · have hlr : (es.take r).length = r := by simp; omega
    rw [hlr]
    refine ⟨?_, .inr ⟨g, cap, cur, rfl, hb0, hgg, hrc, hcap, hsz, ?_⟩⟩
    · rw [List.length_take, ho'.1]
      exact Nat.min_eq_left (Nat.mul_le_mul_right _ hr)
    · rw [← htk, List.take_take]
      congr 1
      exact (Nat.min_eq_left (Nat.mul_le_mul_right _ hr)).symm
  · rw [take_flat r hkl]
    have h3 := hv.split' (r * k)
    exact h3
end
end Go.Proofs.YtjcolfogmmjaoaaGreatDoor.A
end
