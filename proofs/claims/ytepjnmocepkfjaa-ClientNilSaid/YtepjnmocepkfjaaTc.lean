/- A row of one's own, read at an index that isn't known. It holds of any program. -/
import Derived.Test.YtepjnmocepkfjaaTa
set_option linter.unusedVariables false
set_option linter.unusedSectionVars false
set_option linter.unusedSimpArgs false
namespace Go.Proofs.Ytepjnmocepkfjaa.A
open V

section
variable {P : Program} {L : List TD} {n : Nat} {Q : Exit → Act → World → Prop} {c : Ctx}
variable {s : AMS} {f f' : AEnv} {σ σ' : Store} {ob : Obs} {κ : List Kt} {all : Array Oper} {dec : List Nat} {o : Oper} {al : Bool} {rest : List (Oper × Bool)} {m : Mode}

/-- How a row's value looks. -/
theorem a_rowfact (h0 : Nat) {x : Value} {e k : Nat} {es : List (List Dat)} (hst : s.still = true) (hl : look σ h0 = some (.row x e k es))
    (hk : (x = .slice none 0 0 ∧ es = []) ∨ (∃ g cap, x = .slice (some ⟨g, 0, none⟩) es.length cap) → DenA c P n Q s f σ) : DenA c P n Q s f σ := by
  refine ⟨fun hok w S fc Sg hs hh => ?_⟩
  have hp : s.mode = .plain ∨ s.mode = .rest ∨ ∃ ex, s.mode = .last ex := by
    cases s with
    | ops m κ all dec rest => cases m <;> first | exact .inl rfl | exact .inr (.inl rfl) | exact .inr (.inr ⟨_, rfl⟩) | cases hst
    | _ => exact .inl rfl
  have hh0 : Holds (or2 S c.X) w σ S := by rcases hp with e | e | ⟨ex, e⟩ <;> (rw [e] at hh; exact hh)
  obtain ⟨S1, S2, hS, hd, hc, _⟩ := hh0.take hl
  obtain ⟨_, _, xs, ho, _⟩ := hc
  refine (hk ?_).out hok w S fc Sg hs hh
  rcases ho.2 with ⟨h1, h2⟩ | ⟨g, cap, cur, h1, _⟩
  · exact .inl ⟨h1, List.eq_nil_of_length_eq_zero h2⟩
  · exact .inr ⟨g, cap, h1⟩
/-- Where an element of a row lies. -/
theorem a_rix (hT : TOk P L) {t e : TypeId} {k hh h2 l cap g : Nat} {x y : Operand} {ki : IntKind} {i : Int} (j : Nat) (h : machA L n fuel s f σ [] = ⟨.op m κ all dec o al rest, f', σ', ob⟩) (hob : ob.map (·.1) = ob.map (·.2)) (ho : o.op = .indexAddr t x y) (ht : tl L t = .sl e k)
    (hx : evA n f' x = .row (.slice (some ⟨g, 0, none⟩) l cap) hh) (hy : evN n f' y = .v (.int ki i) h2) (hi : i = (j : Int)) (hj : j < l) (hk : DenA c P n Q (.ops m κ all dec rest) (putA f' o.dst (.v (.pointer (some ⟨g, j * k, none⟩)) hh)) σ') : DenA c P n Q s f σ := by
  subst hi
  refine a_pure hT (.v (.pointer (some ⟨g, j * k, none⟩)) hh) h hob (fun M w fc he => ?_) hk
  obtain ⟨hu, hi, hm⟩ := sl_tl hT ht
  have h1 := he.eval (n := n) x
  have h2 := he.evalN (n := n) y
  rw [hx] at h1
  rw [hy] at h2
  unfold Rep at h1
  refine ⟨.pointer (some ⟨g, j * k, none⟩), fun w' => ?_, mk_v⟩
  simp [execOp, ho, Instr.indexAt, h1.1, rep_v h2, asIntOf, underlying, hu, hj, run_sizeOf' hi, hm, Addr.add]
  intro h0
  rw [h0]
theorem add_off (g a j : Nat) : (⟨g, a, none⟩ : Addr).add j = ⟨g, a + j, none⟩ := by
  unfold Addr.add
  by_cases h : j = 0
  · subst h; simp
  · simp [h]
theorem flat_part {k : Nat} : ∀ {es : List (List Dat)} {i : Nat} {d : List Dat}, (∀ e ∈ es, e.length = k) → es[i]? = some d → (es.flatten.drop (i * k)).take k = d
  | [], i, d, hl, h => by simp at h
  | e :: es, 0, d, hl, h => by
    simp at h
    subst h
    have := hl e (by simp)
    rw [Nat.zero_mul, List.drop_zero, List.flatten_cons, List.take_append_of_le_length (by omega), List.take_of_length_le (by omega)]
  | e :: es, i + 1, d, hl, h => by
    have he := hl e (by simp)
    have := flat_part (es := es) (i := i) (d := d) (fun e' h' => hl e' (by simp [h'])) (by simpa using h)
    rw [List.flatten_cons, List.drop_append, List.drop_eq_nil_of_le (by rw [he, Nat.succ_mul]; omega), he, List.nil_append, show (i + 1) * k - k = i * k by rw [Nat.succ_mul]; omega]
    exact this
theorem row_elem {M : Nat → Prop} {w : World} {S1 : Nat → Prop} {g l cap e k i : Nat} {es : List (List Dat)} {d : List Dat} (hc : CRep M w (.row (.slice (some ⟨g, 0, none⟩) l cap) e k es) S1) (hd : es[i]? = some d) :
    S1 g ∧ ∃ ys, Reps M w (dcells d) ys ∧ (∀ u ∈ ys, u.oneCell' = true) ∧ Cells w ⟨g, i * k, none⟩ ys := by
  obtain ⟨hS1, hk, xs, ho, hv⟩ := hc
  refine ⟨(hS1 g).2 rfl, (xs.drop (i * k)).take k, ?_, fun u hu => hv.one u (List.mem_of_mem_drop (List.mem_of_mem_take hu)), fun j v hj => ?_⟩
  · have := ((Reps.ofV hv).drop (i * k)).take k
    rw [← List.map_drop, ← List.map_take, flat_part hk hd] at this
    rw [dcells_eq]
    exact this
  · have hjk : j < k := by have := (List.getElem?_eq_some_iff.1 hj).1; simp at this; omega
    rw [List.getElem?_take_of_lt hjk, List.getElem?_drop] at hj
    have := ho.cells (g := g) rfl _ _ hj
    rw [add_off] at this ⊢
    rwa [Nat.zero_add] at this
/-- An element of a row, or a part of it, is read. -/
theorem a_rld (hT : TOk P L) {t e : TypeId} {x : Operand} {g k hh l cap off : Nat} {es : List (List Dat)} {v' : Value} (i j : Nat) (d : List Dat) (a : AV) (h : machA L n fuel s f σ [] = ⟨.op m κ all dec o true rest, f', σ', ob⟩) (hob : ob.map (·.1) = ob.map (·.2)) (ho : o.op = .load t x)
    (hx : evA n f' x = .v (.pointer (some ⟨g, off, none⟩)) hh) (hl : look σ' hh = some (.row v' e k es)) (hv' : v' = .slice (some ⟨g, 0, none⟩) l cap) (hoff : off = i * k + j) (hd : es[i]? = some d) (hld : loadK L t (dcells d) j some none = some a)
    (hk : DenA c P n Q (.ops (m.hap true) κ all dec rest) (putA f' o.dst a) σ') : DenA c P n Q s f σ := by
  subst hv'
  subst hoff
  refine a_eff hT (fun a1 σ1 => a1 = a ∧ σ1 = σ') h hob (fun Y Su w fc hdd hY hhd henv => ?_) (fun a1 σ1 ⟨ha, hs⟩ => by subst ha; subst hs; exact hk)
  obtain ⟨S1, S2, hS, hdis, hc, _⟩ := hhd.take hl
  obtain ⟨_, ys, hr, h1, hcl⟩ := row_elem hc hd
  have hxv := henv.eval (n := n) x
  rw [hx] at hxv
  rcases loadK_says (P := P) hT (t := t) hr h1 j (W := fun w' => w' = w) (ad := ⟨g, i * k, none⟩) (fun w' e => by subst e; exact hcl) with hz | ⟨a', ha', v, hv, hrv⟩
  · rw [hz] at hld; cases hld
  · rw [ha'] at hld
    cases hld
    have hv := hv w rfl
    rw [add_off] at hv
    rw [exec_load ho (rep_v hxv) hv]
    exact ⟨_, _, Su, ⟨rfl, rfl⟩, hrv, hhd, Ev.refl _ _, fun b hb => .inl hb⟩
/-- .. in a drawn region. -/
theorem a_rldP (hT : TOk P L) {t e : TypeId} {x : Operand} {g k hh l cap off : Nat} {es : List (List Dat)} {v' : Value} {σp : Store} {ex : Ex} {pre : Bool} (i j : Nat) (d : List Dat) (a : AV) (h : machA L n fuel s f σ [] = ⟨.op (.reg pre σp ex) κ all dec o al rest, f', σ', ob⟩) (hob : ob.map (·.1) = ob.map (·.2)) (ho : o.op = .load t x)
    (hx : evA n f' x = .v (.pointer (some ⟨g, off, none⟩)) hh) (hl : look σp hh = some (.row v' e k es)) (hv' : v' = .slice (some ⟨g, 0, none⟩) l cap) (hoff : off = i * k + j) (hd : es[i]? = some d) (hld : loadK L t (dcells d) j some none = some a)
    (hk : DenA c P n Q (.ops (.reg pre σp ex) κ all dec rest) (putA f' o.dst a) σ') : DenA c P n Q s f σ := by
  subst hv'
  subst hoff
  refine a_go hT h hob fun hok w S fc Sg hsat hh => ?_
  have haa : (act n fc).eval = ev n fc := funext (act_eval n fc)
  obtain ⟨ws, U, Sp, Su, hh'⟩ := id hh
  obtain ⟨S1, S2, hS, hdis, hc, _⟩ := hh'.hp.take hl
  obtain ⟨hg, ys, hr, h1, hcl⟩ := row_elem hc hd
  have hxv := hsat.env.eval (n := n) x
  rw [hx] at hxv
  have hkept := hh'.kept g ((hS g).2 (.inl hg))
  have hcl' : ∀ w', Sg w' → Cells w' ⟨g, i * k, none⟩ ys := fun w' hw' q v hq => by
    have hnow := hh'.now
    rw [hh'.sg] at hw' hnow
    rw [← hcl q v hq]
    exact World.cell?_of_block (w := w) (by rw [add_block, hw' g hkept.2 hkept.1, hnow g hkept.2 hkept.1])
  rcases loadK_says (P := P) hT (t := t) hr h1 j (W := Sg) (ad := ⟨g, i * k, none⟩) hcl' with hz | ⟨a', ha', v, hv, hrv⟩
  · rw [hz] at hld; cases hld
  · rw [ha'] at hld
    cases hld
    refine .inl ⟨v, fun w' hw' => ?_, ?_⟩
    · rw [haa]
      have hv := hv w' hw'
      rw [add_off] at hv
      exact exec_load ho (rep_v hxv) hv
    · rw [act_put]
      exact hk.out trivial w S (put fc o.dst _) Sg ⟨hsat.env.put o.dst hrv, hsat.ev, hsat.sub⟩ hh
/-- A drawn region whose order branches; what comes behind it, whatever that is. -/
theorem a_treeN (hT : TOk P L) {fn : Func} {R : Ending → World → Prop} {id : Nat} {ops : Array Oper} {cu : List Chunk} {σp : Store} {X : Type} (l : List Nat) (vs : X → List AV) (sg : X → Store) (φ : X → Prop) (us : List Nat) (x : Nat) (ord : List (Nat × Bool)) (h : machA L n fuel s f σ [] = ⟨.draw κ id ops, f', σ', ob⟩) (hob : ob.map (·.1) = ob.map (·.2)) (hm : P.follows .mixedOrders = true)
    (ho : (Nat.ble ord.length ops.size && Region.noSelect ops && (ordTo ops (Array.replicate ops.size false) ord).isSome && (!(Nat.blt x ops.size) || waitsAll .any ops x) && xOk x ord) = true) (ht : takes σ' us = some (cu, σp))
    (hk : DenA c P n (bodyPost P fn R) (.ops (.reg true σp ⟨false, some (x, ops.size - ord.length, (ordTo ops (Array.replicate ops.size false) ord).getD #[])⟩) (.inv (InvA c n l vs sg φ) :: κ) ops [] (selK ops.toList ord)) f' (zipk us cu))
    (h2 : ∀ x, φ x → DenA c P n (bodyPost P fn R) (.nrm κ) (overA l (vs x)) (sg x)) : DenA c P n (bodyPost P fn R) s f σ := by
  simp only [Bool.and_eq_true] at ho
  refine a_go hT h hob fun hok w S fc Sg hs hh => ?_
  obtain ⟨Sg', hg, hs', hh'⟩ := reg_begin (ex := ⟨false, some (x, ops.size - ord.length, (ordTo ops (Array.replicate ops.size false) ord).getD #[])⟩) hs hh ht
  show (Code.region id ops true).wp P (post P (bodyPost P fn R) κ) (act n fc) w
  have h1 : (Code.region id ops true).wp P (post P (bodyPost P fn R) (.inv (InvA c n l vs sg φ) :: κ)) (act n fc) w := by
    refine wp_region_tree (S := Sg') (x := x) ord hm (Nat.le_of_ble_eq_true ho.1.1.1.1) ho.1.1.1.2 ho.1.1.2 (fun hlt => ?_) ho.2 ?_ hg false (fun h => by cases h) (hk.out trivial w.drew S fc Sg' hs' hh')
    · have h2 := ho.1.2
      rw [Bool.or_eq_true, Bool.not_eq_true'] at h2
      rcases h2 with h2 | h2
      · rw [show Nat.blt x ops.size = true by simpa [Nat.blt_eq] using hlt] at h2; cases h2
      · exact h2
    · intro cc a d v w hp
      rw [post_panic] at hp ⊢
      exact ⟨by simpa [Act.put] using (show (a.put d v).defers = [] from hp.1) |> fun h => by cases d <;> simpa [Act.put] using h, hp.2⟩
  refine wp_mono h1 ?_
  intro e a' w' he
  cases e with
  | normal =>
    obtain ⟨x', fc', S', rfl, hx', hs', hh'⟩ := he
    exact (h2 x' hx').out trivial w' S' fc' (fun _ => True) hs' hh'
  | _ => exact he
end
end Go.Proofs.Ytepjnmocepkfjaa.A
