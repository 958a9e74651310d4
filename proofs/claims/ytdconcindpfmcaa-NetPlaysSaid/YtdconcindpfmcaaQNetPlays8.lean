import Derived.Test.YtdconcindpfmcaaQNetPlays7
section
/- NetPlays: the walk and what it computes. -/
set_option linter.unusedVariables false
set_option linter.unusedSimpArgs false
set_option maxRecDepth 100000
set_option maxHeartbeats 1000000
namespace Go.Proofs.Ytdconcindpfmcaa
open V A
theorem ref_nil {g : Nat} {last : Int} : Ent [.blk g 96 [.v (.slice none 0 0) 0, .v (kI last) 0]] [refB g (.slice none 0 0) last, rowRf (.slice none 0 0) []] := by
  have e1 : Ent [.blk g 96 [.v (.slice none 0 0) 0, .v (kI last) 0]] [refB g (.slice none 0 0) last] := fun M w U hh => by
    refine holds_one.2 ?_
    obtain ⟨hS, xs, hb, hr, h1⟩ := holds_one.1 hh
    refine ⟨hS, xs, hb, ?_, h1⟩
    unfold Reps at hr
    obtain ⟨x, r, rfl, hx, hr⟩ := hr
    have := rep_v hx
    subst this
    exact Reps.cons (by unfold Rep; exact ⟨rfl, rfl⟩) hr
  have e2 : Ent [] [rowRf (.slice none 0 0) []] := fun M w U hh => holds_one.2 (by
    have h := row_nil (M := M) (w := w) 133 4
    exact ⟨fun b => ⟨fun hb => (hh b hb).elim, fun hb => ((h.1 b).2 hb).elim⟩, h.2⟩)
  exact e1.trans (Ent.cons _ e2)
theorem netQ_new {g : Nat} : Ent [netB g (.slice none 0 0) 0, rowPk (.slice none 0 0) []] [.ext (netQ g ⟨0, []⟩)] := by
  have e : Ent [netB g (.slice none 0 0) 0, rowPk (.slice none 0 0) []] (netCs g 0 (.slice none 0 0) []) := Ent.cons _ (Ent.cons _ (ent_shut []))
  exact e.trans (ent_pack (φ := fun x : Value × List PX => x.2.map (·.p) = []) (f := fun x : Value × List PX => netCs g 0 x.1 x.2) (.slice none 0 0, []) rfl)
theorem FSpec.opens {g : FuncId} {args : List AV} {cs cs0 : List Chunk} {R1 : AV → Prop} {X : Type} {φ : X → Prop} {f : X → List Chunk} (h : FSpec Try.prog g args cs fun a cs' => R1 a ∧ cs' = cs0 ++ [.ext (exA φ f)]) : FSpec Try.prog g args cs fun a cs' => ∃ x, φ x ∧ R1 a ∧ cs' = cs0 ++ f x :=
  ⟨fun X S w xs h1 h2 h3 h4 => (h.out X S w xs h1 h2 h3 h4).mono fun e w' hp => by
    obtain ⟨v, a, cs', S', rfl, ⟨hR, rfl⟩, q2, q3, q4, q5⟩ := hp
    obtain ⟨A, B, k1, k2, k3, k4⟩ := q3.parts
    obtain ⟨x, hx, hk⟩ := (show (exA φ f).h _ B w' from holds_one.1 k2)
    exact ⟨v, a, cs0 ++ f x, S', rfl, ⟨x, hx, hR, rfl⟩, q2, k1.append hk k3 k4, q4, q5⟩⟩
theorem nstepO_spec {g r h h2 : Nat} {N : NN} {o : NOp} {v : Value} (hN : N.ok) (hl : N.last < 900000) (hb : o.bytes.length ≤ 20000) : FSpec Try.prog 53 [ptrA g h, ptrA r h2, nopA o] [.ext (netQ g N), refB r v N.last, rowRf v N.l]
    fun a cs => ∃ v', a = .v (.bool true) 0 ∧ cs = [.ext (netQ g (stepN N o)), refB r v' (stepN N o).last, rowRf v' (stepN N o).l] := by
  have h1 := (nstep_spec (g := g) (r := r) (h := h) (h2 := h2) hN hl hb).ent (Ent.cons (.ext (netQ g N)) (ent_pack (f := fun v : Value => [refB r v N.last, rowRf v N.l]) (φ := fun _ => True) v trivial))
  refine (FSpec.opens (cs0 := [.ext (netQ g (stepN N o))]) (φ := fun _ : Value => True) (f := fun v => [refB r v (stepN N o).last, rowRf v (stepN N o).l]) (R1 := fun a => a = .v (.bool true) 0) h1).mono fun a cs ⟨v', _, h3, h4⟩ => ⟨v', h3, h4⟩
structure WN where
  i : Nat
  N : NN
  v : Value
structure WN.ok (l : List NOp) (x : WN) : Prop where
  i : x.i ≤ l.length
  c : x.N.ok
  l : x.N.last ≤ x.i
theorem netPlays_spec {l : List NOp} {z : Bool} {h : Nat} (hl : l.length ≤ reachBytes) (hok : ∀ o ∈ l, o.bytes.length ≤ reachBytes) : FSpec Try.prog 14 [nscr l, .v (.bool z) h] [] fun a _ => a = .v (.bool true) 0 := by
  refine a_enter hT [nscr l, .v (.bool z) 0] [] Try.func14 rfl rfl rfl ⟨rfl, rfl, trivial⟩ fun c => ?_
  refine a_call hT rfl rfl rfl (by kernel_rfl) nawake_spec [] [] rfl rfl ?_
  rintro _ _ ⟨rfl, rfl⟩
  refine a_gf hT rfl rfl rfl rfl ?_
  refine a_call hT rfl rfl rfl (by kernel_rfl) (nfew_spec hl hok) [] [] rfl rfl ?_
  rintro _ _ ⟨b, hb, rfl, rfl⟩
  cases b with
  | false =>
    refine a_t hT rfl rfl rfl ?_
    refine a_call hT rfl rfl rfl (by kernel_rfl) nawake_spec [] [] rfl rfl ?_
    rintro _ _ ⟨rfl, rfl⟩
    exact a_ret hT [] rfl rfl rfl rfl rfl rfl rfl
  | true =>
    obtain ⟨hl3, hb2⟩ := hb rfl
    refine a_f hT rfl rfl rfl ?_
    refine a_call hT rfl rfl rfl (by kernel_rfl) nnew_spec [] [10, 30] rfl rfl ?_
    rintro _ _ ⟨g, rfl, rfl⟩
    refine a_ent [10, 30] [10] _ rfl rfl netQ_new ?_
    refine a_build hT hZ [.v (.slice none 0 0) 0, .v (kI 0) 0] rfl rfl rfl rfl rfl rfl ?_
    refine a_box hT 20 rfl rfl rfl rfl fun r => ?_
    refine a_ent [20] [20, 30] _ rfl rfl ref_nil ?_
    refine a_cutK hT [0, 5, 6] (fun g' : Nat => [nscr l, ptrA g' 10, ptrA r 20]) (fun g' => [(10, .ext (netQ g' ⟨0, []⟩)), (20, refB r (.slice none 0 0) 0), (30, rowRf (.slice none 0 0) [])]) (fun _ => True) 10 rfl rfl ?_ ?_
    · refine a_if hT rfl rfl (fun h1 => ?_) (fun h1 => ?_)
      · refine a_build hT hZ [.v (.slice none 0 0) 0, .v (kI 0) 0] rfl rfl rfl rfl rfl rfl ?_
        refine a_box hT 21 rfl rfl rfl rfl fun g' => ?_
        refine a_ent [21] [21] _ rfl rfl (net_nil.trans netQ_new) ?_
        exact a_next hT g' [21, 20, 30] rfl rfl trivial ⟨rfl, rfl, rfl, trivial⟩ rfl ⟨rfl, ⟨rfl, rfl, Fits.refl _⟩, ⟨rfl, rfl, rfl, rfl⟩, trivial⟩
      · exact a_next hT g [10, 20, 30] rfl rfl trivial ⟨rfl, rfl, rfl, trivial⟩ rfl ⟨rfl, ⟨rfl, rfl, Fits.refl _⟩, ⟨rfl, rfl, rfl, rfl⟩, trivial⟩
    rintro g _
    refine a_loop hT [0, 5, 6, 23, 24] (fun x : WN => [nscr l, ptrA g 10, ptrA r 20, .v (kI l.length) 0, .v (kI (x.i : Int)) 0]) (fun x => [(10, .ext (netQ g x.N)), (20, refB r x.v x.N.last), (30, rowRf x.v x.N.l)]) (WN.ok l) (fun x => l.length - x.i) ⟨0, ⟨0, []⟩, .slice none 0 0⟩ [10, 20, 30] rfl rfl ⟨Nat.zero_le _, ⟨by decide, by decide, by simp⟩, by decide⟩ ⟨rfl, rfl, rfl, by show Value.int .i64 ((l.map nopD).length : Int) = .int .i64 (l.length : Int); rw [List.length_map], rfl, trivial⟩ rfl ⟨rfl, ⟨rfl, rfl, Fits.refl _⟩, ⟨rfl, rfl, rfl, rfl⟩, trivial⟩ ?_
    rintro ⟨i, N, v⟩ ⟨q1, hN, hla⟩
    dsimp only at q1 hN hla ⊢
    refine a_if hT rfl rfl (fun hi => ?_) (fun hi => ?_)
    · have hi : (i : Int) < l.length := of_decide_eq_true hi
      have hi' : i < l.length := by omega
      have hd : (l.map nopD)[((i : Nat) : Int).toNat]? = some (nopD l[i]) := by simp [hi']
      have hob := hb2 l[i] (List.getElem_mem hi')
      generalize l[i] = o at hd hob
      have hw : IntKind.i64.wrap ((i : Int) + 1) = ((i + 1 : Nat) : Int) := by rw [w64 (by omega) (by omega)]; omega
      obtain ⟨k1, k2⟩ := stepN_ok hN hob
      generalize hN2 : stepN N o = N2 at k1 k2
      have hst : ∀ v, FSpec Try.prog 53 [ptrA g 10, ptrA r 20, nopA o] [.ext (netQ g N), refB r v N.last, rowRf v N.l] fun a cs => ∃ v', a = .v (.bool true) 0 ∧ cs = [.ext (netQ g N2), refB r v' N2.last, rowRf v' N2.l] := fun v => by rw [← hN2]; exact nstepO_spec hN (by omega) hob
      have hq := k1.q
      refine a_treeN hT [0, 5, 6, 23, 24, 55] (fun _ : Value => [nscr l, ptrA g 10, ptrA r 20, .v (kI l.length) 0, .v (kI (i : Int)) 0, .v (.bool false) 0]) (fun v' => [(10, .ext (netQ g N2)), (20, refB r v' N2.last), (30, rowRf v' N2.l)]) (fun _ => True) [10, 20, 30] 29 [(0, false), (1, false), (2, false), (3, false), (4, false), (5, false), (6, true), (7, false), (8, false), (9, false), (11, false), (12, false), (13, false)] rfl rfl (by kernel_rfl) (by kernel_rfl) rfl ?_ ?_
      · refine a_ix hT _ rfl rfl rfl rfl rfl rfl (by first | omega | assumption) (by first | assumption | rfl) ?_
        refine a_call hT rfl rfl rfl (by kernel_rfl) (hst v) [10, 20, 30] [10, 20, 30] rfl rfl ?_
        rintro _ _ ⟨v', rfl, rfl⟩
        refine a_gf hT rfl rfl rfl rfl ?_
        refine a_alt hT [([(10, true), (14, true), (15, true), (16, true), (17, true), (18, true), (19, false), (22, false), (23, false), (24, false)], false), ([(14, true)], false)] rfl rfl (by kernel_rfl) ⟨?_, ?_, trivial⟩
        · refine a_call hT rfl rfl rfl (by kernel_rfl) (nlenQ (g := g) (h := 10)) [10] [10] rfl rfl ?_
          rintro _ _ ⟨N', ⟨rfl, rfl⟩, rfl⟩
          refine a_gf hT rfl rfl rfl (by show ((_ : Int) != _) = false; simp) ?_
          refine a_alt hT [([(20, true)], false), ([(25, true), (20, true), (21, true), (26, true), (27, true), (28, true)], true)] rfl rfl (by kernel_rfl) ⟨?_, ?_, trivial⟩
          · refine a_call hT rfl rfl rfl (by kernel_rfl) (nallQ (g := g) (h := 10) k1) [10] [10] rfl rfl ?_
            rintro _ _ ⟨N', ⟨rfl, rfl⟩, rfl⟩
            refine a_alt hT [([(21, true), (25, true), (26, true), (27, true), (28, true)], true), ([(25, true), (21, true), (26, true), (27, true), (28, true)], true)] rfl rfl (by kernel_rfl) ⟨?_, ?_, trivial⟩
            · refine a_call hT rfl rfl rfl (by kernel_rfl) (packets_spec (by omega)) [] [] rfl rfl ?_
              rintro _ _ ⟨rfl, rfl⟩
              refine a_callZ hT rfl rfl rfl (by kernel_rfl) (samePk_spec (by omega)) [30] [] [] rfl rfl rfl ⟨rfl, rfl, trivial⟩ trivial (by rintro _ _ ⟨rfl, rfl⟩; exact ⟨inferInstance, inferInstance⟩) ?_
              rintro _ _ ⟨rfl, rfl⟩
              exact a_next hT v' [10, 20, 30] rfl rfl trivial ⟨rfl, rfl, rfl, rfl, rfl, rfl, trivial⟩ rfl ⟨rfl, ⟨rfl, rfl, Fits.refl _⟩, ⟨rfl, rfl, rfl, rfl⟩, trivial⟩
            · refine a_call hT rfl rfl rfl (by kernel_rfl) (packets_spec (by omega)) [] [] rfl rfl ?_
              rintro _ _ ⟨rfl, rfl⟩
              refine a_callZ hT rfl rfl rfl (by kernel_rfl) (samePk_spec (by omega)) [30] [] [] rfl rfl rfl ⟨rfl, rfl, trivial⟩ trivial (by rintro _ _ ⟨rfl, rfl⟩; exact ⟨inferInstance, inferInstance⟩) ?_
              rintro _ _ ⟨rfl, rfl⟩
              exact a_next hT v' [10, 20, 30] rfl rfl trivial ⟨rfl, rfl, rfl, rfl, rfl, rfl, trivial⟩ rfl ⟨rfl, ⟨rfl, rfl, Fits.refl _⟩, ⟨rfl, rfl, rfl, rfl⟩, trivial⟩
          · refine a_call hT rfl rfl rfl (by kernel_rfl) (nallQ (g := g) (h := 10) k1) [10] [10] rfl rfl ?_
            rintro _ _ ⟨N', ⟨rfl, rfl⟩, rfl⟩
            refine a_call hT rfl rfl rfl (by kernel_rfl) (packets_spec (by omega)) [] [] rfl rfl ?_
            rintro _ _ ⟨rfl, rfl⟩
            refine a_callZ hT rfl rfl rfl (by kernel_rfl) (samePk_spec (by omega)) [30] [] [] rfl rfl rfl ⟨rfl, rfl, trivial⟩ trivial (by rintro _ _ ⟨rfl, rfl⟩; exact ⟨inferInstance, inferInstance⟩) ?_
            rintro _ _ ⟨rfl, rfl⟩
            exact a_next hT v' [10, 20, 30] rfl rfl trivial ⟨rfl, rfl, rfl, rfl, rfl, rfl, trivial⟩ rfl ⟨rfl, ⟨rfl, rfl, Fits.refl _⟩, ⟨rfl, rfl, rfl, rfl⟩, trivial⟩
        · refine a_alt hT [([(10, true), (15, true), (16, true), (17, true), (18, true), (19, false), (22, false), (23, false), (24, false)], false), ([(15, true), (10, true), (16, true), (17, true), (18, true), (19, false), (22, false), (23, false), (24, false)], false)] rfl rfl (by kernel_rfl) ⟨?_, ?_, trivial⟩
          · refine a_call hT rfl rfl rfl (by kernel_rfl) (nlenQ (g := g) (h := 10)) [10] [10] rfl rfl ?_
            rintro _ _ ⟨N', ⟨rfl, rfl⟩, rfl⟩
            refine a_gf hT rfl rfl rfl (by show ((_ : Int) != _) = false; simp) ?_
            refine a_alt hT [([(20, true)], false), ([(25, true), (20, true), (21, true), (26, true), (27, true), (28, true)], true)] rfl rfl (by kernel_rfl) ⟨?_, ?_, trivial⟩
            · refine a_call hT rfl rfl rfl (by kernel_rfl) (nallQ (g := g) (h := 10) k1) [10] [10] rfl rfl ?_
              rintro _ _ ⟨N', ⟨rfl, rfl⟩, rfl⟩
              refine a_alt hT [([(21, true), (25, true), (26, true), (27, true), (28, true)], true), ([(25, true), (21, true), (26, true), (27, true), (28, true)], true)] rfl rfl (by kernel_rfl) ⟨?_, ?_, trivial⟩
              · refine a_call hT rfl rfl rfl (by kernel_rfl) (packets_spec (by omega)) [] [] rfl rfl ?_
                rintro _ _ ⟨rfl, rfl⟩
                refine a_callZ hT rfl rfl rfl (by kernel_rfl) (samePk_spec (by omega)) [30] [] [] rfl rfl rfl ⟨rfl, rfl, trivial⟩ trivial (by rintro _ _ ⟨rfl, rfl⟩; exact ⟨inferInstance, inferInstance⟩) ?_
                rintro _ _ ⟨rfl, rfl⟩
                exact a_next hT v' [10, 20, 30] rfl rfl trivial ⟨rfl, rfl, rfl, rfl, rfl, rfl, trivial⟩ rfl ⟨rfl, ⟨rfl, rfl, Fits.refl _⟩, ⟨rfl, rfl, rfl, rfl⟩, trivial⟩
              · refine a_call hT rfl rfl rfl (by kernel_rfl) (packets_spec (by omega)) [] [] rfl rfl ?_
                rintro _ _ ⟨rfl, rfl⟩
                refine a_callZ hT rfl rfl rfl (by kernel_rfl) (samePk_spec (by omega)) [30] [] [] rfl rfl rfl ⟨rfl, rfl, trivial⟩ trivial (by rintro _ _ ⟨rfl, rfl⟩; exact ⟨inferInstance, inferInstance⟩) ?_
                rintro _ _ ⟨rfl, rfl⟩
                exact a_next hT v' [10, 20, 30] rfl rfl trivial ⟨rfl, rfl, rfl, rfl, rfl, rfl, trivial⟩ rfl ⟨rfl, ⟨rfl, rfl, Fits.refl _⟩, ⟨rfl, rfl, rfl, rfl⟩, trivial⟩
            · refine a_call hT rfl rfl rfl (by kernel_rfl) (nallQ (g := g) (h := 10) k1) [10] [10] rfl rfl ?_
              rintro _ _ ⟨N', ⟨rfl, rfl⟩, rfl⟩
              refine a_call hT rfl rfl rfl (by kernel_rfl) (packets_spec (by omega)) [] [] rfl rfl ?_
              rintro _ _ ⟨rfl, rfl⟩
              refine a_callZ hT rfl rfl rfl (by kernel_rfl) (samePk_spec (by omega)) [30] [] [] rfl rfl rfl ⟨rfl, rfl, trivial⟩ trivial (by rintro _ _ ⟨rfl, rfl⟩; exact ⟨inferInstance, inferInstance⟩) ?_
              rintro _ _ ⟨rfl, rfl⟩
              exact a_next hT v' [10, 20, 30] rfl rfl trivial ⟨rfl, rfl, rfl, rfl, rfl, rfl, trivial⟩ rfl ⟨rfl, ⟨rfl, rfl, Fits.refl _⟩, ⟨rfl, rfl, rfl, rfl⟩, trivial⟩
          · refine a_call hT rfl rfl rfl (by kernel_rfl) (nlenQ (g := g) (h := 10)) [10] [10] rfl rfl ?_
            rintro _ _ ⟨N', ⟨rfl, rfl⟩, rfl⟩
            refine a_gf hT rfl rfl rfl (by show ((_ : Int) != _) = false; simp) ?_
            refine a_alt hT [([(20, true)], false), ([(25, true), (20, true), (21, true), (26, true), (27, true), (28, true)], true)] rfl rfl (by kernel_rfl) ⟨?_, ?_, trivial⟩
            · refine a_call hT rfl rfl rfl (by kernel_rfl) (nallQ (g := g) (h := 10) k1) [10] [10] rfl rfl ?_
              rintro _ _ ⟨N', ⟨rfl, rfl⟩, rfl⟩
              refine a_alt hT [([(21, true), (25, true), (26, true), (27, true), (28, true)], true), ([(25, true), (21, true), (26, true), (27, true), (28, true)], true)] rfl rfl (by kernel_rfl) ⟨?_, ?_, trivial⟩
              · refine a_call hT rfl rfl rfl (by kernel_rfl) (packets_spec (by omega)) [] [] rfl rfl ?_
                rintro _ _ ⟨rfl, rfl⟩
                refine a_callZ hT rfl rfl rfl (by kernel_rfl) (samePk_spec (by omega)) [30] [] [] rfl rfl rfl ⟨rfl, rfl, trivial⟩ trivial (by rintro _ _ ⟨rfl, rfl⟩; exact ⟨inferInstance, inferInstance⟩) ?_
                rintro _ _ ⟨rfl, rfl⟩
                exact a_next hT v' [10, 20, 30] rfl rfl trivial ⟨rfl, rfl, rfl, rfl, rfl, rfl, trivial⟩ rfl ⟨rfl, ⟨rfl, rfl, Fits.refl _⟩, ⟨rfl, rfl, rfl, rfl⟩, trivial⟩
              · refine a_call hT rfl rfl rfl (by kernel_rfl) (packets_spec (by omega)) [] [] rfl rfl ?_
                rintro _ _ ⟨rfl, rfl⟩
                refine a_callZ hT rfl rfl rfl (by kernel_rfl) (samePk_spec (by omega)) [30] [] [] rfl rfl rfl ⟨rfl, rfl, trivial⟩ trivial (by rintro _ _ ⟨rfl, rfl⟩; exact ⟨inferInstance, inferInstance⟩) ?_
                rintro _ _ ⟨rfl, rfl⟩
                exact a_next hT v' [10, 20, 30] rfl rfl trivial ⟨rfl, rfl, rfl, rfl, rfl, rfl, trivial⟩ rfl ⟨rfl, ⟨rfl, rfl, Fits.refl _⟩, ⟨rfl, rfl, rfl, rfl⟩, trivial⟩
            · refine a_call hT rfl rfl rfl (by kernel_rfl) (nallQ (g := g) (h := 10) k1) [10] [10] rfl rfl ?_
              rintro _ _ ⟨N', ⟨rfl, rfl⟩, rfl⟩
              refine a_call hT rfl rfl rfl (by kernel_rfl) (packets_spec (by omega)) [] [] rfl rfl ?_
              rintro _ _ ⟨rfl, rfl⟩
              refine a_callZ hT rfl rfl rfl (by kernel_rfl) (samePk_spec (by omega)) [30] [] [] rfl rfl rfl ⟨rfl, rfl, trivial⟩ trivial (by rintro _ _ ⟨rfl, rfl⟩; exact ⟨inferInstance, inferInstance⟩) ?_
              rintro _ _ ⟨rfl, rfl⟩
              exact a_next hT v' [10, 20, 30] rfl rfl trivial ⟨rfl, rfl, rfl, rfl, rfl, rfl, trivial⟩ rfl ⟨rfl, ⟨rfl, rfl, Fits.refl _⟩, ⟨rfl, rfl, rfl, rfl⟩, trivial⟩
      · rintro v' _
        refine a_f hT rfl rfl rfl ?_
        exact a_next hT (WN.mk (i + 1) N2 v') [10, 20, 30] rfl rfl ⟨⟨by show i + 1 ≤ l.length; omega, k1, by show N2.last ≤ ((i + 1 : Nat) : Int); omega⟩, by show l.length - (i + 1) < l.length - i; omega⟩ ⟨rfl, rfl, rfl, rfl, by show Value.int .i64 _ = Value.int .i64 _; rw [hw], trivial⟩ rfl ⟨rfl, ⟨rfl, rfl, Fits.refl _⟩, ⟨rfl, rfl, rfl, rfl⟩, trivial⟩
    · have hi : ¬ (i : Int) < l.length := of_decide_eq_false hi
      exact a_ret hT [] rfl rfl rfl rfl rfl rfl rfl
theorem netPlays_walk (W : World) (args : Array Value) (ha : ArgsOk Try.prog W [91, 4] [[.sl [.int .i64, .int .i64, .int .i64, .int .u8, .sl [.int .u8]]], [.bool]] args.toList) : Calls Try.prog 14 args W (LawR W) := by
  obtain ⟨v, v2, rfl, h1, h2⟩ := argv_two ha
  obtain ⟨l, hr, hl, hok⟩ := argA_many h1 (by kernel_rfl) (by simp) nopD (fun o : NOp => o.bytes.length ≤ reachBytes) nop_reads
  obtain ⟨b, rfl⟩ := arg_bool h2 (by kernel_rfl)
  exact law_of (netPlays_spec (h := 0) hl hok) (Reps.cons hr (Reps.cons mk_v Reps.nil))
end Go.Proofs.Ytdconcindpfmcaa
end
