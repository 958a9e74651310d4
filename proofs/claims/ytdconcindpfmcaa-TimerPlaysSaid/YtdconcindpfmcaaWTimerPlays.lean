/- TimerPlays: the walk and what it computes. -/
import Derived.Test.YtdconcindpfmcaaEl
set_option linter.unusedVariables false
set_option linter.unusedSimpArgs false
namespace Go.Proofs.Ytdconcindpfmcaa
open V A
theorem insL_perm : ∀ (l : TS) (p : Int × Int), (insL l p).Perm (p :: l)
  | [], p => List.Perm.refl _
  | q :: l, p => by
    unfold insL
    split
    · exact (List.Perm.cons q (insL_perm l p)).trans (List.Perm.swap p q l)
    · exact List.Perm.refl _
theorem LK.trans {a b c : Int × Int} (h : LK a b) (h2 : LK b c) : LK a c := by unfold LK at *; omega
theorem insL_sorted : ∀ {l : TS} {p : Int × Int}, l.Pairwise LK → (∀ q ∈ l, q.1 ≠ p.1) → (insL l p).Pairwise LK
  | [], p, h, hn => by simp [insL]
  | q :: l, p, h, hn => by
    rw [List.pairwise_cons] at h
    unfold insL
    split
    · rename_i hl
      rw [List.pairwise_cons]
      refine ⟨fun r hr => ?_, insL_sorted h.2 fun r hr => hn r (by simp [hr])⟩
      rcases List.mem_cons.1 ((insL_perm l p).mem_iff.1 hr) with e | hr
      · subst e; exact hl
      · exact h.1 r hr
    · rename_i hl
      have hpq : LK p q := by
        have := hn q (by simp)
        unfold LK at hl ⊢
        omega
      rw [List.pairwise_cons]
      refine ⟨fun r hr => ?_, List.pairwise_cons.2 h⟩
      rcases List.mem_cons.1 hr with e | hr
      · subst e; exact hpq
      · exact hpq.trans (h.1 r hr)
theorem head_min {p : Int × Int} {l : TS} (h : (p :: l).Pairwise LK) : IsMin (p :: l) p := by
  rw [List.pairwise_cons] at h
  refine ⟨by simp, fun r hr => ?_⟩
  rcases List.mem_cons.1 hr with e | hr
  · subst e; unfold LK; omega
  · have := h.1 r hr; unfold LK at this ⊢; omega
structure OkL (L : TS) (n : Nat) : Prop where
  nd : (L.map (·.1)).Nodup
  len : L.length ≤ n
  so : L.Pairwise LK
theorem OkL.filt {L : TS} {n : Nat} (h : OkL L n) (k : Int) : OkL (filt k L) n :=
  ⟨h.nd.sublist ((List.filter_sublist).map _), Nat.le_trans (List.length_filter_le _ _) h.len, h.so.sublist List.filter_sublist⟩
theorem OkL.set {L : TS} {n : Nat} (h : OkL L n) (k d : Int) : OkL (insL (Proofs.Ytdconcindpfmcaa.filt k L) (k, d)) (n + 1) := by
  have hp := insL_perm (Proofs.Ytdconcindpfmcaa.filt k L) (k, d)
  have hne : ∀ q ∈ Proofs.Ytdconcindpfmcaa.filt k L, q.1 ≠ k := fun q hq => by have := (List.mem_filter.1 hq).2; simpa using this
  refine ⟨?_, ?_, insL_sorted (h.filt k).so hne⟩
  · rw [(hp.map _).nodup_iff, List.map_cons, List.nodup_cons]
    exact ⟨fun hm => by obtain ⟨q, hq, e⟩ := List.mem_map.1 hm; exact hne q hq e, (h.filt k).nd⟩
  · rw [hp.length_eq, List.length_cons]; have := (h.filt k).len; omega
theorem OkL.more {L : TS} {n : Nat} (h : OkL L n) : OkL L (n + 1) := ⟨h.nd, Nat.le_succ_of_le h.len, h.so⟩
structure TO where
  kind : Int
  key : Int
  at_ : Int
def TO.d (o : TO) : List A.Dat := [.v (kI o.kind), .v (kU o.key), .v (kI o.at_)]
def toC (o : TO) : List AV := [.d (.v (kI o.kind)), .d (.v (kU o.key)), .d (.v (kI o.at_))]
def toD (l : List TO) : AV := .d (.sl 3 (l.map TO.d))
structure PX where
  i : Nat
  L : TS
theorem tzero_ent (g : Nat) : Ent [.blk g 82 [.v (.slice none 0 0) 0, .v (.map none) 0]] [.ext (tmA g [])] := by
  have e1 : Ent [.blk g 82 [.v (.slice none 0 0) 0, .v (.map none) 0]] [tmBlk g (.slice none 0 0) none] := fun M w U hh => by
    refine holds_one.2 ?_
    obtain ⟨hS, xs, hb, hr, h1⟩ := holds_one.1 hh
    refine ⟨hS, xs, hb, ?_, h1⟩
    unfold Reps at hr
    obtain ⟨x, r, rfl, hx, hr⟩ := hr
    have := rep_v hx
    subst this
    exact Reps.cons (by unfold Rep; exact ⟨rfl, rfl⟩) (Fits.reps (show Fits [.v (.map none) 0] [.v (.map none) 11] from ⟨rfl, trivial⟩) hr)
  have e2 : Ent [] [rowP (.slice none 0 0) []] := fun M w U hh => holds_one.2 (by
    have h := row_nil (M := M) (w := w) 124 1
    exact ⟨fun b => ⟨fun hb => (hh b hb).elim, fun hb => ((h.1 b).2 hb).elim⟩, h.2⟩)
  exact (e1.trans (Ent.cons _ (Ent.app e2 (Ent.app (ent_shut []) (ent_shut []))))).trans (tm_pack (x := ⟨.slice none 0 0, none, [], []⟩) ⟨List.Perm.nil, fun k a b _ hk => absurd hk (by simp), List.Perm.nil, fun _ => rfl⟩)
set_option maxRecDepth 100000 in
theorem timerPlays_spec {l : List TO} {z : Bool} : FSpec Try.prog 12 [toD l, .v (.bool z) 0] [] fun a _ => a = .v (.bool true) 0 := by
  refine a_enter hT [toD l, .v (.bool z) 0] [] Try.func12 rfl rfl rfl (Fits.refl _) fun c => ?_
  refine a_call hT rfl rfl rfl (by kernel_rfl) tawake_spec [] [] rfl rfl ?_
  rintro _ _ ⟨rfl, rfl⟩
  refine a_gf hT rfl rfl rfl rfl ?_
  refine a_if hT rfl rfl (fun hb => ?_) (fun hb => ?_)
  · refine a_call hT rfl rfl rfl (by kernel_rfl) tawake_spec [] [] rfl rfl ?_
    rintro _ _ ⟨rfl, rfl⟩
    exact a_ret hT [] rfl rfl rfl rfl rfl rfl rfl
  have hll : l.length ≤ 200 := by
    have : ¬ (((l.map TO.d).length : Int) > 200) := of_decide_eq_false hb
    rw [List.length_map] at this
    omega
  refine a_call hT rfl rfl rfl (by kernel_rfl) tnew_spec [] [10] rfl rfl ?_
  rintro _ _ ⟨g0, rfl, rfl⟩
  refine a_build hT hZ [.v (.slice none 0 0) 0] rfl rfl rfl rfl rfl rfl ?_
  refine a_box hT 12 rfl rfl rfl rfl fun gw => ?_
  refine a_cutM hT [0, 5, 6] (fun g : Nat => [toD l, ptrA g 10, ptrA gw 12]) (fun g => [(10, .ext (tmA g [])), (12, rBlk gw [])]) (fun _ => True) 4 rfl rfl ?_ ?_
  · refine a_if hT rfl rfl (fun hz => ?_) (fun hz => ?_)
    · refine a_build hT hZ [.v (.slice none 0 0) 0, .v (.map none) 0] rfl rfl rfl rfl rfl rfl ?_
      refine a_box hT 13 rfl rfl rfl rfl fun g => ?_
      exact a_nextE hT g [13, 12] rfl rfl trivial ⟨rfl, rfl, rfl, trivial⟩ rfl (Ent.app (tzero_ent g) (Ent.fits ⟨⟨rfl, rfl, ⟨rfl, rfl⟩, trivial⟩, trivial⟩))
    · exact a_next hT g0 [10, 12] rfl rfl trivial ⟨rfl, rfl, rfl, trivial⟩ rfl ⟨rfl, ⟨rfl, rfl, ⟨rfl, rfl⟩, trivial⟩, trivial⟩
  rintro g _
  refine a_loop hT [0, 5, 6, 34, 35] (fun x : PX => [toD l, ptrA g 10, ptrA gw 12, nA l.length, nA x.i]) (fun x => [(10, .ext (tmA g x.L)), (12, rBlk gw x.L)]) (fun x => x.i ≤ l.length ∧ OkL x.L x.i) (fun x => l.length - x.i) ⟨0, []⟩ [10, 12] rfl rfl ⟨by simp, by simp, by simp, by simp⟩
    ⟨rfl, rfl, rfl, by show Value.int .i64 (((l.map TO.d).length : Int)) = .int .i64 (l.length : Int); rw [List.length_map], rfl, trivial⟩ rfl ⟨rfl, ⟨rfl, rfl, rfl, trivial⟩, trivial⟩ ?_
  rintro ⟨i, L⟩ ⟨hi, hok⟩
  have hi : i ≤ l.length := hi
  have hok : OkL L i := hok
  refine a_if hT rfl rfl (fun hb => ?_) (fun hb => ?_)
  rotate_left
  · exact a_ret hT [] rfl rfl rfl rfl rfl rfl rfl
  have hi' : i < l.length := by
    have : (i : Int) < (l.length : Int) := of_decide_eq_true hb
    omega
  have e1 : (l.map TO.d)[((i : Nat) : Int).toNat]? = some (TO.d l[i]) := by simp [hi']
  have hlL : L.length < 999998 := by have := hok.len; omega
  generalize l[i] = o at e1
  refine a_ix hT (TO.d o) rfl rfl rfl rfl rfl rfl (by omega) e1 ?_
  refine a_new hT hZ 22 rfl rfl rfl rfl fun g8 => ?_
  refine a_cutM hT [0, 5, 6, 8, 34, 35] (fun _ : TS => [toD l, ptrA g 10, ptrA gw 12, .v (.pointer (some ⟨g8, 0, none⟩)) 22, nA l.length, nA i]) (fun L => [(10, .ext (tmA g L)), (12, rBlk gw L), (22, .blk g8 84 (toC o))]) (fun L => OkL L (i + 1)) 3 rfl rfl ?_ ?_
  · refine a_if hT rfl rfl (fun hk1 => ?_) (fun hk1 => ?_)
    · refine a_callF hT rfl rfl rfl (by kernel_rfl) (tset_spec (g := g) (h := 10) (h1 := 0) (h2 := 0) (S := L) (k := o.key) (d := o.at_) hok.nd (by omega)) [10] [10] ⟨rfl, rfl, rfl, trivial⟩ rfl ⟨rfl, trivial⟩ ?_
      rintro _ _ ⟨_, rfl, rfl⟩
      refine a_callF hT rfl rfl rfl (by kernel_rfl) (rset_spec (g := gw) (h := 12) (h1 := 0) (h2 := 0) (L := L) (k := o.key) (d := o.at_) hok.nd hlL) [12] [12] ⟨rfl, rfl, rfl, trivial⟩ rfl ⟨⟨rfl, rfl, rfl, trivial⟩, trivial⟩ ?_
      rintro _ _ rfl
      refine a_nextE hT (insL (filt o.key L) (o.key, o.at_)) [10, 12, 22] rfl rfl (hok.set _ _) ⟨rfl, rfl, rfl, rfl, rfl, rfl, trivial⟩ rfl (Ent.app (tm_perm (insL_perm (filt o.key L) (o.key, o.at_)).symm) (Ent.fits (b := [rBlk gw (insL (filt o.key L) (o.key, o.at_)), .blk g8 84 (toC o)]) ⟨⟨rfl, rfl, rfl, trivial⟩, ⟨rfl, rfl, rfl, rfl, rfl, trivial⟩, trivial⟩))
    · refine a_if hT rfl rfl (fun hk2 => ?_) (fun hk2 => ?_)
      · refine a_draw hT [10, 12] false [(0, false), (1, false), (4, false), (5, false), (2, false), (6, false), (3, true), (7, true), (8, false)] rfl rfl (by kernel_rfl) (by kernel_rfl) rfl ?_
        refine a_callF hT rfl rfl rfl (by kernel_rfl) (tstop_spec (g := g) (h := 10) (h1 := 0) (S := L) (k := o.key) hok.nd (by omega)) [10] [10] ⟨rfl, rfl, trivial⟩ rfl ⟨rfl, trivial⟩ ?_
        rintro _ _ ⟨_, ⟨rfl, rfl⟩, rfl⟩
        refine a_callF hT rfl rfl rfl (by kernel_rfl) (rstop_spec (g := gw) (h := 12) (h1 := 0) (L := L) (k := o.key) hok.nd (by omega)) [12] [12] ⟨rfl, rfl, trivial⟩ rfl ⟨⟨rfl, rfl, rfl, trivial⟩, trivial⟩ ?_
        rintro _ _ ⟨rfl, rfl⟩
        refine a_f hT rfl rfl (by simp) ?_
        exact a_next hT (filt o.key L) [10, 12, 22] rfl rfl (hok.filt o.key).more ⟨rfl, rfl, rfl, rfl, rfl, rfl, trivial⟩ rfl ⟨rfl, ⟨rfl, rfl, rfl, trivial⟩, ⟨rfl, rfl, rfl, rfl, rfl, trivial⟩, trivial⟩
      · refine a_if hT rfl rfl (fun hk3 => ?_) (fun hk3 => ?_)
        · refine a_callF hT rfl rfl rfl (by kernel_rfl) (tnext_spec (g := g) (h := 10) (h1 := 0) (S := L) (now := o.at_) hok.nd (by omega)) [10] [10] ⟨rfl, rfl, trivial⟩ rfl ⟨rfl, trivial⟩ ?_
          rintro _ _ ⟨S', hS, rfl⟩
          have hmin : ∀ p, L[0]? = some p → IsMin L p := fun p hp => by
            cases L with
            | nil => simp at hp
            | cons q L => simp at hp; subst hp; exact head_min hok.so
          rcases hS with ⟨hs, he, rfl⟩ | ⟨p, hp, hpn, rfl, rfl⟩
          · have he := he.symm
            subst he
            refine a_callF hT rfl rfl rfl (by kernel_rfl) (rnext_spec (g := gw) (h := 12) (h1 := 0) (L := L) (now := o.at_) hok.nd (by omega)) [12] [12] ⟨rfl, rfl, trivial⟩ rfl ⟨⟨rfl, rfl, rfl, trivial⟩, trivial⟩ ?_
            rintro _ _ ⟨L', hL, rfl⟩
            rcases hL with ⟨_, he, rfl⟩ | ⟨q, hq, hqn, rfl, rfl⟩
            · have he := he.symm
              subst he
              refine a_gf hT rfl rfl rfl (by simp) ?_
              refine a_f hT rfl rfl (by simp) ?_
              exact a_next hT _ [10, 12, 22] rfl rfl hok.more ⟨rfl, rfl, rfl, rfl, rfl, rfl, trivial⟩ rfl ⟨rfl, ⟨rfl, rfl, rfl, trivial⟩, ⟨rfl, rfl, rfl, rfl, rfl, trivial⟩, trivial⟩
            · exfalso
              have hm := hmin q hq
              rcases hs with h | ⟨p, hp, hpn⟩
              · subst h; simp at hq
              · cases hm.eq hp; omega
          · refine a_callF hT rfl rfl rfl (by kernel_rfl) (rnext_spec (g := gw) (h := 12) (h1 := 0) (L := L) (now := o.at_) hok.nd (by omega)) [12] [12] ⟨rfl, rfl, trivial⟩ rfl ⟨⟨rfl, rfl, rfl, trivial⟩, trivial⟩ ?_
            rintro _ _ ⟨L', hL, rfl⟩
            rcases hL with ⟨hl0, _⟩ | ⟨q, hq, hqn, rfl, rfl⟩
            · exfalso
              rcases hl0 with h | ⟨q, hq, hqn⟩
              · have := hp.m; rw [h] at this; simp at this
              · cases (hmin q hq).eq hp; omega
            · cases (hmin q hq).eq hp
              refine a_gf hT rfl rfl rfl (by simp) ?_
              refine a_f hT rfl rfl (by simp) ?_
              exact a_next hT (filt p.1 L) [10, 12, 22] rfl rfl (hok.filt p.1).more ⟨rfl, rfl, rfl, rfl, rfl, rfl, trivial⟩ rfl ⟨rfl, ⟨rfl, rfl, rfl, trivial⟩, ⟨rfl, rfl, rfl, rfl, rfl, trivial⟩, trivial⟩
        · exact a_next hT L [10, 12, 22] rfl rfl hok.more ⟨rfl, rfl, rfl, rfl, rfl, rfl, trivial⟩ rfl ⟨rfl, ⟨rfl, rfl, rfl, trivial⟩, ⟨rfl, rfl, rfl, rfl, rfl, trivial⟩, trivial⟩
  · rintro L2 hok2
    have hnx : IntKind.i64.wrap ((i : Int) + 1) = ((i + 1 : Nat) : Int) := by rw [wrap64 (by omega) (by omega)]; rfl
    have hl2 : L2.length < 999998 := by have := hok2.len; omega
    refine a_callF hT rfl rfl rfl (by kernel_rfl) (tdue_spec (g := g) (h := 10) (h1 := 0) (S := L2) (k := o.key) hok2.nd) [10] [10] ⟨rfl, rfl, trivial⟩ rfl ⟨rfl, trivial⟩ ?_
    rintro _ _ ⟨L3, ⟨rfl, he⟩, rfl⟩
    have he := he.symm
    subst he
    refine a_callF hT rfl rfl rfl (by kernel_rfl) (rdue_spec (g := gw) (h := 12) (h1 := 0) (L := L2) (k := o.key) hok2.nd (by omega)) [12] [12] ⟨rfl, rfl, trivial⟩ rfl ⟨⟨rfl, rfl, rfl, trivial⟩, trivial⟩ ?_
    rintro _ _ ⟨rfl, rfl⟩
    refine a_callF hT rfl rfl rfl (by kernel_rfl) (tfirst_spec (g := g) (h := 10) (S := L2)) [10] [10] ⟨rfl, trivial⟩ rfl ⟨rfl, trivial⟩ ?_
    rintro _ _ ⟨L3, ⟨hf, he⟩, rfl⟩
    have he := he.symm
    subst he
    have hlen : ((L2.map tD).length : Int) = (L2.length : Int) := by rw [List.length_map]
    rcases hf with ⟨hL, rfl⟩ | ⟨p, hp, rfl⟩
    · subst hL
      refine a_draw hT [10] false [(0, false), (1, false), (2, false), (3, false), (4, false), (5, false), (6, false), (7, false), (8, false), (9, false), (11, false), (12, false), (13, false), (14, false), (15, false), (10, true), (16, false), (17, false), (18, false), (19, false), (20, false), (21, false), (22, false), (23, true), (24, true), (25, false), (26, false), (27, false), (28, false), (29, false), (30, false), (31, false), (32, false), (33, false), (34, false), (35, true), (36, false), (37, false), (38, true), (39, false), (40, false), (41, false), (42, false), (43, false), (44, false), (45, false), (46, false), (47, false), (48, false), (49, false)] rfl rfl (by kernel_rfl) (by kernel_rfl) rfl ?_
      refine a_gf hT rfl rfl rfl (by simp) ?_
      refine a_gf hT rfl rfl rfl (by simp) ?_
      refine a_callF hT rfl rfl rfl (by kernel_rfl) (tlen_spec (g := g) (h := 10) (S := [])) [10] [10] ⟨rfl, trivial⟩ rfl ⟨rfl, trivial⟩ ?_
      rintro _ _ ⟨_, ⟨rfl, rfl⟩, rfl⟩
      refine a_gf hT rfl rfl rfl (by rfl) ?_
      refine a_gf hT rfl rfl rfl (by rfl) ?_
      refine a_gf hT rfl rfl rfl rfl ?_
      refine a_gf hT rfl rfl rfl (by rfl) ?_
      refine a_gt hT rfl rfl rfl (by rfl) ?_
      refine a_f hT rfl rfl (by rfl) ?_
      exact a_next hT (PX.mk (i + 1) []) [10, 12] rfl rfl ⟨⟨by show i + 1 ≤ l.length; omega, hok2⟩, by show l.length - (i + 1) < l.length - i; omega⟩ ⟨rfl, rfl, rfl, rfl, by show Value.int .i64 (IntKind.i64.wrap ((i : Int) + 1)) = .int .i64 ((i + 1 : Nat) : Int); rw [hnx], trivial⟩ rfl ⟨rfl, ⟨rfl, rfl, rfl, trivial⟩, trivial⟩
    · cases L2 with
      | nil => exact absurd hp.m (by simp)
      | cons q L4 =>
        cases (head_min hok2.so).eq hp
        have e2 : ((p :: L4).map tD)[((0 : Int)).toNat]? = some (tD p) := rfl
        refine a_draw hT [10] false [(0, false), (1, false), (2, false), (3, false), (4, false), (5, false), (6, false), (7, false), (8, false), (9, false), (11, false), (12, false), (13, false), (14, false), (15, false), (10, true), (16, false), (17, false), (18, false), (19, false), (20, false), (21, false), (22, false), (23, true), (24, true), (25, false), (26, false), (27, false), (28, false), (29, false), (30, false), (31, false), (32, false), (33, false), (34, false), (35, true), (36, false), (37, false), (38, true), (39, false), (40, false), (41, false), (42, false), (43, false), (44, false), (45, false), (46, false), (47, false), (48, false), (49, false)] rfl rfl (by kernel_rfl) (by kernel_rfl) rfl ?_
        refine a_gf hT rfl rfl rfl (by simp) ?_
        refine a_gf hT rfl rfl rfl (by simp) ?_
        refine a_callF hT rfl rfl rfl (by kernel_rfl) (tlen_spec (g := g) (h := 10) (S := p :: L4)) [10] [10] ⟨rfl, trivial⟩ rfl ⟨rfl, trivial⟩ ?_
        rintro _ _ ⟨L3, ⟨rfl, he⟩, rfl⟩
        subst he
        refine a_gf hT rfl rfl rfl (by show (!(((p :: L4).length : Int) == (((p :: L4).map tD).length : Int))) = false; simp) ?_
        refine a_gf hT rfl rfl rfl (by show (!(true == decide ((((p :: L4).map tD).length : Int) > 0))) = false; simp) ?_
        refine a_gt hT rfl rfl rfl rfl ?_
        refine a_ix hT (tD p) rfl rfl rfl rfl rfl rfl (by decide) e2 ?_
        refine a_gf hT rfl rfl rfl (by simp) ?_
        refine a_gf hT rfl rfl rfl (by rfl) ?_
        refine a_f hT rfl rfl (by rfl) ?_
        exact a_next hT (PX.mk (i + 1) (p :: L4)) [10, 12] rfl rfl ⟨⟨by show i + 1 ≤ l.length; omega, hok2⟩, by show l.length - (i + 1) < l.length - i; omega⟩ ⟨rfl, rfl, rfl, rfl, by show Value.int .i64 (IntKind.i64.wrap ((i : Int) + 1)) = .int .i64 ((i + 1 : Nat) : Int); rw [hnx], trivial⟩ rfl ⟨rfl, ⟨rfl, rfl, rfl, trivial⟩, trivial⟩
theorem timerPlays_walk (W : World) (args : Array Value) (ha : ArgsOk Try.prog W [73, 4] [[.sl [.int .i64, .int .u64, .int .i64]], [.bool]] args.toList) : Calls Try.prog 12 args W (LawR W) := by
  obtain ⟨v, v2, rfl, h1, h2⟩ := argv_two ha
  obtain ⟨l, hr, _, _⟩ := argA_many h1 (by kernel_rfl) (by simp) TO.d (fun _ => True) fun ds hd => by
    obtain ⟨d1, r, rfl, h1, h⟩ := hd.cons
    obtain ⟨d2, r, rfl, h2, h⟩ := h.cons
    obtain ⟨d3, r, rfl, h3, h⟩ := h.cons
    cases h.nil
    obtain ⟨k, rfl, _⟩ := h1.i64
    obtain ⟨m, rfl, _⟩ := h2.u64
    obtain ⟨d, rfl, _⟩ := h3.i64
    exact ⟨⟨k, m, d⟩, rfl, ⟨trivial, trivial, trivial, trivial⟩, trivial⟩
  obtain ⟨b, rfl⟩ := arg_bool h2 (by kernel_rfl)
  exact law_of (timerPlays_spec (l := l) (z := b)) (Reps.cons hr (Reps.cons mk_v Reps.nil))
end Go.Proofs.Ytdconcindpfmcaa
