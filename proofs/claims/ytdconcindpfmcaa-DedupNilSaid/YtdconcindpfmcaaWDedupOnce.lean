/- DedupOnce: the walk and what it computes. -/
import Derived.Test.YtdconcindpfmcaaDg
import Derived.Test.YtdconcindpfmcaaK
set_option linter.unusedVariables false
set_option linter.unusedSimpArgs false
namespace Go.Proofs.Ytdconcindpfmcaa
open V A
structure SOp.ok (o : SOp) : Prop where
  t1 : 0 ≤ o.token
  t2 : o.token < 18446744073709551616
  f1 : 0 ≤ o.floor
  by_ : o.bytes.length ≤ reachBytes
structure WX where
  i : Nat
  T : PT
  ps : List (Int × Int)
  v4 : Value
  v5 : Value
def rowI (v : Value) (ps : List (Int × Int)) : Chunk := .row v 3 1 (ps.map fun p => [.v (kI p.1)])
def rowU (v : Value) (ps : List (Int × Int)) : Chunk := .row v 43 1 (ps.map fun p => [.v (kU p.2)])
def opCells (o : SOp) : List AV := [.d (.v (kI o.kind)), .d (.v (kI o.client)), .d (.v (kI o.status)), .d (.v (kU o.token)), .d (.v (kU o.floor)), .d (A.bytesD o.bytes)]
theorem elI : elemOk Try.prog 3 1 = true := by kernel_rfl
theorem elU : elemOk Try.prog 43 1 = true := by kernel_rfl
set_option maxRecDepth 100000 in
theorem dedupOnce_spec {l : List SOp} (hl : l.length ≤ reachBytes) (hok : ∀ o ∈ l, o.ok) : FSpec Try.prog 10 [scrD l] [] fun a _ => a = .v (.bool true) 0 := by
  refine a_enter hT [scrD l] [] Try.func10 rfl rfl rfl ⟨rfl, trivial⟩ fun c => ?_
  refine a_call hT rfl rfl rfl (by kernel_rfl) awake_spec [] [] rfl rfl ?_
  rintro _ _ ⟨rfl, rfl⟩
  refine a_gf hT rfl rfl rfl rfl ?_
  refine a_call hT rfl rfl rfl (by kernel_rfl) (few_spec hl fun o ho => (hok o ho).by_) [] [] rfl rfl ?_
  rintro _ _ ⟨b, hb, rfl, rfl⟩
  cases b with
  | false =>
    refine a_t hT rfl rfl rfl ?_
    refine a_call hT rfl rfl rfl (by kernel_rfl) awake_spec [] [] rfl rfl ?_
    rintro _ _ ⟨rfl, rfl⟩
    exact a_ret hT [] rfl rfl rfl rfl rfl rfl rfl
  | true =>
    obtain ⟨hl3, hb2⟩ := hb rfl
    refine a_f hT rfl rfl rfl ?_
    refine a_call hT rfl rfl rfl (by kernel_rfl) new_spec [] [10] rfl rfl ?_
    rintro _ _ ⟨g, rfl, rfl⟩
    refine a_run hT 11 rfl rfl ?_
    refine a_nilrow 4 30 3 1 rfl rfl ?_
    refine a_nilrow 5 31 43 1 rfl rfl ?_
    refine a_loop hT [0, 3, 4, 5, 19, 20] (fun x : WX => [scrD l, ptrA g 10, .row x.v4 30, .row x.v5 31, nI l.length, nI x.i]) (fun x => [(10, .ext (tabA g x.T)), (30, rowI x.v4 x.ps), (31, rowU x.v5 x.ps)])
      (fun x => x.i ≤ l.length ∧ wfT x.T ∧ x.ps.length ≤ x.i ∧ ∀ p ∈ x.ps, goneT x.T p.1 p.2) (fun x => l.length - x.i) ⟨0, [], [], .slice none 0 0, .slice none 0 0⟩ [10, 30, 31] rfl rfl ⟨by simp, wfT.nil, by simp, by simp⟩
      ⟨rfl, rfl, rfl, rfl, ?_, rfl, trivial⟩ rfl ⟨rfl, ⟨rfl, rfl, rfl, rfl⟩, ⟨rfl, rfl, rfl, rfl⟩, trivial⟩ ?_
    · show Value.int .i64 ((l.map SOp.d).length : Int) = .int .i64 (l.length : Int)
      rw [List.length_map]
    rintro ⟨i, T, ps, v4, v5⟩ ⟨h1, hw, h3, h4⟩
    have h1 : i ≤ l.length := h1
    have hw : wfT T := hw
    have h3 : ps.length ≤ i := h3
    have h4 : ∀ p ∈ ps, goneT T p.1 p.2 := h4
    refine a_if hT rfl rfl (fun hi => ?_) (fun hi => ?_)
    rotate_left
    · exact a_ret hT [] rfl rfl rfl rfl rfl rfl rfl
    have hi' : i < l.length := by
      have : (i : Int) < l.length := of_decide_eq_true hi
      omega
    have hd : (l.map SOp.d)[((i : Nat) : Int).toNat]? = some (SOp.d l[i]) := by simp [hi']
    have ho := hok l[i] (List.getElem_mem hi')
    have hob := hb2 l[i] (List.getElem_mem hi')
    generalize l[i] = o at hd ho hob
    have hnx : IntKind.i64.wrap ((i : Int) + 1) = ((i + 1 : Nat) : Int) := by rw [wrap64 (by omega) (by omega)]; rfl
    refine a_ix hT (SOp.d o) rfl rfl rfl rfl rfl rfl (by omega) hd ?_
    refine a_new hT hZ 22 rfl rfl rfl rfl fun g7 => ?_
    refine a_if hT rfl rfl (fun hk1 => ?_) (fun hk1 => ?_)
    · refine a_callF hT rfl rfl rfl (by kernel_rfl) (Offer_spec (g := g) (h := 10) (h1 := 0) (h2 := 0) (h3 := 0) (num := o.client) (tok := o.token) (fl := o.floor) hw ho.t1 ho.t2 ho.f1) [10] [10, 21] ⟨rfl, rfl, rfl, rfl, trivial⟩ rfl ⟨rfl, trivial⟩ ?_
      have hw1 : wfT (offerP T o.client o.token o.floor fr0).1 := offer_wf hw _ _ _ (by simp [fr0])
      rw [show (⟨false, 0, []⟩ : DE) = fr0 from rfl]
      rintro _ _ (⟨hk, rfl, rfl⟩ | ⟨hk, x, rfl, rfl⟩)
      · refine a_if hT rfl rfl (fun hn => ?_) (fun hn => ?_)
        · refine a_next hT (WX.mk (i + 1) (offerP T o.client o.token o.floor fr0).1 ps v4 v5) [10, 30, 31] rfl rfl ⟨⟨by show i + 1 ≤ l.length; omega, hw1, by show ps.length ≤ i + 1; omega, fun p hp => gone_offer _ _ _ _ (h4 p hp)⟩, by show l.length - (i + 1) < l.length - i; omega⟩ ⟨rfl, rfl, rfl, rfl, rfl, by show Value.int .i64 (IntKind.i64.wrap ((i : Int) + 1)) = .int .i64 ((i + 1 : Nat) : Int); rw [hnx], trivial⟩ rfl ⟨rfl, ⟨rfl, rfl, rfl, rfl⟩, ⟨rfl, rfl, rfl, rfl⟩, trivial⟩
        · have hk1' : (offerP T o.client o.token o.floor fr0).2.kind = 1 := by simpa using hn
          have hnew := offer_new hk1'
          generalize hT1 : (offerP T o.client o.token o.floor fr0).1 = T1 at hw1 hnew
          have hg1 : ∀ p ∈ ps, goneT T1 p.1 p.2 := fun p hp => by rw [← hT1]; exact gone_offer _ _ _ _ (h4 p hp)
          refine a_loop hT [0, 3, 4, 5, 7, 19, 20, 42, 43] (fun k : Nat => [scrD l, ptrA g 10, .row v4 30, .row v5 31, .v (.pointer (some ⟨g7, 0, none⟩)) 22, nI l.length, nI i, nI ps.length, nI k]) (fun _ => [(10, .ext (tabA g T1)), (30, rowI v4 ps), (31, rowU v5 ps), (22, .blk g7 61 (opCells o))])
            (fun k => k ≤ ps.length) (fun k => ps.length - k) 0 [10, 30, 31, 22] rfl rfl (by omega) ⟨rfl, rfl, rfl, rfl, rfl, rfl, rfl, ?_, rfl, trivial⟩ rfl ⟨rfl, ⟨rfl, rfl, rfl, rfl⟩, ⟨rfl, rfl, rfl, rfl⟩, ⟨rfl, rfl, rfl, rfl, rfl, rfl, rfl, rfl, trivial⟩, trivial⟩ ?_
          · show Value.int .i64 ((ps.map fun p => [A.Dat.v (kI p.1)]).length : Int) = .int .i64 (ps.length : Int)
            rw [List.length_map]
          intro k hk
          refine a_rowfact 30 rfl rfl fun hf4 => ?_
          refine a_rowfact 31 rfl rfl fun hf5 => ?_
          refine a_if hT rfl rfl (fun hkl => ?_) (fun hkl => ?_)
          · have hkl' : k < ps.length := by
              have : (k : Int) < (ps.length : Int) := of_decide_eq_true hkl
              omega
            have hkx : IntKind.i64.wrap ((k : Int) + 1) = ((k + 1 : Nat) : Int) := by rw [wrap64 (by omega) (by omega)]; rfl
            rcases hf4 with ⟨_, h⟩ | ⟨g4, cap4, rfl⟩
            · simp at h; subst h; simp at hkl'
            rcases hf5 with ⟨_, h⟩ | ⟨g5, cap5, rfl⟩
            · simp at h; subst h; simp at hkl'
            have e4 : (ps.map fun p => [A.Dat.v (kI p.1)])[k]? = some [.v (kI ps[k].1)] := by simp [hkl']
            have e5 : (ps.map fun p => [A.Dat.v (kU p.2)])[k]? = some [.v (kU ps[k].2)] := by simp [hkl']
            have hgk := hg1 ps[k] (List.getElem_mem hkl')
            have hgk0 := h4 ps[k] (List.getElem_mem hkl')
            refine a_draw hT [] false [(0, false), (1, false), (4, false), (2, false), (5, false), (3, false), (6, false), (7, false), (8, false), (9, false), (12, false), (10, false), (13, false), (11, false), (14, false), (15, false)] rfl rfl (by kernel_rfl) (by kernel_rfl) rfl ?_
            refine a_rix hT k rfl rfl rfl rfl rfl rfl rfl (by simpa using hkl') ?_
            refine a_rldP hT k 0 [.v (kI ps[k].1)] (.d (.v (kI ps[k].1))) rfl rfl rfl rfl rfl rfl (by omega) e4 rfl ?_
            refine a_g hT rfl rfl rfl (fun hc => ?_) (fun hc => ?_)
            · refine a_rix hT k rfl rfl rfl rfl rfl rfl rfl (by simpa using hkl') ?_
              refine a_rldP hT k 0 [.v (kU ps[k].2)] (.d (.v (kU ps[k].2))) rfl rfl rfl rfl rfl rfl (by omega) e5 rfl ?_
              refine a_if hT rfl rfl (fun ht => ?_) (fun ht => ?_)
              · exfalso
                have hc' : ps[k].1 = o.client := by simpa using hc
                have ht' : ps[k].2 = o.token := by simpa using ht
                rw [hc', ht'] at hgk0
                exact hnew.1 hgk0
              · refine a_next hT (k + 1) [10, 30, 31, 22] rfl rfl ⟨by omega, by show ps.length - (k + 1) < ps.length - k; omega⟩ ⟨rfl, rfl, rfl, rfl, rfl, rfl, rfl, rfl, by show Value.int .i64 (IntKind.i64.wrap ((k : Int) + 1)) = .int .i64 ((k + 1 : Nat) : Int); rw [hkx], trivial⟩ rfl ⟨rfl, ⟨rfl, rfl, rfl, rfl⟩, ⟨rfl, rfl, rfl, rfl⟩, ⟨rfl, rfl, rfl, rfl, rfl, rfl, rfl, rfl, trivial⟩, trivial⟩
            · refine a_f hT rfl rfl rfl ?_
              refine a_next hT (k + 1) [10, 30, 31, 22] rfl rfl ⟨by omega, by show ps.length - (k + 1) < ps.length - k; omega⟩ ⟨rfl, rfl, rfl, rfl, rfl, rfl, rfl, rfl, by show Value.int .i64 (IntKind.i64.wrap ((k : Int) + 1)) = .int .i64 ((k + 1 : Nat) : Int); rw [hkx], trivial⟩ rfl ⟨rfl, ⟨rfl, rfl, rfl, rfl⟩, ⟨rfl, rfl, rfl, rfl⟩, ⟨rfl, rfl, rfl, rfl, rfl, rfl, rfl, rfl, trivial⟩, trivial⟩
          · refine a_treeN hT [0, 3, 4, 5, 19, 20] (fun x : Value × Value => [scrD l, ptrA g 10, .row x.1 30, .row x.2 31, nI l.length, nI i]) (fun x => [(10, .ext (tabA g T1)), (30, rowI x.1 (ps ++ [(o.client, o.token)])), (31, rowU x.2 (ps ++ [(o.client, o.token)]))]) (fun _ => True) [30, 31] 12
              [(0, false), (1, false), (5, false), (6, false), (2, false), (7, false)] rfl rfl (by kernel_rfl) (by kernel_rfl) rfl ?_ ?_
            · refine a_alt hT [([(3, true)], false), ([(8, true), (3, true), (4, true), (9, true), (10, false), (11, false)], true)] rfl rfl (by kernel_rfl) ⟨?_, ?_, trivial⟩
              · refine a_lit hT 40 rfl rfl rfl rfl elI rfl rfl rfl rfl fun y4 => ?_
                refine a_alt hT [([(4, true), (8, true), (9, true), (10, false), (11, false)], true), ([(8, true), (4, true), (9, true), (10, false), (11, false)], true)] rfl rfl (by kernel_rfl) ⟨?_, ?_, trivial⟩
                · refine a_app hT 30 (((ps ++ [(o.client, o.token)]).map fun p => [A.Dat.v (kI p.1)])) rfl rfl rfl rfl elI rfl rfl rfl rfl rfl (by simp) (by simp; unfold lim; omega) fun w4 => ?_
                  refine a_lit hT 41 rfl rfl rfl rfl elU rfl rfl rfl rfl fun y5 => ?_
                  refine a_app hT 31 (((ps ++ [(o.client, o.token)]).map fun p => [A.Dat.v (kU p.2)])) rfl rfl rfl rfl elU rfl rfl rfl rfl rfl (by simp) (by simp; unfold lim; omega) fun w5 => ?_
                  refine a_next hT (w4, w5) [10, 30, 31] rfl rfl trivial ⟨rfl, rfl, rfl, rfl, rfl, rfl, trivial⟩ rfl ⟨rfl, ⟨rfl, rfl, rfl, rfl⟩, ⟨rfl, rfl, rfl, rfl⟩, trivial⟩
                · refine a_lit hT 41 rfl rfl rfl rfl elU rfl rfl rfl rfl fun y5 => ?_
                  refine a_app hT 30 (((ps ++ [(o.client, o.token)]).map fun p => [A.Dat.v (kI p.1)])) rfl rfl rfl rfl elI rfl rfl rfl rfl rfl (by simp) (by simp; unfold lim; omega) fun w4 => ?_
                  refine a_app hT 31 (((ps ++ [(o.client, o.token)]).map fun p => [A.Dat.v (kU p.2)])) rfl rfl rfl rfl elU rfl rfl rfl rfl rfl (by simp) (by simp; unfold lim; omega) fun w5 => ?_
                  refine a_next hT (w4, w5) [10, 30, 31] rfl rfl trivial ⟨rfl, rfl, rfl, rfl, rfl, rfl, trivial⟩ rfl ⟨rfl, ⟨rfl, rfl, rfl, rfl⟩, ⟨rfl, rfl, rfl, rfl⟩, trivial⟩
              · refine a_lit hT 41 rfl rfl rfl rfl elU rfl rfl rfl rfl fun y5 => ?_
                refine a_lit hT 40 rfl rfl rfl rfl elI rfl rfl rfl rfl fun y4 => ?_
                refine a_app hT 30 (((ps ++ [(o.client, o.token)]).map fun p => [A.Dat.v (kI p.1)])) rfl rfl rfl rfl elI rfl rfl rfl rfl rfl (by simp) (by simp; unfold lim; omega) fun w4 => ?_
                refine a_app hT 31 (((ps ++ [(o.client, o.token)]).map fun p => [A.Dat.v (kU p.2)])) rfl rfl rfl rfl elU rfl rfl rfl rfl rfl (by simp) (by simp; unfold lim; omega) fun w5 => ?_
                refine a_next hT (w4, w5) [10, 30, 31] rfl rfl trivial ⟨rfl, rfl, rfl, rfl, rfl, rfl, trivial⟩ rfl ⟨rfl, ⟨rfl, rfl, rfl, rfl⟩, ⟨rfl, rfl, rfl, rfl⟩, trivial⟩
            · rintro ⟨w4, w5⟩ _
              refine a_next hT (WX.mk (i + 1) T1 (ps ++ [(o.client, o.token)]) w4 w5) [10, 30, 31] rfl rfl ⟨⟨by show i + 1 ≤ l.length; omega, hw1, by show (ps ++ [(o.client, o.token)]).length ≤ i + 1; simp; omega, fun p hp => ?_⟩, by show l.length - (i + 1) < l.length - i; omega⟩ ⟨rfl, rfl, rfl, rfl, rfl, by show Value.int .i64 (IntKind.i64.wrap ((i : Int) + 1)) = .int .i64 ((i + 1 : Nat) : Int); rw [hnx], trivial⟩ rfl ⟨rfl, ⟨rfl, rfl, rfl, rfl⟩, ⟨rfl, rfl, rfl, rfl⟩, trivial⟩
              rcases List.mem_append.1 hp with hp | hp
              · exact hg1 p hp
              · simp at hp; subst hp; exact hnew.2
      · refine a_t hT rfl rfl rfl ?_
        refine a_next hT (WX.mk (i + 1) (offerP T o.client o.token o.floor fr0).1 ps v4 v5) [10, 30, 31] rfl rfl ⟨⟨by show i + 1 ≤ l.length; omega, hw1, by show ps.length ≤ i + 1; omega, fun p hp => gone_offer _ _ _ _ (h4 p hp)⟩, by show l.length - (i + 1) < l.length - i; omega⟩ ⟨rfl, rfl, rfl, rfl, rfl, by show Value.int .i64 (IntKind.i64.wrap ((i : Int) + 1)) = .int .i64 ((i + 1 : Nat) : Int); rw [hnx], trivial⟩ rfl ⟨rfl, ⟨rfl, rfl, rfl, rfl⟩, ⟨rfl, rfl, rfl, rfl⟩, trivial⟩
    · refine a_if hT rfl rfl (fun hk2 => ?_) (fun hk2 => ?_)
      · refine a_callF hT rfl rfl rfl (by kernel_rfl) (Finish_spec (g := g) (h := 10) (h1 := 0) (h2 := 0) (h3 := 0) (num := o.client) (tok := o.token) (st := o.status) (bytes := o.bytes) hw (by unfold lim; omega)) [10] [10] ⟨rfl, rfl, rfl, rfl, rfl, trivial⟩ rfl ⟨rfl, trivial⟩ ?_
        rintro _ _ ⟨T', ⟨rfl, rfl⟩, rfl⟩
        refine a_next hT (WX.mk (i + 1) (finishP T o.client o.token o.status o.bytes).1 ps v4 v5) [10, 30, 31] rfl rfl ⟨⟨by show i + 1 ≤ l.length; omega, finish_wf hw _ _ _ (by unfold lim; omega), by show ps.length ≤ i + 1; omega, fun p hp => gone_finish _ _ _ _ (h4 p hp)⟩, by show l.length - (i + 1) < l.length - i; omega⟩ ⟨rfl, rfl, rfl, rfl, rfl, by show Value.int .i64 (IntKind.i64.wrap ((i : Int) + 1)) = .int .i64 ((i + 1 : Nat) : Int); rw [hnx], trivial⟩ rfl ⟨rfl, ⟨rfl, rfl, rfl, rfl⟩, ⟨rfl, rfl, rfl, rfl⟩, trivial⟩
      · refine a_if hT rfl rfl (fun hk3 => ?_) (fun hk3 => ?_)
        · refine a_callF hT rfl rfl rfl (by kernel_rfl) (Revoke_spec (g := g) (h := 10) (h1 := 0) (h2 := 0) (h3 := 0) (num := o.client) (tok := o.token) (fl := o.floor) hw ho.t1 ho.t2 ho.f1) [10] [10] ⟨rfl, rfl, rfl, rfl, trivial⟩ rfl ⟨rfl, trivial⟩ ?_
          rintro _ _ ⟨T', ⟨rfl, rfl⟩, rfl⟩
          refine a_next hT (WX.mk (i + 1) (revokeP T o.client o.token o.floor).1 ps v4 v5) [10, 30, 31] rfl rfl ⟨⟨by show i + 1 ≤ l.length; omega, revoke_wf hw _ _ _, by show ps.length ≤ i + 1; omega, fun p hp => gone_revoke _ _ _ (h4 p hp)⟩, by show l.length - (i + 1) < l.length - i; omega⟩ ⟨rfl, rfl, rfl, rfl, rfl, by show Value.int .i64 (IntKind.i64.wrap ((i : Int) + 1)) = .int .i64 ((i + 1 : Nat) : Int); rw [hnx], trivial⟩ rfl ⟨rfl, ⟨rfl, rfl, rfl, rfl⟩, ⟨rfl, rfl, rfl, rfl⟩, trivial⟩
        · refine a_next hT (WX.mk (i + 1) T ps v4 v5) [10, 30, 31] rfl rfl ⟨⟨by show i + 1 ≤ l.length; omega, hw, by show ps.length ≤ i + 1; omega, fun p hp => h4 p hp⟩, by show l.length - (i + 1) < l.length - i; omega⟩ ⟨rfl, rfl, rfl, rfl, rfl, by show Value.int .i64 (IntKind.i64.wrap ((i : Int) + 1)) = .int .i64 ((i + 1 : Nat) : Int); rw [hnx], trivial⟩ rfl ⟨rfl, ⟨rfl, rfl, rfl, rfl⟩, ⟨rfl, rfl, rfl, rfl⟩, trivial⟩
theorem sop_reads (ds : List V.Dat) (h : HasTys [.int .i64, .int .i64, .int .i64, .int .u64, .int .u64, .sl [.int .u8]] ds) : ∃ o : SOp, cvs ds = o.d ∧ poss ds ∧ o.ok := by
  obtain ⟨d1, r, rfl, h1, h⟩ := h.cons
  obtain ⟨d2, r, rfl, h2, h⟩ := h.cons
  obtain ⟨d3, r, rfl, h3, h⟩ := h.cons
  obtain ⟨d4, r, rfl, h4, h⟩ := h.cons
  obtain ⟨d5, r, rfl, h5, h⟩ := h.cons
  obtain ⟨d6, r, rfl, h6, h⟩ := h.cons
  cases h.nil
  obtain ⟨k, rfl, _, _⟩ := h1.i64
  obtain ⟨cl, rfl, _, _⟩ := h2.i64
  obtain ⟨st, rfl, _, _⟩ := h3.i64
  obtain ⟨tk, rfl, ht⟩ := h4.u64
  obtain ⟨fl, rfl, hf⟩ := h5.u64
  obtain ⟨l, hl, hp, hb⟩ := cv_bytes h6
  refine ⟨⟨k, cl, st, tk, fl, l⟩, ?_, ⟨trivial, trivial, trivial, trivial, trivial, hp, trivial⟩, ⟨Int.natCast_nonneg _, by show (tk : Int) < _; omega, Int.natCast_nonneg _, hb⟩⟩
  simp only [cvs, hl]
  rfl
theorem dedupOnce_walk (W : World) (args : Array Value) (ha : ArgsOk Try.prog W [56] [[.sl [.int .i64, .int .i64, .int .i64, .int .u64, .int .u64, .sl [.int .u8]]]] args.toList) : Calls Try.prog 10 args W (LawR W) := by
  obtain ⟨v, rfl, h1⟩ := argv_one ha
  obtain ⟨l, hr, hl, hok⟩ := argA_many h1 (by kernel_rfl) (by simp) SOp.d SOp.ok sop_reads
  exact law_of (dedupOnce_spec hl hok) (Reps.cons hr Reps.nil)
end Go.Proofs.Ytdconcindpfmcaa
