/- Layer 23's client: Cancel, Take. -/
import Derived.Test.YtepjnmocepkfjaaCe
set_option linter.unusedVariables false
set_option linter.unusedSimpArgs false
set_option maxRecDepth 100000
namespace Go.Proofs.Ytepjnmocepkfjaa
open V A
def CS.drop (C : CS) (t : Int) : CS := ⟨C.num, C.last, C.calls.filter fun x => decide (x.tok ≠ t)⟩
def CS.find (C : CS) (t : Int) : Option CP := C.calls.find? fun x => decide (x.tok = t)
/-- One of the calls, by its token. -/
structure Split (L : List (Nat × CP)) (C : CS) (t : Int) (b : Nat) (x : CP) (a c : List (Nat × CP)) : Prop where
  e : L = a ++ (b, x) :: c
  tt : x.tok = t
  f : C.find t = some x
  d : (a ++ c).map (·.2) = (C.drop t).calls
  m : adel (cmap L) t = cmap (a ++ c)
  p : (filt t (due C.calls)) = due (C.drop t).calls
  i : x ∈ C.calls
theorem adel_mid {β : Type} {k : Int} {u : β} : ∀ {a b : List (Int × β)}, (∀ p ∈ a, p.1 ≠ k) → adel (a ++ (k, u) :: b) k = a ++ b
  | [], b, h => by simp [adel]
  | p :: a, b, h => by
    have h1 := h p (by simp)
    rw [List.cons_append, adel, if_neg h1, adel_mid fun q hq => h q (by simp [hq])]
    rfl
theorem split_some {L : List (Nat × CP)} {C : CS} {t : Int} {b : Nat} (hC : C.ok) (hy : L.map (·.2) = C.calls) (h : aget (cmap L) t = some b) : ∃ x a c, Split L C t b x a c := by
  obtain ⟨a', c', hs, hna⟩ := aget_split h
  unfold cmap at hs
  obtain ⟨a, r, rfl, ha, hr⟩ := List.map_eq_append_iff.1 hs
  obtain ⟨p, c, rfl, hp, hc⟩ := List.map_eq_cons_iff.1 hr
  obtain ⟨b', x⟩ := p
  simp only [Prod.mk.injEq] at hp
  obtain ⟨rfl, rfl⟩ := hp
  have hna' : ∀ q ∈ a, q.2.tok ≠ x.tok := fun q hq => hna (q.2.tok, q.1) (by rw [← ha]; exact List.mem_map.2 ⟨q, hq, rfl⟩)
  have hpw := hC.pw hy
  rw [List.map_append, List.pairwise_append] at hpw
  have hnc' : ∀ q ∈ c, q.2.tok ≠ x.tok := fun q hq => by
    have h1 := hpw.2.1
    rw [List.map_cons, List.pairwise_cons] at h1
    have := h1.1 q.2.tok (List.mem_map.2 ⟨q, hq, rfl⟩)
    have : x.tok < q.2.tok := this
    omega
  have hcalls : C.calls = a.map (·.2) ++ x :: c.map (·.2) := by rw [← hy, List.map_append]; rfl
  have fa : (a.map (·.2)).filter (fun z => decide (z.tok ≠ x.tok)) = a.map (·.2) := List.filter_eq_self.2 fun z hz => by
    obtain ⟨q, hq, rfl⟩ := List.mem_map.1 hz
    exact decide_eq_true (hna' q hq)
  have fc : (c.map (·.2)).filter (fun z => decide (z.tok ≠ x.tok)) = c.map (·.2) := List.filter_eq_self.2 fun z hz => by
    obtain ⟨q, hq, rfl⟩ := List.mem_map.1 hz
    exact decide_eq_true (hnc' q hq)
  have hd : (C.drop x.tok).calls = a.map (·.2) ++ c.map (·.2) := by
    show C.calls.filter _ = _
    rw [hcalls, List.filter_append, fa, List.filter_cons, if_neg (by simp), fc]
  refine ⟨x, a, c, rfl, rfl, ?_, by rw [hd, List.map_append], ?_, ?_, by rw [hcalls]; simp⟩
  · show C.calls.find? _ = _
    rw [hcalls, List.find?_append, List.find?_eq_none.2 (fun z hz => by
      obtain ⟨q, hq, rfl⟩ := List.mem_map.1 hz
      simpa using hna' q hq)]
    simp
  · unfold cmap
    rw [List.map_append, List.map_cons, List.map_append]
    exact adel_mid fun p hp => by
      obtain ⟨q, hq, rfl⟩ := List.mem_map.1 hp
      exact hna' q hq
  · rw [hd, hcalls]
    unfold filt due
    rw [List.filter_map, List.filter_append, List.filter_cons]
    rw [show List.filter ((fun p : Int × Int => decide (p.1 ≠ x.tok)) ∘ fun z : CP => (z.tok, wakeP z)) (a.map (·.2)) = a.map (·.2) from fa, show List.filter ((fun p : Int × Int => decide (p.1 ≠ x.tok)) ∘ fun z : CP => (z.tok, wakeP z)) (c.map (·.2)) = c.map (·.2) from fc]
    rw [if_neg (by simp)]
theorem split_none {L : List (Nat × CP)} {C : CS} {t : Int} (hy : L.map (·.2) = C.calls) (h : aget (cmap L) t = none) : C.find t = none := by
  have := aget_nomem h
  refine List.find?_eq_none.2 fun z hz => ?_
  rw [← hy] at hz
  obtain ⟨q, hq, rfl⟩ := List.mem_map.1 hz
  simp only [decide_eq_true_eq]
  intro e
  refine this ?_
  unfold cmap
  rw [List.map_map]
  exact List.mem_map.2 ⟨q, hq, e⟩
theorem split_open {g : Nat} {C : CS} {y : CX} {t : Int} {b : Nat} {x : CP} {a c : List (Nat × CP)} (h : Split y.L C t b x a c) : Ent (y.cs g C) [cliBlk g C.num C.last y.gm y.gt, cmapC y.gm y.L, callBlk b x, .ext (listA (callsC (a ++ c))), .ext (tmA y.gt (due C.calls))] := by
  refine Ent.cons _ (Ent.cons _ ?_)
  have e1 : callsC y.L = callsC a ++ ([callBlk b x] ++ callsC c) := by rw [h.e]; unfold callsC; rw [List.map_append]; rfl
  have e2 : callsC (a ++ c) = callsC a ++ callsC c := by unfold callsC; rw [List.map_append]
  rw [e1, e2]
  exact Ent.app (ent_focus (callsC a) [callBlk b x] (callsC c)) (Ent.refl _)
theorem split_shut {g : Nat} {C : CS} {y : CX} {t : Int} {b : Nat} {x : CP} {a c : List (Nat × CP)} (h : Split y.L C t b x a c) : Ent [cliBlk g C.num C.last y.gm y.gt, .map y.gm (mapG kU bV40 (adel (cmap y.L) x.tok)), .ext (listA (callsC (a ++ c))), .ext (tmA y.gt (filt x.tok (due C.calls)))] [.ext (cliA g (C.drop t))] := by
  have := cl_pack (g := g) (C := C.drop t) (y := ⟨y.gm, y.gt, a ++ c⟩) h.d
  rw [h.tt, h.m, h.p]
  exact this
def cancelP (C : CS) (t : Int) : CS × Evt × Fr × Bool := match C.find t with
  | none => (C, noev, nofr, false)
  | some x => (C.drop t, ⟨3, C.num, t, x.meth, 1, []⟩, ⟨3, C.num, t, x.att, C.fl, x.meth, x.dl, 0, []⟩, true)
theorem nofit {b : Bool} : Fit (.tup [.agg [.v (kI 0) 0, .v (kI 0) 0, .v (kU 0) 0, .v (kI 0) 0, .v (kI 0) 0, .v (.slice none 0 0) 0], .agg [.v (kI 0) 0, .v (kI 0) 0, .v (kU 0) 0, .v (kI 0) 0, .v (kU 0) 0, .v (kI 0) 0, .v (kI 0) 0, .v (kI 0) 0, .v (.slice none 0 0) 0], bA b]) (.tup [evtA noev, frA nofr, bA b]) :=
  ⟨⟨rfl, rfl, rfl, rfl, rfl, ⟨rfl, rfl⟩, trivial⟩, ⟨rfl, rfl, rfl, rfl, rfl, rfl, rfl, rfl, ⟨rfl, rfl⟩, trivial⟩, rfl, trivial⟩
theorem ccancel_spec {g h h1 h2 : Nat} {C : CS} {t now : Int} (hC : C.ok) (hl1 : C.last < 900000) : FSpec Try.prog 12 [ptrA g h, .v (kU t) h1, .v (kI now) h2] [.ext (cliA g C)]
    fun a cs => ∃ C', (C' = (cancelP C t).1 ∧ a = .tup [evtA (cancelP C t).2.1, frA (cancelP C t).2.2.1, bA (cancelP C t).2.2.2]) ∧ cs = [.ext (cliA g C')] := by
  refine cl_spec (R := fun a C' => C' = (cancelP C t).1 ∧ a = .tup [evtA (cancelP C t).2.1, frA (cancelP C t).2.2.1, bA (cancelP C t).2.2.2]) fun y hy => ?_
  have hn0 := hC.n0
  cases hres : aget (cmap y.L) t with
  | none =>
    have he : cancelP C t = (C, noev, nofr, false) := by unfold cancelP; rw [split_none hy hres]
    refine a_enter hT [ptrA g 10, .v (kU t) 0, .v (kI now) 0] [10, 11, 14, 13] Try.func12 rfl rfl rfl ⟨rfl, rfl, rfl, trivial⟩ fun c => ?_
    refine a_new hT hZ 20 rfl rfl rfl rfl fun g1 => ?_
    refine a_new hT hZ 21 rfl rfl rfl rfl fun g2 => ?_
    refine a_callZ hT rfl rfl rfl (by kernel_rfl) none_spec [10] [] [] rfl rfl rfl ⟨rfl, trivial⟩ trivial (by rintro _ _ ⟨rfl, rfl⟩; exact ⟨inferInstance, inferInstance⟩) ?_
    rintro _ _ ⟨rfl, rfl⟩
    refine a_g hT rfl rfl rfl (fun h3 => ?_) (fun h3 => ?_)
    · have h3 := eq_of_beq h3
      (exfalso; first | omega | contradiction)
    · have h3 := ne_of_beq_false h3
      refine a_lookG hT (kv := kU) (va := bV40) _ _ _ rfl rfl rfl mtK kU_ok zeroK rfl rfl rfl rfl rfl (by assumption) ?_
      refine a_t hT rfl rfl rfl ?_
      refine a_build hT hZ [.v (Value.int IntKind.i64 0) 0, .v (Value.int IntKind.i64 0) 0, .v (Value.int IntKind.u64 0) 0, .v (Value.int IntKind.i64 0) 0, .v (Value.int IntKind.i64 0) 0, .v (Value.slice none 0 0) 0] rfl rfl rfl rfl rfl rfl ?_
      refine a_build hT hZ [.v (Value.int IntKind.i64 0) 0, .v (Value.int IntKind.i64 0) 0, .v (Value.int IntKind.u64 0) 0, .v (Value.int IntKind.i64 0) 0, .v (Value.int IntKind.u64 0) 0, .v (Value.int IntKind.i64 0) 0, .v (Value.int IntKind.i64 0) 0, .v (Value.int IntKind.i64 0) 0, .v (Value.slice none 0 0) 0] rfl rfl rfl rfl rfl rfl ?_
      refine a_ret hT [10, 11, 14, 13] rfl rfl rfl rfl rfl rfl ?_
      exact ⟨_, _, C, nofit, Ent.refl _, cl_pack hy, by rw [he], by rw [he]⟩
  | some b =>
    obtain ⟨x, a, c, hs⟩ := split_some hC hy hres
    have hx := hC.c x hs.i
    have he : cancelP C t = (C.drop t, ⟨3, C.num, t, x.meth, 1, []⟩, ⟨3, C.num, t, x.att, C.fl, x.meth, x.dl, 0, []⟩, true) := by unfold cancelP; rw [hs.f]
    refine FSpec.ent ?_ (split_open hs)
    refine a_enter hT [ptrA g 10, .v (kU t) 0, .v (kI now) 0] [10, 11, 40, 14, 13] Try.func12 rfl rfl rfl ⟨rfl, rfl, rfl, trivial⟩ fun c => ?_
    refine a_new hT hZ 41 rfl rfl rfl rfl fun g1 => ?_
    refine a_new hT hZ 42 rfl rfl rfl rfl fun g2 => ?_
    refine a_callZ hT rfl rfl rfl (by kernel_rfl) none_spec [10] [] [] rfl rfl rfl ⟨rfl, trivial⟩ trivial (by rintro _ _ ⟨rfl, rfl⟩; exact ⟨inferInstance, inferInstance⟩) ?_
    rintro _ _ ⟨rfl, rfl⟩
    refine a_g hT rfl rfl rfl (fun h3 => ?_) (fun h3 => ?_)
    · have h3 := eq_of_beq h3
      (exfalso; first | omega | contradiction)
    · have h3 := ne_of_beq_false h3
      refine a_lookG hT (kv := kU) (va := bV40) _ _ _ rfl rfl rfl mtK kU_ok zeroK rfl rfl rfl rfl rfl (by assumption) ?_
      refine a_f hT rfl rfl rfl ?_
      refine a_lookG hT (kv := kU) (va := bV40) _ _ _ rfl rfl rfl mtK kU_ok zeroK rfl rfl rfl rfl rfl (by assumption) ?_
      refine a_callZ hT rfl rfl rfl (by kernel_rfl) (cframe_spec (x := x) hn0 (hC.pw hy) (hC.le hy) hC.l0 hC.l1 (show x.arg.length ≤ lim from Nat.le_trans hx.a (by decide))) [10, 40] [11] [11, 1] rfl rfl rfl ⟨rfl, rfl, trivial⟩ ⟨⟨rfl, rfl⟩, trivial⟩ (by rintro _ _ ⟨v, rfl, rfl⟩; exact ⟨inferInstance, inferInstance⟩) ?_
      rintro _ _ ⟨v, rfl, rfl⟩
      refine a_new hT hZ 43 rfl rfl rfl rfl fun g3 => ?_
      refine a_draw hT [10, 11, 40, 13, 41, 42] false [(0, false), (1, false), (3, false), (2, true), (4, true), (5, true), (6, true)] rfl rfl (by kernel_rfl) (by kernel_rfl) rfl ?_
      refine a_callF hT rfl rfl rfl (by kernel_rfl) (ccomplete_spec (x := x) (bs := []) hC.dn (show (due C.calls).length < 999999 by unfold due; rw [List.length_map]; have := hC.len1 hl1; omega) (by decide) (h := 10) (h2 := 40) (h3 := 0) (st := 1)) [10, 11, 40, 13] [10, 11, 40, 13] ⟨rfl, rfl, rfl, ⟨rfl, rfl⟩, trivial⟩ rfl ⟨⟨rfl, rfl, ⟨rfl, rfl, rfl, rfl, trivial⟩⟩, ⟨rfl, rfl⟩, ⟨rfl, rfl, ⟨rfl, rfl, rfl, rfl, rfl, rfl, trivial⟩⟩, rfl, trivial⟩ ?_
      rintro _ _ ⟨rfl, rfl⟩
      refine a_ret hT [10, 11, 14, 13] rfl rfl rfl rfl rfl rfl ?_
      exact ⟨.tup [evtA ⟨3, C.num, x.tok, x.meth, 1, []⟩, frA ⟨3, C.num, x.tok, x.att, floorP C.last y.L, x.meth, x.dl, 0, []⟩, bA true], _, C.drop t, ⟨⟨rfl, rfl, rfl, rfl, rfl, rfl, trivial⟩, ⟨rfl, rfl, rfl, rfl, rfl, rfl, rfl, rfl, ⟨rfl, rfl⟩, trivial⟩, rfl, trivial⟩, Ent.refl _, split_shut hs, by rw [he], by rw [he, hs.tt, CS.fl_eq hy]⟩
def takeP (C : CS) (f : Fr) : CS × Evt × Bool := if ¬ formed f ∨ f.kind ≠ 2 ∨ f.client ≠ C.num then (C, noev, false) else match C.find f.token with
  | none => (C, noev, false)
  | some x => if x.meth ≠ f.method ∨ f.status ∈ [1, 4, 14] then (C, noev, false) else (C.drop f.token, ⟨3, C.num, f.token, x.meth, f.status, f.pay⟩, true)
theorem nofit2 {b : Bool} : Fit (.tup [.agg [.v (kI 0) 0, .v (kI 0) 0, .v (kU 0) 0, .v (kI 0) 0, .v (kI 0) 0, .v (.slice none 0 0) 0], bA b]) (.tup [evtA noev, bA b]) :=
  ⟨⟨rfl, rfl, rfl, rfl, rfl, ⟨rfl, rfl⟩, trivial⟩, rfl, trivial⟩
theorem split_close {g : Nat} {C : CS} {y : CX} {t : Int} {b : Nat} {x : CP} {a c : List (Nat × CP)} (h : Split y.L C t b x a c) : Ent [cliBlk g C.num C.last y.gm y.gt, cmapC y.gm y.L, callBlk b x, .ext (listA (callsC (a ++ c))), .ext (tmA y.gt (due C.calls))] (y.cs g C) := by
  refine Ent.cons _ (Ent.cons _ ?_)
  have e1 : callsC y.L = callsC a ++ ([callBlk b x] ++ callsC c) := by rw [h.e]; unfold callsC; rw [List.map_append]; rfl
  have e2 : callsC (a ++ c) = callsC a ++ callsC c := by unfold callsC; rw [List.map_append]
  rw [e1, e2]
  exact Ent.app (ent_unfocus (callsC a) [callBlk b x] (callsC c)) (Ent.refl _)
theorem take_no {C : CS} {f : Fr} {x : CP} (hf : C.find f.token = some x) (h : ¬ formed f ∨ f.kind ≠ 2 ∨ f.client ≠ C.num ∨ x.meth ≠ f.method ∨ f.status ∈ [1, 4, 14]) : takeP C f = (C, noev, false) := by
  unfold takeP
  rw [hf]
  split
  · rfl
  · rename_i h1
    simp only
    rw [if_pos]
    rcases h with h | h | h | h | h
    · exact absurd (.inl h) h1
    · exact absurd (.inr (.inl h)) h1
    · exact absurd (.inr (.inr h)) h1
    · exact .inl h
    · exact .inr h
theorem take_yes {C : CS} {f : Fr} {x : CP} (hf : C.find f.token = some x) (h1 : formed f) (h2 : f.kind = 2) (h3 : f.client = C.num) (h4 : x.meth = f.method) (h5 : ¬ f.status ∈ [1, 4, 14]) : takeP C f = (C.drop f.token, ⟨3, C.num, f.token, x.meth, f.status, f.pay⟩, true) := by
  unfold takeP
  rw [hf, if_neg (by simp [h1, h2, h3])]
  simp only
  rw [if_neg (by rintro (h | h); exact h h4; exact h5 h)]
theorem ctake_spec {g h : Nat} {C : CS} {f : Fr} (hC : C.ok) (hl1 : C.last < 900000) (hf : f.pay.length ≤ lim) : FSpec Try.prog 19 [ptrA g h, frA f] [.ext (cliA g C)]
    fun a cs => ∃ C', (C' = (takeP C f).1 ∧ a = .tup [evtA (takeP C f).2.1, bA (takeP C f).2.2]) ∧ cs = [.ext (cliA g C')] := by
  refine cl_spec (R := fun a C' => C' = (takeP C f).1 ∧ a = .tup [evtA (takeP C f).2.1, bA (takeP C f).2.2]) fun y hy => ?_
  have hn0 := hC.n0
  cases hres : aget (cmap y.L) f.token with
  | none =>
    have he : takeP C f = (C, noev, false) := by unfold takeP; rw [split_none hy hres]; simp
    refine a_enter hT [ptrA g 10, frA f] [10, 11, 14, 13] Try.func19 rfl rfl rfl ⟨rfl, ⟨rfl, rfl, rfl, rfl, rfl, rfl, rfl, rfl, rfl, trivial⟩, trivial⟩ fun c => ?_
    refine a_box hT 20 rfl rfl rfl rfl fun g1 => ?_
    refine a_new hT hZ 21 rfl rfl rfl rfl fun g2 => ?_
    refine a_draw hT [] false [(0, false), (1, true), (2, true), (3, true), (4, true), (5, true), (6, true), (7, true), (8, true), (9, true), (10, true), (11, true), (12, true), (13, false), (14, false), (15, true), (16, true), (17, true), (18, true), (19, true), (20, true)] rfl rfl (by kernel_rfl) (by kernel_rfl) rfl ?_
    refine a_callZ hT rfl rfl rfl (by kernel_rfl) none_spec [10] [] [] rfl rfl rfl ⟨rfl, trivial⟩ trivial (by rintro _ _ ⟨rfl, rfl⟩; exact ⟨inferInstance, inferInstance⟩) ?_
    rintro _ _ ⟨rfl, rfl⟩
    refine a_g hT rfl rfl rfl (fun h1 => ?_) (fun h1 => ?_)
    · have h1 := eq_of_beq h1
      (exfalso; first | omega | contradiction)
    · have h1 := ne_of_beq_false h1
      refine a_call hT rfl rfl rfl (by kernel_rfl) (formed_spec (f := f)) [] [] rfl rfl ?_
      rintro _ _ ⟨rfl, rfl⟩
      refine a_g hT rfl rfl rfl (fun h2 => ?_) (fun h2 => ?_)
      · simp at h2
        refine a_gt hT rfl rfl rfl rfl ?_
        refine a_t hT rfl rfl rfl ?_
        refine a_build hT hZ [.v (Value.int IntKind.i64 0) 0, .v (Value.int IntKind.i64 0) 0, .v (Value.int IntKind.u64 0) 0, .v (Value.int IntKind.i64 0) 0, .v (Value.int IntKind.i64 0) 0, .v (Value.slice none 0 0) 0] rfl rfl rfl rfl rfl rfl ?_
        refine a_ret hT [10, 11, 14, 13] rfl rfl rfl rfl rfl rfl ?_
        exact ⟨_, _, C, nofit2, Ent.refl _, cl_pack hy, by rw [he], by rw [he]⟩
      · simp at h2
        refine a_g hT rfl rfl rfl (fun h3 => ?_) (fun h3 => ?_)
        · have h3 := bne_iff_ne.1 h3
          refine a_t hT rfl rfl rfl ?_
          refine a_build hT hZ [.v (Value.int IntKind.i64 0) 0, .v (Value.int IntKind.i64 0) 0, .v (Value.int IntKind.u64 0) 0, .v (Value.int IntKind.i64 0) 0, .v (Value.int IntKind.i64 0) 0, .v (Value.slice none 0 0) 0] rfl rfl rfl rfl rfl rfl ?_
          refine a_ret hT [10, 11, 14, 13] rfl rfl rfl rfl rfl rfl ?_
          exact ⟨_, _, C, nofit2, Ent.refl _, cl_pack hy, by rw [he], by rw [he]⟩
        · simp at h3
          refine a_if hT rfl rfl (fun h4 => ?_) (fun h4 => ?_)
          · have h4 := bne_iff_ne.1 h4
            refine a_build hT hZ [.v (Value.int IntKind.i64 0) 0, .v (Value.int IntKind.i64 0) 0, .v (Value.int IntKind.u64 0) 0, .v (Value.int IntKind.i64 0) 0, .v (Value.int IntKind.i64 0) 0, .v (Value.slice none 0 0) 0] rfl rfl rfl rfl rfl rfl ?_
            refine a_ret hT [10, 11, 14, 13] rfl rfl rfl rfl rfl rfl ?_
            exact ⟨_, _, C, nofit2, Ent.refl _, cl_pack hy, by rw [he], by rw [he]⟩
          · simp at h4
            refine a_draw hT [11] false [(0, false), (1, false), (2, false), (3, false), (4, false), (5, false), (6, true), (7, true)] rfl rfl (by kernel_rfl) (by kernel_rfl) rfl ?_
            refine a_lookG hT (kv := kU) (va := bV40) _ _ _ rfl rfl rfl mtK kU_ok zeroK rfl rfl rfl rfl rfl (by assumption) ?_
            refine a_draw hT [] false [(0, false), (1, false), (2, false), (3, false), (4, false), (5, false), (6, false), (7, false), (8, false), (9, false), (10, false), (11, false), (13, false), (14, false), (12, true), (15, true), (16, true)] rfl rfl (by kernel_rfl) (by kernel_rfl) rfl ?_
            refine a_gt hT rfl rfl rfl rfl ?_
            refine a_gt hT rfl rfl rfl rfl ?_
            refine a_t hT rfl rfl rfl ?_
            refine a_build hT hZ [.v (Value.int IntKind.i64 0) 0, .v (Value.int IntKind.i64 0) 0, .v (Value.int IntKind.u64 0) 0, .v (Value.int IntKind.i64 0) 0, .v (Value.int IntKind.i64 0) 0, .v (Value.slice none 0 0) 0] rfl rfl rfl rfl rfl rfl ?_
            refine a_ret hT [10, 11, 14, 13] rfl rfl rfl rfl rfl rfl ?_
            exact ⟨_, _, C, nofit2, Ent.refl _, cl_pack hy, by rw [he], by rw [he]⟩
  | some b =>
    obtain ⟨x, a, c, hs⟩ := split_some hC hy hres
    have hx := hC.c x hs.i
    refine FSpec.ent ?_ (split_open hs)
    refine a_enter hT [ptrA g 10, frA f] [10, 11, 40, 14, 13] Try.func19 rfl rfl rfl ⟨rfl, ⟨rfl, rfl, rfl, rfl, rfl, rfl, rfl, rfl, rfl, trivial⟩, trivial⟩ fun c => ?_
    refine a_box hT 41 rfl rfl rfl rfl fun g1 => ?_
    refine a_new hT hZ 42 rfl rfl rfl rfl fun g2 => ?_
    refine a_draw hT [] false [(0, false), (1, true), (2, true), (3, true), (4, true), (5, true), (6, true), (7, true), (8, true), (9, true), (10, true), (11, true), (12, true), (13, false), (14, false), (15, true), (16, true), (17, true), (18, true), (19, true), (20, true)] rfl rfl (by kernel_rfl) (by kernel_rfl) rfl ?_
    refine a_callZ hT rfl rfl rfl (by kernel_rfl) none_spec [10] [] [] rfl rfl rfl ⟨rfl, trivial⟩ trivial (by rintro _ _ ⟨rfl, rfl⟩; exact ⟨inferInstance, inferInstance⟩) ?_
    rintro _ _ ⟨rfl, rfl⟩
    refine a_g hT rfl rfl rfl (fun h1 => ?_) (fun h1 => ?_)
    · have h1 := eq_of_beq h1
      (exfalso; first | omega | contradiction)
    · have h1 := ne_of_beq_false h1
      refine a_call hT rfl rfl rfl (by kernel_rfl) (formed_spec (f := f)) [] [] rfl rfl ?_
      rintro _ _ ⟨rfl, rfl⟩
      refine a_g hT rfl rfl rfl (fun h2 => ?_) (fun h2 => ?_)
      · simp at h2
        refine a_gt hT rfl rfl rfl rfl ?_
        refine a_t hT rfl rfl rfl ?_
        refine a_build hT hZ [.v (Value.int IntKind.i64 0) 0, .v (Value.int IntKind.i64 0) 0, .v (Value.int IntKind.u64 0) 0, .v (Value.int IntKind.i64 0) 0, .v (Value.int IntKind.i64 0) 0, .v (Value.slice none 0 0) 0] rfl rfl rfl rfl rfl rfl ?_
        refine a_ret hT [10, 11, 40, 14, 13] rfl rfl rfl rfl rfl rfl ?_
        first | (have he := take_no hs.f (by first | exact .inl (by assumption) | exact .inr (.inl (by assumption)) | exact .inr (.inr (.inl (by assumption))) | exact .inr (.inr (.inr (.inl (by assumption)))) | exact .inr (.inr (.inr (.inr (by assumption))))); exact ⟨_, _, C, nofit2, split_close hs, cl_pack hy, by rw [he], by rw [he]⟩) | (have he := take_yes hs.f (by assumption) (by assumption) (by assumption) (by assumption) (by assumption); exact ⟨_, _, C.drop f.token, ⟨⟨rfl, rfl, rfl, rfl, rfl, rfl, trivial⟩, rfl, trivial⟩, Ent.refl _, split_shut hs, by rw [he], by rw [he, hs.tt]⟩)
      · simp at h2
        refine a_g hT rfl rfl rfl (fun h3 => ?_) (fun h3 => ?_)
        · have h3 := bne_iff_ne.1 h3
          refine a_t hT rfl rfl rfl ?_
          refine a_build hT hZ [.v (Value.int IntKind.i64 0) 0, .v (Value.int IntKind.i64 0) 0, .v (Value.int IntKind.u64 0) 0, .v (Value.int IntKind.i64 0) 0, .v (Value.int IntKind.i64 0) 0, .v (Value.slice none 0 0) 0] rfl rfl rfl rfl rfl rfl ?_
          refine a_ret hT [10, 11, 40, 14, 13] rfl rfl rfl rfl rfl rfl ?_
          first | (have he := take_no hs.f (by first | exact .inl (by assumption) | exact .inr (.inl (by assumption)) | exact .inr (.inr (.inl (by assumption))) | exact .inr (.inr (.inr (.inl (by assumption)))) | exact .inr (.inr (.inr (.inr (by assumption))))); exact ⟨_, _, C, nofit2, split_close hs, cl_pack hy, by rw [he], by rw [he]⟩) | (have he := take_yes hs.f (by assumption) (by assumption) (by assumption) (by assumption) (by assumption); exact ⟨_, _, C.drop f.token, ⟨⟨rfl, rfl, rfl, rfl, rfl, rfl, trivial⟩, rfl, trivial⟩, Ent.refl _, split_shut hs, by rw [he], by rw [he, hs.tt]⟩)
        · simp at h3
          refine a_if hT rfl rfl (fun h4 => ?_) (fun h4 => ?_)
          · have h4 := bne_iff_ne.1 h4
            refine a_build hT hZ [.v (Value.int IntKind.i64 0) 0, .v (Value.int IntKind.i64 0) 0, .v (Value.int IntKind.u64 0) 0, .v (Value.int IntKind.i64 0) 0, .v (Value.int IntKind.i64 0) 0, .v (Value.slice none 0 0) 0] rfl rfl rfl rfl rfl rfl ?_
            refine a_ret hT [10, 11, 40, 14, 13] rfl rfl rfl rfl rfl rfl ?_
            first | (have he := take_no hs.f (by first | exact .inl (by assumption) | exact .inr (.inl (by assumption)) | exact .inr (.inr (.inl (by assumption))) | exact .inr (.inr (.inr (.inl (by assumption)))) | exact .inr (.inr (.inr (.inr (by assumption))))); exact ⟨_, _, C, nofit2, split_close hs, cl_pack hy, by rw [he], by rw [he]⟩) | (have he := take_yes hs.f (by assumption) (by assumption) (by assumption) (by assumption) (by assumption); exact ⟨_, _, C.drop f.token, ⟨⟨rfl, rfl, rfl, rfl, rfl, rfl, trivial⟩, rfl, trivial⟩, Ent.refl _, split_shut hs, by rw [he], by rw [he, hs.tt]⟩)
          · simp at h4
            refine a_draw hT [11] false [(0, false), (1, false), (2, false), (3, false), (4, false), (5, false), (6, true), (7, true)] rfl rfl (by kernel_rfl) (by kernel_rfl) rfl ?_
            refine a_lookG hT (kv := kU) (va := bV40) _ _ _ rfl rfl rfl mtK kU_ok zeroK rfl rfl rfl rfl rfl (by assumption) ?_
            refine a_draw hT [] false [(0, false), (1, false), (2, false), (3, false), (4, false), (5, false), (6, false), (7, false), (8, false), (9, false), (10, false), (11, false), (13, false), (14, false), (12, true), (15, true), (16, true)] rfl rfl (by kernel_rfl) (by kernel_rfl) rfl ?_
            refine a_gf hT rfl rfl rfl rfl ?_
            refine a_g hT rfl rfl rfl (fun h5 => ?_) (fun h5 => ?_)
            · have h5 := bne_iff_ne.1 h5
              refine a_t hT rfl rfl rfl ?_
              refine a_build hT hZ [.v (Value.int IntKind.i64 0) 0, .v (Value.int IntKind.i64 0) 0, .v (Value.int IntKind.u64 0) 0, .v (Value.int IntKind.i64 0) 0, .v (Value.int IntKind.i64 0) 0, .v (Value.slice none 0 0) 0] rfl rfl rfl rfl rfl rfl ?_
              refine a_ret hT [10, 11, 40, 14, 13] rfl rfl rfl rfl rfl rfl ?_
              first | (have he := take_no hs.f (by first | exact .inl (by assumption) | exact .inr (.inl (by assumption)) | exact .inr (.inr (.inl (by assumption))) | exact .inr (.inr (.inr (.inl (by assumption)))) | exact .inr (.inr (.inr (.inr (by assumption))))); exact ⟨_, _, C, nofit2, split_close hs, cl_pack hy, by rw [he], by rw [he]⟩) | (have he := take_yes hs.f (by assumption) (by assumption) (by assumption) (by assumption) (by assumption); exact ⟨_, _, C.drop f.token, ⟨⟨rfl, rfl, rfl, rfl, rfl, rfl, trivial⟩, rfl, trivial⟩, Ent.refl _, split_shut hs, by rw [he], by rw [he, hs.tt]⟩)
            · simp at h5
              refine a_lit hT 43 rfl rfl rfl rfl (by kernel_rfl) rfl rfl rfl rfl fun x43 => ?_
              refine a_callZ hT rfl rfl rfl (by kernel_rfl) (contains_spec (l := [1, 4, 14]) (by first | assumption | rfl | decide | omega | (dsimp only; omega)) (h := 0)) [43] [] [] rfl rfl rfl ⟨rfl, rfl, trivial⟩ trivial (by rintro _ _ ⟨rfl, rfl⟩; exact ⟨inferInstance, inferInstance⟩) ?_
              rintro _ _ ⟨rfl, rfl⟩
              refine a_if hT rfl rfl (fun h6 => ?_) (fun h6 => ?_)
              · have h6 := of_decide_eq_true h6
                refine a_build hT hZ [.v (Value.int IntKind.i64 0) 0, .v (Value.int IntKind.i64 0) 0, .v (Value.int IntKind.u64 0) 0, .v (Value.int IntKind.i64 0) 0, .v (Value.int IntKind.i64 0) 0, .v (Value.slice none 0 0) 0] rfl rfl rfl rfl rfl rfl ?_
                refine a_ret hT [10, 11, 40, 14, 13] rfl rfl rfl rfl rfl rfl ?_
                first | (have he := take_no hs.f (by first | exact .inl (by assumption) | exact .inr (.inl (by assumption)) | exact .inr (.inr (.inl (by assumption))) | exact .inr (.inr (.inr (.inl (by assumption)))) | exact .inr (.inr (.inr (.inr (by assumption))))); exact ⟨_, _, C, nofit2, split_close hs, cl_pack hy, by rw [he], by rw [he]⟩) | (have he := take_yes hs.f (by assumption) (by assumption) (by assumption) (by assumption) (by assumption); exact ⟨_, _, C.drop f.token, ⟨⟨rfl, rfl, rfl, rfl, rfl, rfl, trivial⟩, rfl, trivial⟩, Ent.refl _, split_shut hs, by rw [he], by rw [he, hs.tt]⟩)
              · have h6 := of_decide_eq_false h6
                refine a_call hT rfl rfl rfl (by kernel_rfl) (ccomplete_spec (x := x) (bs := f.pay) hC.dn (show (due C.calls).length < 999999 by unfold due; rw [List.length_map]; have := hC.len1 hl1; omega) hf) [10, 11, 40, 13] [10, 11, 40, 13] rfl rfl ?_
                rintro _ _ ⟨rfl, rfl⟩
                refine a_ret hT [10, 11, 14, 13] rfl rfl rfl rfl rfl rfl ?_
                have he := take_yes hs.f (by assumption) (by assumption) (by assumption) (by assumption) (by assumption)
                exact ⟨.tup [evtA ⟨3, C.num, x.tok, x.meth, f.status, f.pay⟩, bA true], _, C.drop f.token, ⟨⟨rfl, rfl, rfl, rfl, rfl, rfl, trivial⟩, rfl, trivial⟩, Ent.refl _, split_shut hs, by rw [he], by rw [he, hs.tt]⟩
end Go.Proofs.Ytepjnmocepkfjaa
