import Derived.Test.YtepjnmocepkfjaaQClientPlays6
import Derived.Test.YtepjnmocepkfjaaQClientPlays4
section
/- Layer 23's client: Cancel, Take. -/
set_option linter.unusedVariables false
set_option linter.unusedSimpArgs false
set_option maxRecDepth 100000
namespace Go.Proofs.Ytepjnmocepkfjaa
open V A
def CS.drop (C : CS) (t : Int) : CS := ⟨C.num, C.last, C.calls.filter fun x => decide (x.tok ≠ t)⟩
def CS.find (C : CS) (t : Int) : Option CP := C.calls.find? fun x => decide (x.tok = t)
/-- One of the calls, by its token. -/
structure Split (L : List (Nat × CP)) (C : CS) (t : Int) (b : Nat) (x : CP) (a c : List (Nat × CP)) : Prop where
  e : L = a ++ (b, x) :: c
  tt : x.tok = t
  f : C.find t = some x
  d : (a ++ c).map (·.2) = (C.drop t).calls
  m : adel (cmap L) t = cmap (a ++ c)
  p : (filt t (due C.calls)) = due (C.drop t).calls
  i : x ∈ C.calls
theorem adel_mid {β : Type} {k : Int} {u : β} : ∀ {a b : List (Int × β)}, (∀ p ∈ a, p.1 ≠ k) → adel (a ++ (k, u) :: b) k = a ++ b
  | [], b, h => by simp [adel]
  | p :: a, b, h => by
    have h1 := h p (by simp)
    rw [List.cons_append, adel, if_neg h1, adel_mid fun q hq => h q (by simp [hq])]
    rfl
theorem split_some {L : List (Nat × CP)} {C : CS} {t : Int} {b : Nat} (hC : C.ok) (hy : L.map (·.2) = C.calls) (h : aget (cmap L) t = some b) : ∃ x a c, Split L C t b x a c := by
  obtain ⟨a', c', hs, hna⟩ := aget_split h
  unfold cmap at hs
  obtain ⟨a, r, rfl, ha, hr⟩ := List.map_eq_append_iff.1 hs
  obtain ⟨p, c, rfl, hp, hc⟩ := List.map_eq_cons_iff.1 hr
  obtain ⟨b', x⟩ := p
  simp only [Prod.mk.injEq] at hp
  obtain ⟨rfl, rfl⟩ := hp
  have hna' : ∀ q ∈ a, q.2.tok ≠ x.tok := fun q hq => hna (q.2.tok, q.1) (by rw [← ha]; exact List.mem_map.2 ⟨q, hq, rfl⟩)
  have hpw := hC.pw hy
  rw [List.map_append, List.pairwise_append] at hpw
  have hnc' : ∀ q ∈ c, q.2.tok ≠ x.tok := fun q hq => by
    have h1 := hpw.2.1
    rw [List.map_cons, List.pairwise_cons] at h1
    have := h1.1 q.2.tok (List.mem_map.2 ⟨q, hq, rfl⟩)
    have : x.tok < q.2.tok := this
    omega
  have hcalls : C.calls = a.map (·.2) ++ x :: c.map (·.2) := by rw [← hy, List.map_append]; rfl
  have fa : (a.map (·.2)).filter (fun z => decide (z.tok ≠ x.tok)) = a.map (·.2) := List.filter_eq_self.2 fun z hz => by
    obtain ⟨q, hq, rfl⟩ := List.mem_map.1 hz
    exact decide_eq_true (hna' q hq)
  have fc : (c.map (·.2)).filter (fun z => decide (z.tok ≠ x.tok)) = c.map (·.2) := List.filter_eq_self.2 fun z hz => by
    obtain ⟨q, hq, rfl⟩ := List.mem_map.1 hz
    exact decide_eq_true (hnc' q hq)
  have hd : (C.drop x.tok).calls = a.map (·.2) ++ c.map (·.2) := by
    show C.calls.filter _ = _
    rw [hcalls, List.filter_append, fa, List.filter_cons, if_neg (by simp), fc]
  refine ⟨x, a, c, rfl, rfl, ?_, by rw [hd, List.map_append], ?_, ?_, by rw [hcalls]; simp⟩
  · show C.calls.find? _ = _
    rw [hcalls, List.find?_append, List.find?_eq_none.2 (fun z hz => by
      obtain ⟨q, hq, rfl⟩ := List.mem_map.1 hz
      simpa using hna' q hq)]
    simp
  · unfold cmap
    rw [List.map_append, List.map_cons, List.map_append]
    exact adel_mid fun p hp => by
      obtain ⟨q, hq, rfl⟩ := List.mem_map.1 hp
      exact hna' q hq
  · rw [hd, hcalls]
    unfold filt due
    rw [List.filter_map, List.filter_append, List.filter_cons]
    rw [show List.filter ((fun p : Int × Int => decide (p.1 ≠ x.tok)) ∘ fun z : CP => (z.tok, wakeP z)) (a.map (·.2)) = a.map (·.2) from fa, show List.filter ((fun p : Int × Int => decide (p.1 ≠ x.tok)) ∘ fun z : CP => (z.tok, wakeP z)) (c.map (·.2)) = c.map (·.2) from fc]
    rw [if_neg (by simp)]
theorem split_none {L : List (Nat × CP)} {C : CS} {t : Int} (hy : L.map (·.2) = C.calls) (h : aget (cmap L) t = none) : C.find t = none := by
  have := aget_nomem h
  refine List.find?_eq_none.2 fun z hz => ?_
  rw [← hy] at hz
  obtain ⟨q, hq, rfl⟩ := List.mem_map.1 hz
  simp only [decide_eq_true_eq]
  intro e
  refine this ?_
  unfold cmap
  rw [List.map_map]
  exact List.mem_map.2 ⟨q, hq, e⟩
theorem split_open {g : Nat} {C : CS} {y : CX} {t : Int} {b : Nat} {x : CP} {a c : List (Nat × CP)} (h : Split y.L C t b x a c) : Ent (y.cs g C) [cliBlk g C.num C.last y.gm y.gt, cmapC y.gm y.L, callBlk b x, .ext (listA (callsC (a ++ c))), .ext (tmA y.gt (due C.calls))] := by
  refine Ent.cons _ (Ent.cons _ ?_)
  have e1 : callsC y.L = callsC a ++ ([callBlk b x] ++ callsC c) := by rw [h.e]; unfold callsC; rw [List.map_append]; rfl
  have e2 : callsC (a ++ c) = callsC a ++ callsC c := by unfold callsC; rw [List.map_append]
  rw [e1, e2]
  exact Ent.app (ent_focus (callsC a) [callBlk b x] (callsC c)) (Ent.refl _)
theorem split_shut {g : Nat} {C : CS} {y : CX} {t : Int} {b : Nat} {x : CP} {a c : List (Nat × CP)} (h : Split y.L C t b x a c) : Ent [cliBlk g C.num C.last y.gm y.gt, .map y.gm (mapG kU bV40 (adel (cmap y.L) x.tok)), .ext (listA (callsC (a ++ c))), .ext (tmA y.gt (filt x.tok (due C.calls)))] [.ext (cliA g (C.drop t))] := by
  have := cl_pack (g := g) (C := C.drop t) (y := ⟨y.gm, y.gt, a ++ c⟩) h.d
  rw [h.tt, h.m, h.p]
  exact this
def cancelP (C : CS) (t : Int) : CS × Evt × Fr × Bool := match C.find t with
  | none => (C, noev, nofr, false)
  | some x => (C.drop t, ⟨3, C.num, t, x.meth, 1, []⟩, ⟨3, C.num, t, x.att, C.fl, x.meth, x.dl, 0, []⟩, true)
theorem nofit {b : Bool} : Fit (.tup [.agg [.v (kI 0) 0, .v (kI 0) 0, .v (kU 0) 0, .v (kI 0) 0, .v (kI 0) 0, .v (.slice none 0 0) 0], .agg [.v (kI 0) 0, .v (kI 0) 0, .v (kU 0) 0, .v (kI 0) 0, .v (kU 0) 0, .v (kI 0) 0, .v (kI 0) 0, .v (kI 0) 0, .v (.slice none 0 0) 0], bA b]) (.tup [evtA noev, frA nofr, bA b]) :=
  ⟨⟨rfl, rfl, rfl, rfl, rfl, ⟨rfl, rfl⟩, trivial⟩, ⟨rfl, rfl, rfl, rfl, rfl, rfl, rfl, rfl, ⟨rfl, rfl⟩, trivial⟩, rfl, trivial⟩
theorem ccancel_spec {g h h1 h2 : Nat} {C : CS} {t now : Int} (hC : C.ok) (hl1 : C.last < 900000) : FSpec Try.prog 12 [ptrA g h, .v (kU t) h1, .v (kI now) h2] [.ext (cliA g C)]
    fun a cs => ∃ C', (C' = (cancelP C t).1 ∧ a = .tup [evtA (cancelP C t).2.1, frA (cancelP C t).2.2.1, bA (cancelP C t).2.2.2]) ∧ cs = [.ext (cliA g C')] := by
  refine cl_spec (R := fun a C' => C' = (cancelP C t).1 ∧ a = .tup [evtA (cancelP C t).2.1, frA (cancelP C t).2.2.1, bA (cancelP C t).2.2.2]) fun y hy => ?_
  have hn0 := hC.n0
  cases hres : aget (cmap y.L) t with
  | none =>
    have he : cancelP C t = (C, noev, nofr, false) := by unfold cancelP; rw [split_none hy hres]
    refine a_enter hT [ptrA g 10, .v (kU t) 0, .v (kI now) 0] [10, 11, 14, 13] Try.func12 rfl rfl rfl ⟨rfl, rfl, rfl, trivial⟩ fun c => ?_
    refine a_new hT hZ 20 rfl rfl rfl rfl fun g1 => ?_
    refine a_new hT hZ 21 rfl rfl rfl rfl fun g2 => ?_
    refine a_callZ hT rfl rfl rfl (by kernel_rfl) none_spec [10] [] [] rfl rfl rfl ⟨rfl, trivial⟩ trivial (by rintro _ _ ⟨rfl, rfl⟩; exact ⟨inferInstance, inferInstance⟩) ?_
    rintro _ _ ⟨rfl, rfl⟩
    refine a_g hT rfl rfl rfl (fun h3 => ?_) (fun h3 => ?_)
    · have h3 := eq_of_beq h3
      (exfalso; first | omega | contradiction)
    · have h3 := ne_of_beq_false h3
      refine a_lookG hT (kv := kU) (va := bV40) _ _ _ rfl rfl rfl mtK kU_ok zeroK rfl rfl rfl rfl rfl (by assumption) ?_
      refine a_t hT rfl rfl rfl ?_
      refine a_build hT hZ [.v (Value.int IntKind.i64 0) 0, .v (Value.int IntKind.i64 0) 0, .v (Value.int IntKind.u64 0) 0, .v (Value.int IntKind.i64 0) 0, .v (Value.int IntKind.i64 0) 0, .v (Value.slice none 0 0) 0] rfl rfl rfl rfl rfl rfl ?_
      refine a_build hT hZ [.v (Value.int IntKind.i64 0) 0, .v (Value.int IntKind.i64 0) 0, .v (Value.int IntKind.u64 0) 0, .v (Value.int IntKind.i64 0) 0, .v (Value.int IntKind.u64 0) 0, .v (Value.int IntKind.i64 0) 0, .v (Value.int IntKind.i64 0) 0, .v (Value.int IntKind.i64 0) 0, .v (Value.slice none 0 0) 0] rfl rfl rfl rfl rfl rfl ?_
      refine a_ret hT [10, 11, 14, 13] rfl rfl rfl rfl rfl rfl ?_
      exact ⟨_, _, C, nofit, Ent.refl _, cl_pack hy, by rw [he], by rw [he]⟩
  | some b =>
    obtain ⟨x, a, c, hs⟩ := split_some hC hy hres
    have hx := hC.c x hs.i
    have he : cancelP C t = (C.drop t, ⟨3, C.num, t, x.meth, 1, []⟩, ⟨3, C.num, t, x.att, C.fl, x.meth, x.dl, 0, []⟩, true) := by unfold cancelP; rw [hs.f]
    refine FSpec.ent ?_ (split_open hs)
    refine a_enter hT [ptrA g 10, .v (kU t) 0, .v (kI now) 0] [10, 11, 40, 14, 13] Try.func12 rfl rfl rfl ⟨rfl, rfl, rfl, trivial⟩ fun c => ?_
    refine a_new hT hZ 41 rfl rfl rfl rfl fun g1 => ?_
    refine a_new hT hZ 42 rfl rfl rfl rfl fun g2 => ?_
    refine a_callZ hT rfl rfl rfl (by kernel_rfl) none_spec [10] [] [] rfl rfl rfl ⟨rfl, trivial⟩ trivial (by rintro _ _ ⟨rfl, rfl⟩; exact ⟨inferInstance, inferInstance⟩) ?_
    rintro _ _ ⟨rfl, rfl⟩
    refine a_g hT rfl rfl rfl (fun h3 => ?_) (fun h3 => ?_)
    · have h3 := eq_of_beq h3
      (exfalso; first | omega | contradiction)
    · have h3 := ne_of_beq_false h3
      refine a_lookG hT (kv := kU) (va := bV40) _ _ _ rfl rfl rfl mtK kU_ok zeroK rfl rfl rfl rfl rfl (by assumption) ?_
      refine a_f hT rfl rfl rfl ?_
      refine a_lookG hT (kv := kU) (va := bV40) _ _ _ rfl rfl rfl mtK kU_ok zeroK rfl rfl rfl rfl rfl (by assumption) ?_
      refine a_callZ hT rfl rfl rfl (by kernel_rfl) (cframe_spec (x := x) hn0 (hC.pw hy) (hC.le hy) hC.l0 hC.l1 (show x.arg.length ≤ lim from Nat.le_trans hx.a (by decide))) [10, 40] [11] [11, 1] rfl rfl rfl ⟨rfl, rfl, trivial⟩ ⟨⟨rfl, rfl⟩, trivial⟩ (by rintro _ _ ⟨v, rfl, rfl⟩; exact ⟨inferInstance, inferInstance⟩) ?_
      rintro _ _ ⟨v, rfl, rfl⟩
      refine a_new hT hZ 43 rfl rfl rfl rfl fun g3 => ?_
      refine a_draw hT [10, 11, 40, 13, 41, 42] false [(0, false), (1, false), (3, false), (2, true), (4, true), (5, true), (6, true)] rfl rfl (by kernel_rfl) (by kernel_rfl) rfl ?_
      refine a_callF hT rfl rfl rfl (by kernel_rfl) (ccomplete_spec (x := x) (bs := []) hC.dn (show (due C.calls).length < 999999 by unfold due; rw [List.length_map]; have := hC.len1 hl1; omega) (by decide) (h := 10) (h2 := 40) (h3 := 0) (st := 1)) [10, 11, 40, 13] [10, 11, 40, 13] ⟨rfl, rfl, rfl, ⟨rfl, rfl⟩, trivial⟩ rfl ⟨⟨rfl, rfl, ⟨rfl, rfl, rfl, rfl, trivial⟩⟩, ⟨rfl, rfl⟩, ⟨rfl, rfl, ⟨rfl, rfl, rfl, rfl, rfl, rfl, trivial⟩⟩, rfl, trivial⟩ ?_
      rintro _ _ ⟨rfl, rfl⟩
      refine a_ret hT [10, 11, 14, 13] rfl rfl rfl rfl rfl rfl ?_
      exact ⟨.tup [evtA ⟨3, C.num, x.tok, x.meth, 1, []⟩, frA ⟨3, C.num, x.tok, x.att, floorP C.last y.L, x.meth, x.dl, 0, []⟩, bA true], _, C.drop t, ⟨⟨rfl, rfl, rfl, rfl, rfl, rfl, trivial⟩, ⟨rfl, rfl, rfl, rfl, rfl, rfl, rfl, rfl, ⟨rfl, rfl⟩, trivial⟩, rfl, trivial⟩, Ent.refl _, split_shut hs, by rw [he], by rw [he, hs.tt, CS.fl_eq hy]⟩
def takeP (C : CS) (f : Fr) : CS × Evt × Bool := if ¬ formed f ∨ f.kind ≠ 2 ∨ f.client ≠ C.num then (C, noev, false) else match C.find f.token with
  | none => (C, noev, false)
  | some x => if x.meth ≠ f.method ∨ f.status ∈ [1, 4, 14] then (C, noev, false) else (C.drop f.token, ⟨3, C.num, f.token, x.meth, f.status, f.pay⟩, true)
theorem nofit2 {b : Bool} : Fit (.tup [.agg [.v (kI 0) 0, .v (kI 0) 0, .v (kU 0) 0, .v (kI 0) 0, .v (kI 0) 0, .v (.slice none 0 0) 0], bA b]) (.tup [evtA noev, bA b]) :=
  ⟨⟨rfl, rfl, rfl, rfl, rfl, ⟨rfl, rfl⟩, trivial⟩, rfl, trivial⟩
theorem split_close {g : Nat} {C : CS} {y : CX} {t : Int} {b : Nat} {x : CP} {a c : List (Nat × CP)} (h : Split y.L C t b x a c) : Ent [cliBlk g C.num C.last y.gm y.gt, cmapC y.gm y.L, callBlk b x, .ext (listA (callsC (a ++ c))), .ext (tmA y.gt (due C.calls))] (y.cs g C) := by
  refine Ent.cons _ (Ent.cons _ ?_)
  have e1 : callsC y.L = callsC a ++ ([callBlk b x] ++ callsC c) := by rw [h.e]; unfold callsC; rw [List.map_append]; rfl
  have e2 : callsC (a ++ c) = callsC a ++ callsC c := by unfold callsC; rw [List.map_append]
  rw [e1, e2]
  exact Ent.app (ent_unfocus (callsC a) [callBlk b x] (callsC c)) (Ent.refl _)
theorem take_no {C : CS} {f : Fr} {x : CP} (hf : C.find f.token = some x) (h : ¬ formed f ∨ f.kind ≠ 2 ∨ f.client ≠ C.num ∨ x.meth ≠ f.method ∨ f.status ∈ [1, 4, 14]) : takeP C f = (C, noev, false) := by
  unfold takeP
  rw [hf]
  split
  · rfl
  · rename_i h1
    simp only
    rw [if_pos]
    rcases h with h | h | h | h | h
    · exact absurd (.inl h) h1
    · exact absurd (.inr (.inl h)) h1
    · exact absurd (.inr (.inr h)) h1
    · exact .inl h
    · exact .inr h
theorem take_yes {C : CS} {f : Fr} {x : CP} (hf : C.find f.token = some x) (h1 : formed f) (h2 : f.kind = 2) (h3 : f.client = C.num) (h4 : x.meth = f.method) (h5 : ¬ f.status ∈ [1, 4, 14]) : takeP C f = (C.drop f.token, ⟨3, C.num, f.token, x.meth, f.status, f.pay⟩, true) := by
  unfold takeP
  rw [hf, if_neg (by simp [h1, h2, h3])]
  simp only
  rw [if_neg (by rintro (h | h); exact h h4; exact h5 h)]
theorem ctake_spec {g h : Nat} {C : CS} {f : Fr} (hC : C.ok) (hl1 : C.last < 900000) (hf : f.pay.length ≤ lim) : FSpec Try.prog 19 [ptrA g h, frA f] [.ext (cliA g C)]
    fun a cs => ∃ C', (C' = (takeP C f).1 ∧ a = .tup [evtA (takeP C f).2.1, bA (takeP C f).2.2]) ∧ cs = [.ext (cliA g C')] := by
  refine cl_spec (R := fun a C' => C' = (takeP C f).1 ∧ a = .tup [evtA (takeP C f).2.1, bA (takeP C f).2.2]) fun y hy => ?_
  have hn0 := hC.n0
  cases hres : aget (cmap y.L) f.token with
  | none =>
    have he : takeP C f = (C, noev, false) := by unfold takeP; rw [split_none hy hres]; simp
    refine a_enter hT [ptrA g 10, frA f] [10, 11, 14, 13] Try.func19 rfl rfl rfl ⟨rfl, ⟨rfl, rfl, rfl, rfl, rfl, rfl, rfl, rfl, rfl, trivial⟩, trivial⟩ fun c => ?_
    refine a_box hT 20 rfl rfl rfl rfl fun g1 => ?_
    refine a_new hT hZ 21 rfl rfl rfl rfl fun g2 => ?_
    refine a_draw hT [] false [(0, false), (1, true), (2, true), (3, true), (4, true), (5, true), (6, true), (7, true), (8, true), (9, true), (10, true), (11, true), (12, true), (13, false), (14, false), (15, true), (16, true), (17, true), (18, true), (19, true), (20, true)] rfl rfl (by kernel_rfl) (by kernel_rfl) rfl ?_
    refine a_callZ hT rfl rfl rfl (by kernel_rfl) none_spec [10] [] [] rfl rfl rfl ⟨rfl, trivial⟩ trivial (by rintro _ _ ⟨rfl, rfl⟩; exact ⟨inferInstance, inferInstance⟩) ?_
    rintro _ _ ⟨rfl, rfl⟩
    refine a_g hT rfl rfl rfl (fun h1 => ?_) (fun h1 => ?_)
    · have h1 := eq_of_beq h1
      (exfalso; first | omega | contradiction)
    · have h1 := ne_of_beq_false h1
      refine a_call hT rfl rfl rfl (by kernel_rfl) (formed_spec (f := f)) [] [] rfl rfl ?_
      rintro _ _ ⟨rfl, rfl⟩
      refine a_g hT rfl rfl rfl (fun h2 => ?_) (fun h2 => ?_)
      · simp at h2
        refine a_gt hT rfl rfl rfl rfl ?_
        refine a_t hT rfl rfl rfl ?_
        refine a_build hT hZ [.v (Value.int IntKind.i64 0) 0, .v (Value.int IntKind.i64 0) 0, .v (Value.int IntKind.u64 0) 0, .v (Value.int IntKind.i64 0) 0, .v (Value.int IntKind.i64 0) 0, .v (Value.slice none 0 0) 0] rfl rfl rfl rfl rfl rfl ?_
        refine a_ret hT [10, 11, 14, 13] rfl rfl rfl rfl rfl rfl ?_
        exact ⟨_, _, C, nofit2, Ent.refl _, cl_pack hy, by rw [he], by rw [he]⟩
      · simp at h2
        refine a_g hT rfl rfl rfl (fun h3 => ?_) (fun h3 => ?_)
        · have h3 := bne_iff_ne.1 h3
          refine a_t hT rfl rfl rfl ?_
          refine a_build hT hZ [.v (Value.int IntKind.i64 0) 0, .v (Value.int IntKind.i64 0) 0, .v (Value.int IntKind.u64 0) 0, .v (Value.int IntKind.i64 0) 0, .v (Value.int IntKind.i64 0) 0, .v (Value.slice none 0 0) 0] rfl rfl rfl rfl rfl rfl ?_
          refine a_ret hT [10, 11, 14, 13] rfl rfl rfl rfl rfl rfl ?_
          exact ⟨_, _, C, nofit2, Ent.refl _, cl_pack hy, by rw [he], by rw [he]⟩
        · simp at h3
          refine a_if hT rfl rfl (fun h4 => ?_) (fun h4 => ?_)
          · have h4 := bne_iff_ne.1 h4
            refine a_build hT hZ [.v (Value.int IntKind.i64 0) 0, .v (Value.int IntKind.i64 0) 0, .v (Value.int IntKind.u64 0) 0, .v (Value.int IntKind.i64 0) 0, .v (Value.int IntKind.i64 0) 0, .v (Value.slice none 0 0) 0] rfl rfl rfl rfl rfl rfl ?_
            refine a_ret hT [10, 11, 14, 13] rfl rfl rfl rfl rfl rfl ?_
            exact ⟨_, _, C, nofit2, Ent.refl _, cl_pack hy, by rw [he], by rw [he]⟩
          · simp at h4
            refine a_draw hT [11] false [(0, false), (1, false), (2, false), (3, false), (4, false), (5, false), (6, true), (7, true)] rfl rfl (by kernel_rfl) (by kernel_rfl) rfl ?_
            refine a_lookG hT (kv := kU) (va := bV40) _ _ _ rfl rfl rfl mtK kU_ok zeroK rfl rfl rfl rfl rfl (by assumption) ?_
            refine a_draw hT [] false [(0, false), (1, false), (2, false), (3, false), (4, false), (5, false), (6, false), (7, false), (8, false), (9, false), (10, false), (11, false), (13, false), (14, false), (12, true), (15, true), (16, true)] rfl rfl (by kernel_rfl) (by kernel_rfl) rfl ?_
            refine a_gt hT rfl rfl rfl rfl ?_
            refine a_gt hT rfl rfl rfl rfl ?_
            refine a_t hT rfl rfl rfl ?_
            refine a_build hT hZ [.v (Value.int IntKind.i64 0) 0, .v (Value.int IntKind.i64 0) 0, .v (Value.int IntKind.u64 0) 0, .v (Value.int IntKind.i64 0) 0, .v (Value.int IntKind.i64 0) 0, .v (Value.slice none 0 0) 0] rfl rfl rfl rfl rfl rfl ?_
            refine a_ret hT [10, 11, 14, 13] rfl rfl rfl rfl rfl rfl ?_
            exact ⟨_, _, C, nofit2, Ent.refl _, cl_pack hy, by rw [he], by rw [he]⟩
  | some b =>
    obtain ⟨x, a, c, hs⟩ := split_some hC hy hres
    have hx := hC.c x hs.i
    refine FSpec.ent ?_ (split_open hs)
    refine a_enter hT [ptrA g 10, frA f] [10, 11, 40, 14, 13] Try.func19 rfl rfl rfl ⟨rfl, ⟨rfl, rfl, rfl, rfl, rfl, rfl, rfl, rfl, rfl, trivial⟩, trivial⟩ fun c => ?_
    refine a_box hT 41 rfl rfl rfl rfl fun g1 => ?_
    refine a_new hT hZ 42 rfl rfl rfl rfl fun g2 => ?_
    refine a_draw hT [] false [(0, false), (1, true), (2, true), (3, true), (4, true), (5, true), (6, true), (7, true), (8, true), (9, true), (10, true), (11, true), (12, true), (13, false), (14, false), (15, true), (16, true), (17, true), (18, true), (19, true), (20, true)] rfl rfl (by kernel_rfl) (by kernel_rfl) rfl ?_
    refine a_callZ hT rfl rfl rfl (by kernel_rfl) none_spec [10] [] [] rfl rfl rfl ⟨rfl, trivial⟩ trivial (by rintro _ _ ⟨rfl, rfl⟩; exact ⟨inferInstance, inferInstance⟩) ?_
    rintro _ _ ⟨rfl, rfl⟩
    refine a_g hT rfl rfl rfl (fun h1 => ?_) (fun h1 => ?_)
    · have h1 := eq_of_beq h1
      (exfalso; first | omega | contradiction)
    · have h1 := ne_of_beq_false h1
      refine a_call hT rfl rfl rfl (by kernel_rfl) (formed_spec (f := f)) [] [] rfl rfl ?_
      rintro _ _ ⟨rfl, rfl⟩
      refine a_g hT rfl rfl rfl (fun h2 => ?_) (fun h2 => ?_)
      · simp at h2
        refine a_gt hT rfl rfl rfl rfl ?_
        refine a_t hT rfl rfl rfl ?_
        refine a_build hT hZ [.v (Value.int IntKind.i64 0) 0, .v (Value.int IntKind.i64 0) 0, .v (Value.int IntKind.u64 0) 0, .v (Value.int IntKind.i64 0) 0, .v (Value.int IntKind.i64 0) 0, .v (Value.slice none 0 0) 0] rfl rfl rfl rfl rfl rfl ?_
        refine a_ret hT [10, 11, 40, 14, 13] rfl rfl rfl rfl rfl rfl ?_
        first | (have he := take_no hs.f (by first | exact .inl (by assumption) | exact .inr (.inl (by assumption)) | exact .inr (.inr (.inl (by assumption))) | exact .inr (.inr (.inr (.inl (by assumption)))) | exact .inr (.inr (.inr (.inr (by assumption))))); exact ⟨_, _, C, nofit2, split_close hs, cl_pack hy, by rw [he], by rw [he]⟩) | (have he := take_yes hs.f (by assumption) (by assumption) (by assumption) (by assumption) (by assumption); exact ⟨_, _, C.drop f.token, ⟨⟨rfl, rfl, rfl, rfl, rfl, rfl, trivial⟩, rfl, trivial⟩, Ent.refl _, split_shut hs, by rw [he], by rw [he, hs.tt]⟩)
      · simp at h2
        refine a_g hT rfl rfl rfl (fun h3 => ?_) (fun h3 => ?_)
        · have h3 := bne_iff_ne.1 h3
          refine a_t hT rfl rfl rfl ?_
          refine a_build hT hZ [.v (Value.int IntKind.i64 0) 0, .v (Value.int IntKind.i64 0) 0, .v (Value.int IntKind.u64 0) 0, .v (Value.int IntKind.i64 0) 0, .v (Value.int IntKind.i64 0) 0, .v (Value.slice none 0 0) 0] rfl rfl rfl rfl rfl rfl ?_
          refine a_ret hT [10, 11, 40, 14, 13] rfl rfl rfl rfl rfl rfl ?_
          first | (have he := take_no hs.f (by first | exact .inl (by assumption) | exact .inr (.inl (by assumption)) | exact .inr (.inr (.inl (by assumption))) | exact .inr (.inr (.inr (.inl (by assumption)))) | exact .inr (.inr (.inr (.inr (by assumption))))); exact ⟨_, _, C, nofit2, split_close hs, cl_pack hy, by rw [he], by rw [he]⟩) | (have he := take_yes hs.f (by assumption) (by assumption) (by assumption) (by assumption) (by assumption); exact ⟨_, _, C.drop f.token, ⟨⟨rfl, rfl, rfl, rfl, rfl, rfl, trivial⟩, rfl, trivial⟩, Ent.refl _, split_shut hs, by rw [he], by rw [he, hs.tt]⟩)
        · simp at h3
          refine a_if hT rfl rfl (fun h4 => ?_) (fun h4 => ?_)
          · have h4 := bne_iff_ne.1 h4
            refine a_build hT hZ [.v (Value.int IntKind.i64 0) 0, .v (Value.int IntKind.i64 0) 0, .v (Value.int IntKind.u64 0) 0, .v (Value.int IntKind.i64 0) 0, .v (Value.int IntKind.i64 0) 0, .v (Value.slice none 0 0) 0] rfl rfl rfl rfl rfl rfl ?_
            refine a_ret hT [10, 11, 40, 14, 13] rfl rfl rfl rfl rfl rfl ?_
            first | (have he := take_no hs.f (by first | exact .inl (by assumption) | exact .inr (.inl (by assumption)) | exact .inr (.inr (.inl (by assumption))) | exact .inr (.inr (.inr (.inl (by assumption)))) | exact .inr (.inr (.inr (.inr (by assumption))))); exact ⟨_, _, C, nofit2, split_close hs, cl_pack hy, by rw [he], by rw [he]⟩) | (have he := take_yes hs.f (by assumption) (by assumption) (by assumption) (by assumption) (by assumption); exact ⟨_, _, C.drop f.token, ⟨⟨rfl, rfl, rfl, rfl, rfl, rfl, trivial⟩, rfl, trivial⟩, Ent.refl _, split_shut hs, by rw [he], by rw [he, hs.tt]⟩)
          · simp at h4
            refine a_draw hT [11] false [(0, false), (1, false), (2, false), (3, false), (4, false), (5, false), (6, true), (7, true)] rfl rfl (by kernel_rfl) (by kernel_rfl) rfl ?_
            refine a_lookG hT (kv := kU) (va := bV40) _ _ _ rfl rfl rfl mtK kU_ok zeroK rfl rfl rfl rfl rfl (by assumption) ?_
            refine a_draw hT [] false [(0, false), (1, false), (2, false), (3, false), (4, false), (5, false), (6, false), (7, false), (8, false), (9, false), (10, false), (11, false), (13, false), (14, false), (12, true), (15, true), (16, true)] rfl rfl (by kernel_rfl) (by kernel_rfl) rfl ?_
            refine a_gf hT rfl rfl rfl rfl ?_
            refine a_g hT rfl rfl rfl (fun h5 => ?_) (fun h5 => ?_)
            · have h5 := bne_iff_ne.1 h5
              refine a_t hT rfl rfl rfl ?_
              refine a_build hT hZ [.v (Value.int IntKind.i64 0) 0, .v (Value.int IntKind.i64 0) 0, .v (Value.int IntKind.u64 0) 0, .v (Value.int IntKind.i64 0) 0, .v (Value.int IntKind.i64 0) 0, .v (Value.slice none 0 0) 0] rfl rfl rfl rfl rfl rfl ?_
              refine a_ret hT [10, 11, 40, 14, 13] rfl rfl rfl rfl rfl rfl ?_
              first | (have he := take_no hs.f (by first | exact .inl (by assumption) | exact .inr (.inl (by assumption)) | exact .inr (.inr (.inl (by assumption))) | exact .inr (.inr (.inr (.inl (by assumption)))) | exact .inr (.inr (.inr (.inr (by assumption))))); exact ⟨_, _, C, nofit2, split_close hs, cl_pack hy, by rw [he], by rw [he]⟩) | (have he := take_yes hs.f (by assumption) (by assumption) (by assumption) (by assumption) (by assumption); exact ⟨_, _, C.drop f.token, ⟨⟨rfl, rfl, rfl, rfl, rfl, rfl, trivial⟩, rfl, trivial⟩, Ent.refl _, split_shut hs, by rw [he], by rw [he, hs.tt]⟩)
            · simp at h5
              refine a_lit hT 43 rfl rfl rfl rfl (by kernel_rfl) rfl rfl rfl rfl fun x43 => ?_
              refine a_callZ hT rfl rfl rfl (by kernel_rfl) (contains_spec (l := [1, 4, 14]) (by first | assumption | rfl | decide | omega | (dsimp only; omega)) (h := 0)) [43] [] [] rfl rfl rfl ⟨rfl, rfl, trivial⟩ trivial (by rintro _ _ ⟨rfl, rfl⟩; exact ⟨inferInstance, inferInstance⟩) ?_
              rintro _ _ ⟨rfl, rfl⟩
              refine a_if hT rfl rfl (fun h6 => ?_) (fun h6 => ?_)
              · have h6 := of_decide_eq_true h6
                refine a_build hT hZ [.v (Value.int IntKind.i64 0) 0, .v (Value.int IntKind.i64 0) 0, .v (Value.int IntKind.u64 0) 0, .v (Value.int IntKind.i64 0) 0, .v (Value.int IntKind.i64 0) 0, .v (Value.slice none 0 0) 0] rfl rfl rfl rfl rfl rfl ?_
                refine a_ret hT [10, 11, 40, 14, 13] rfl rfl rfl rfl rfl rfl ?_
                first | (have he := take_no hs.f (by first | exact .inl (by assumption) | exact .inr (.inl (by assumption)) | exact .inr (.inr (.inl (by assumption))) | exact .inr (.inr (.inr (.inl (by assumption)))) | exact .inr (.inr (.inr (.inr (by assumption))))); exact ⟨_, _, C, nofit2, split_close hs, cl_pack hy, by rw [he], by rw [he]⟩) | (have he := take_yes hs.f (by assumption) (by assumption) (by assumption) (by assumption) (by assumption); exact ⟨_, _, C.drop f.token, ⟨⟨rfl, rfl, rfl, rfl, rfl, rfl, trivial⟩, rfl, trivial⟩, Ent.refl _, split_shut hs, by rw [he], by rw [he, hs.tt]⟩)
              · have h6 := of_decide_eq_false h6
                refine a_call hT rfl rfl rfl (by kernel_rfl) (ccomplete_spec (x := x) (bs := f.pay) hC.dn (show (due C.calls).length < 999999 by unfold due; rw [List.length_map]; have := hC.len1 hl1; omega) hf) [10, 11, 40, 13] [10, 11, 40, 13] rfl rfl ?_
                rintro _ _ ⟨rfl, rfl⟩
                refine a_ret hT [10, 11, 14, 13] rfl rfl rfl rfl rfl rfl ?_
                have he := take_yes hs.f (by assumption) (by assumption) (by assumption) (by assumption) (by assumption)
                exact ⟨.tup [evtA ⟨3, C.num, x.tok, x.meth, f.status, f.pay⟩, bA true], _, C.drop f.token, ⟨⟨rfl, rfl, rfl, rfl, rfl, rfl, trivial⟩, rfl, trivial⟩, Ent.refl _, split_shut hs, by rw [he], by rw [he, hs.tt]⟩
end Go.Proofs.Ytepjnmocepkfjaa
end

section
/- Layer 23's client: what stays so; Floor; no client. -/
set_option linter.unusedVariables false
set_option linter.unusedSimpArgs false
set_option maxRecDepth 100000
namespace Go.Proofs.Ytepjnmocepkfjaa
open V A
theorem CP.ok.mono {x : CP} {l l' : Int} (h : x.ok l) (hl : l ≤ l') : x.ok l' := ⟨h.t1, Int.le_trans h.t2 hl, h.m1, h.m2, h.a, h.d, h.m, h.md, h.a1, h.a2⟩
theorem CS.ok.drop {C : CS} (hC : C.ok) (t : Int) : (C.drop t).ok := by
  refine ⟨hC.n0, ?_, fun x hx => hC.c x (List.mem_filter.1 hx).1, hC.l0, hC.l1⟩
  have h1 : ((C.drop t).calls).Sublist C.calls := List.filter_sublist
  exact hC.s.sublist (h1.map _)
theorem callP_ok {C : CS} (hC : C.ok) (hl : C.last < 900000) (meth : Int) (arg : List UInt8) (dl now : Int) : (callP C meth arg dl now).1.ok ∧ (callP C meth arg dl now).1.last ≤ C.last + 1 ∧ (callP C meth arg dl now).1.num = C.num := by
  have h0 := hC.l0
  unfold callP
  split
  · exact ⟨hC, by simp only; omega, rfl⟩
  split
  · exact ⟨hC, by simp only; omega, rfl⟩
  split
  · exact ⟨hC, by simp only; omega, rfl⟩
  rename_i h1 h2 h3
  refine ⟨⟨hC.n0, ?_, ?_, by simp only; omega, by simp only; omega⟩, by simp only; omega, rfl⟩
  · show ((C.calls ++ [(⟨C.last + 1, meth, arg, dl, 0, now⟩ : CP)]).map (·.tok)).Pairwise (· < ·)
    rw [List.map_append, List.pairwise_append]
    refine ⟨hC.s, by simp, fun a ha b hb => ?_⟩
    obtain ⟨x, hx, rfl⟩ := List.mem_map.1 ha
    simp at hb
    subst hb
    have := (hC.c x hx).t2
    omega
  · intro x hx
    rcases List.mem_append.1 hx with hx | hx
    · exact (hC.c x hx).mono (by simp only; omega)
    · simp at hx
      subst hx
      exact ⟨by simp only; omega, by simp only; omega, by simp only; omega, by simp only; omega, by simp only; omega, by simp only; omega, by simp only; omega, by simp only; omega, by simp only; omega, by simp only; omega⟩
theorem cancelP_ok {C : CS} (hC : C.ok) (t : Int) : (cancelP C t).1.ok ∧ (cancelP C t).1.last = C.last ∧ (cancelP C t).1.num = C.num := by
  unfold cancelP
  split
  · exact ⟨hC, rfl, rfl⟩
  · exact ⟨hC.drop t, rfl, rfl⟩
theorem takeP_ok {C : CS} (hC : C.ok) (f : Fr) : (takeP C f).1.ok ∧ (takeP C f).1.last = C.last ∧ (takeP C f).1.num = C.num := by
  unfold takeP
  split
  · exact ⟨hC, rfl, rfl⟩
  split
  · exact ⟨hC, rfl, rfl⟩
  split
  · exact ⟨hC, rfl, rfl⟩
  · exact ⟨hC.drop _, rfl, rfl⟩
theorem CS.ok.zero {num : Int} (h : num ≠ 0) : CS.ok ⟨num, 0, []⟩ := ⟨h, by simp, by simp, by simp, by simp⟩
/-- Floor, of what is one's own. -/
theorem cfloorO_spec {g h : Nat} {num last : Int} {gm gt : Nat} {L : List (Nat × CP)} (hn : num ≠ 0) (hs : (L.map (·.2.tok)).Pairwise (· < ·)) (hl : ∀ p ∈ L, p.2.tok ≤ last) (hl0 : 0 ≤ last) (hl1 : last < 1000000) : FSpec Try.prog 13 [ptrA g h] [cliBlk g num last gm gt, cmapC gm L] fun a cs => a = .v (kU (floorP last L)) 0 ∧ cs = [cliBlk g num last gm gt, cmapC gm L] := by
  refine a_enter hT [ptrA g 10] [10, 11] Try.func13 rfl rfl rfl ⟨rfl, trivial⟩ fun c => ?_
  refine a_callZ hT rfl rfl rfl (by kernel_rfl) none_spec [10] [] [] rfl rfl rfl ⟨rfl, trivial⟩ trivial (by rintro _ _ ⟨rfl, rfl⟩; exact ⟨inferInstance, inferInstance⟩) ?_
  rintro _ _ ⟨rfl, rfl⟩
  refine a_f hT rfl rfl (by simpa using hn) ?_
  refine a_rangeG hT (kv := kU) (va := bV40) (cmap L) rfl rfl rfl mtK rfl rfl rfl rfl fun it => ?_
  have hw : IntKind.u64.wrap (last + 1) = last + 1 := wrapU (by omega) (by omega)
  refine a_loop hT [3, 16] (fun x : List (Bool × (Int × Nat)) × Option (Value × AV) × Int => [.v (kU x.2.2) 0, .v (.pointer (some ⟨it, 0, none⟩)) 11]) (fun x => [(11, .ext (iterA gm it (iterG kU bV40 x.1) x.2.1)), (10, cliBlk g num last gm gt)])
    (fun x => x.1.map (·.2) = cmap L ∧ x.2.2 ≤ last + 1 ∧ (∀ q ∈ x.1, q.1 = true → x.2.2 ≤ q.2.1) ∧ (x.2.2 = last + 1 ∨ ∃ q ∈ x.1, x.2.2 = q.2.1)) (fun x => left x.1) ((cmap L).map fun p => (false, p), none, last + 1) [11, 10] rfl rfl ⟨by simp [List.map_map, Function.comp_def], Int.le_refl _, by simp, .inl rfl⟩ ⟨by rw [hw]; rfl, rfl, trivial⟩ rfl ⟨rfl, ⟨rfl, rfl, ⟨rfl, rfl, rfl, rfl, trivial⟩⟩, trivial⟩ ?_
  rintro ⟨l, cur, m⟩ ⟨h1, h2, h3, h4⟩
  refine a_inextG hT (kv := kU) (va := bV40) l rfl rfl rfl rfl rfl rfl rfl (fun hq => ?_) (fun i k b hi => ?_)
  · refine a_f hT rfl rfl rfl ?_
    refine a_iendG 11 (kv := kU) (va := bV40) l rfl rfl rfl ?_
    have h1' : l.map (·.2) = cmap L := h1
    refine a_ret hT [10, 11] rfl rfl rfl rfl rfl rfl ⟨?_, by rw [h1']⟩
    refine congrArg (fun x => AV.v (kU x) 0) (floor_min hs hl (fun t ht => ?_) h2 ?_)
    · obtain ⟨b, hb⟩ := ht
      rw [← h1'] at hb
      obtain ⟨q, hq', e⟩ := List.mem_map.1 hb
      have := h3 q hq' (hq q hq')
      rw [e] at this
      exact this
    · refine h4.imp id fun ⟨q, hq', e⟩ => ⟨q.2.2, ?_⟩
      rw [← h1']
      exact List.mem_map.2 ⟨q, hq', by rw [show m = q.2.1 from e]⟩
  · refine a_t hT rfl rfl rfl ?_
    refine a_ientry hT rfl rfl rfl rfl rfl rfl ?_
    have hset := (List.getElem?_eq_some_iff.1 hi).1
    have e2 : (l.set i (true, (k, b))).map (·.2) = l.map (·.2) := map_set_same (y := (true, (k, b))) _ hi rfl
    refine a_next hT (l.set i (true, (k, b)), some (kU k, bV40 b), if k < m then k else m) [11, 10] rfl rfl ⟨⟨?_, ?_, ?_, ?_⟩, ?_⟩ ⟨rfl, rfl, trivial⟩ rfl ⟨rfl, ⟨rfl, rfl, ⟨rfl, rfl, rfl, rfl, trivial⟩⟩, trivial⟩
    · show (l.set i (true, (k, b))).map (·.2) = cmap L
      rw [e2]; exact h1
    · show (if k < m then k else m) ≤ last + 1
      have : m ≤ last + 1 := h2
      split <;> omega
    · intro q hq hq1
      show (if k < m then k else m) ≤ q.2.1
      rcases List.mem_or_eq_of_mem_set hq with hq | rfl
      · have : m ≤ q.2.1 := h3 q hq hq1
        split <;> omega
      · show (if k < m then k else m) ≤ k
        split <;> omega
    · show (if k < m then k else m) = last + 1 ∨ ∃ q ∈ l.set i (true, (k, b)), (if k < m then k else m) = q.2.1
      split
      · exact .inr ⟨(true, (k, b)), List.mem_set hset _, rfl⟩
      · refine h4.imp id fun ⟨q, hq', e⟩ => ?_
        have hm : q.2 ∈ (l.set i (true, (k, b))).map (·.2) := by rw [e2]; exact List.mem_map.2 ⟨q, hq', rfl⟩
        obtain ⟨q2, hq2, e3⟩ := List.mem_map.1 hm
        exact ⟨q2, hq2, by rw [e3]; exact e⟩
    · show left (l.set i (true, (k, b))) < left l
      have := left_set hi (k, b)
      omega
theorem cfloorT_spec {g h : Nat} {C : CS} (hC : C.ok) : FSpec Try.prog 13 [ptrA g h] [.ext (cliA g C)] fun a cs => ∃ C', (a = .v (kU C.fl) 0 ∧ C' = C) ∧ cs = [.ext (cliA g C')] := by
  refine cl_spec (R := fun a C' => a = .v (kU C.fl) 0 ∧ C' = C) fun y hy => ?_
  refine ((cfloorO_spec (gm := y.gm) (gt := y.gt) (L := y.L) hC.n0 (hC.pw hy) (hC.le hy) hC.l0 hC.l1).frame [.ext (listA (callsC y.L)), .ext (tmA y.gt (due C.calls))]).mono fun a cs h => ?_
  obtain ⟨cs1, rfl, rfl, rfl⟩ := h
  exact ⟨_, CX.cs g C y, C, Fit.refl _, Ent.refl _, cl_pack hy, by rw [CS.fl_eq hy], rfl⟩
theorem ncall_spec {meth dl now : Int} {arg : List UInt8} {h h1 h2 h3 : Nat} : FSpec Try.prog 11 [.v (.pointer none) h, .v (kI meth) h1, .d (A.bytesD arg), .v (kI dl) h2, .v (kI now) h3] [] fun a cs => a = .tup [evtA noev, frA nofr, .v (kI 1) 0] ∧ cs = [] := by
  refine spec_fit ?_
  refine a_enter hT [.v (.pointer none) 0, .v (kI meth) 0, .d (A.bytesD arg), .v (kI dl) 0, .v (kI now) 0] [] Try.func11 rfl rfl rfl ⟨rfl, rfl, rfl, rfl, rfl, trivial⟩ fun c => ?_
  refine a_new hT hZ 20 rfl rfl rfl rfl fun g => ?_
  refine a_new hT hZ 21 rfl rfl rfl rfl fun g1 => ?_
  refine a_call hT rfl rfl rfl (by kernel_rfl) none_nil [] [] rfl rfl ?_
  rintro _ _ ⟨rfl, rfl⟩
  refine a_gt hT rfl rfl rfl rfl ?_
  refine a_gt hT rfl rfl rfl rfl ?_
  refine a_gt hT rfl rfl rfl rfl ?_
  refine a_t hT rfl rfl rfl ?_
  refine a_build hT hZ [.v (Value.int IntKind.i64 0) 0, .v (Value.int IntKind.i64 0) 0, .v (Value.int IntKind.u64 0) 0, .v (Value.int IntKind.i64 0) 0, .v (Value.int IntKind.i64 0) 0, .v (Value.slice none 0 0) 0] rfl rfl rfl rfl rfl rfl ?_
  refine a_build hT hZ [.v (Value.int IntKind.i64 0) 0, .v (Value.int IntKind.i64 0) 0, .v (Value.int IntKind.u64 0) 0, .v (Value.int IntKind.i64 0) 0, .v (Value.int IntKind.u64 0) 0, .v (Value.int IntKind.i64 0) 0, .v (Value.int IntKind.i64 0) 0, .v (Value.int IntKind.i64 0) 0, .v (Value.slice none 0 0) 0] rfl rfl rfl rfl rfl rfl ?_
  refine a_ret hT [] rfl rfl rfl rfl rfl rfl ?_
  exact ⟨.tup [evtA noev, frA nofr, .v (kI 1) 0], [], [], ⟨⟨rfl, rfl, rfl, rfl, rfl, ⟨rfl, rfl⟩, trivial⟩, ⟨rfl, rfl, rfl, rfl, rfl, rfl, rfl, rfl, ⟨rfl, rfl⟩, trivial⟩, rfl, trivial⟩, Ent.refl _, rfl, rfl⟩
theorem ncancel_spec {t now : Int} {h h1 h2 : Nat} : FSpec Try.prog 12 [.v (.pointer none) h, .v (kU t) h1, .v (kI now) h2] [] fun a cs => a = .tup [evtA noev, frA nofr, bA false] ∧ cs = [] := by
  refine spec_fit ?_
  refine a_enter hT [.v (.pointer none) 0, .v (kU t) 0, .v (kI now) 0] [] Try.func12 rfl rfl rfl ⟨rfl, rfl, rfl, trivial⟩ fun c => ?_
  refine a_new hT hZ 20 rfl rfl rfl rfl fun g => ?_
  refine a_new hT hZ 21 rfl rfl rfl rfl fun g1 => ?_
  refine a_call hT rfl rfl rfl (by kernel_rfl) none_nil [] [] rfl rfl ?_
  rintro _ _ ⟨rfl, rfl⟩
  refine a_gt hT rfl rfl rfl rfl ?_
  refine a_t hT rfl rfl rfl ?_
  refine a_build hT hZ [.v (Value.int IntKind.i64 0) 0, .v (Value.int IntKind.i64 0) 0, .v (Value.int IntKind.u64 0) 0, .v (Value.int IntKind.i64 0) 0, .v (Value.int IntKind.i64 0) 0, .v (Value.slice none 0 0) 0] rfl rfl rfl rfl rfl rfl ?_
  refine a_build hT hZ [.v (Value.int IntKind.i64 0) 0, .v (Value.int IntKind.i64 0) 0, .v (Value.int IntKind.u64 0) 0, .v (Value.int IntKind.i64 0) 0, .v (Value.int IntKind.u64 0) 0, .v (Value.int IntKind.i64 0) 0, .v (Value.int IntKind.i64 0) 0, .v (Value.int IntKind.i64 0) 0, .v (Value.slice none 0 0) 0] rfl rfl rfl rfl rfl rfl ?_
  refine a_ret hT [] rfl rfl rfl rfl rfl rfl ?_
  exact ⟨_, [], [], nofit, Ent.refl _, rfl, rfl⟩
theorem ntake_spec {f : Fr} {h : Nat} : FSpec Try.prog 19 [.v (.pointer none) h, frA f] [] fun a cs => a = .tup [evtA noev, bA false] ∧ cs = [] := by
  refine spec_fit ?_
  refine a_enter hT [.v (.pointer none) 0, frA f] [] Try.func19 rfl rfl rfl ⟨rfl, ⟨rfl, rfl, rfl, rfl, rfl, rfl, rfl, rfl, rfl, trivial⟩, trivial⟩ fun c => ?_
  refine a_box hT 20 rfl rfl rfl rfl fun g => ?_
  refine a_new hT hZ 21 rfl rfl rfl rfl fun g1 => ?_
  refine a_draw hT [] false [(0, false), (1, true), (2, true), (3, true), (4, true), (5, true), (6, true), (7, true), (8, true), (9, true), (10, true), (11, true), (12, true), (13, false), (14, false), (15, true), (16, true), (17, true), (18, true), (19, true), (20, true)] rfl rfl (by kernel_rfl) (by kernel_rfl) rfl ?_
  refine a_call hT rfl rfl rfl (by kernel_rfl) none_nil [] [] rfl rfl ?_
  rintro _ _ ⟨rfl, rfl⟩
  refine a_gt hT rfl rfl rfl rfl ?_
  refine a_gt hT rfl rfl rfl rfl ?_
  refine a_gt hT rfl rfl rfl rfl ?_
  refine a_t hT rfl rfl rfl ?_
  refine a_build hT hZ [.v (Value.int IntKind.i64 0) 0, .v (Value.int IntKind.i64 0) 0, .v (Value.int IntKind.u64 0) 0, .v (Value.int IntKind.i64 0) 0, .v (Value.int IntKind.i64 0) 0, .v (Value.slice none 0 0) 0] rfl rfl rfl rfl rfl rfl ?_
  refine a_ret hT [] rfl rfl rfl rfl rfl rfl ?_
  exact ⟨_, [], [], nofit2, Ent.refl _, rfl, rfl⟩
theorem ntick_spec {now : Int} {h h1 : Nat} : FSpec Try.prog 14 [.v (.pointer none) h, .v (kI now) h1] [] fun a cs => a = .tup [.v (.slice none 0 0) 0, .v (.slice none 0 0) 0] ∧ cs = [] := by
  refine a_enter hT [.v (.pointer none) 0, .v (kI now) 0] [] Try.func14 rfl rfl rfl ⟨rfl, rfl, trivial⟩ fun c => ?_
  refine a_call hT rfl rfl rfl (by kernel_rfl) none_nil [] [] rfl rfl ?_
  rintro _ _ ⟨rfl, rfl⟩
  refine a_t hT rfl rfl rfl ?_
  refine a_ret hT [] rfl rfl rfl rfl rfl rfl ?_
  first | exact ⟨rfl, rfl⟩ | rfl
theorem nwake_spec {h : Nat} : FSpec Try.prog 24 [.v (.pointer none) h] [] fun a cs => a = .tup [.v (kI 0) 0, bA false] ∧ cs = [] := by
  refine a_enter hT [.v (.pointer none) 0] [] Try.func24 rfl rfl rfl ⟨rfl, trivial⟩ fun c => ?_
  refine a_call hT rfl rfl rfl (by kernel_rfl) none_nil [] [] rfl rfl ?_
  rintro _ _ ⟨rfl, rfl⟩
  refine a_t hT rfl rfl rfl ?_
  refine a_ret hT [] rfl rfl rfl rfl rfl rfl ?_
  first | exact ⟨rfl, rfl⟩ | rfl
theorem nopen_spec {h : Nat} : FSpec Try.prog 16 [.v (.pointer none) h] [] fun a cs => a = .v (.slice none 0 0) 0 ∧ cs = [] := by
  refine a_enter hT [.v (.pointer none) 0] [] Try.func16 rfl rfl rfl ⟨rfl, trivial⟩ fun c => ?_
  refine a_call hT rfl rfl rfl (by kernel_rfl) none_nil [] [] rfl rfl ?_
  rintro _ _ ⟨rfl, rfl⟩
  refine a_t hT rfl rfl rfl ?_
  refine a_ret hT [] rfl rfl rfl rfl rfl rfl ?_
  first | exact ⟨rfl, rfl⟩ | rfl
theorem nfloor_spec {h : Nat} : FSpec Try.prog 13 [.v (.pointer none) h] [] fun a cs => a = .v (kU 0) 0 ∧ cs = [] := by
  refine a_enter hT [.v (.pointer none) 0] [] Try.func13 rfl rfl rfl ⟨rfl, trivial⟩ fun c => ?_
  refine a_call hT rfl rfl rfl (by kernel_rfl) none_nil [] [] rfl rfl ?_
  rintro _ _ ⟨rfl, rfl⟩
  refine a_t hT rfl rfl rfl ?_
  refine a_ret hT [] rfl rfl rfl rfl rfl rfl ?_
  first | exact ⟨rfl, rfl⟩ | rfl
end Go.Proofs.Ytepjnmocepkfjaa
end

section
/- Layer 23's laws: awake. -/
set_option linter.unusedVariables false
set_option linter.unusedSimpArgs false
set_option maxRecDepth 100000
namespace Go.Proofs.Ytepjnmocepkfjaa
open V A
theorem cawake_spec : FSpec Try.prog 9 [] [] fun a cs => a = bA true ∧ cs = [] := by
  refine a_enter hT [] [] Try.func9 rfl rfl rfl trivial fun c => ?_
  refine a_call hT rfl rfl rfl (by kernel_rfl) (cnew_spec (by decide) (by decide)) [] [20] rfl rfl ?_
  rintro _ _ ⟨g, rfl, rfl⟩
  refine a_callF hT rfl rfl rfl (by kernel_rfl) (ccall_spec (C := ⟨1, 0, []⟩) (meth := 1) (arg := []) (dl := 10) (now := 0) (CS.ok.zero (by decide)) (by decide) (by decide) (h := 10) (h1 := 0) (h2 := 0) (h3 := 0)) [20] [20] ⟨rfl, rfl, ⟨rfl, rfl⟩, rfl, rfl, trivial⟩ rfl ⟨rfl, trivial⟩ ?_
  rintro _ _ ⟨C', ⟨rfl, rfl⟩, rfl⟩
  refine a_new hT hZ 21 rfl rfl rfl rfl fun g1 => ?_
  refine a_new hT hZ 22 rfl rfl rfl rfl fun g2 => ?_
  refine a_gt hT rfl rfl rfl rfl ?_
  refine a_gt hT rfl rfl rfl rfl ?_
  refine a_ret hT [] rfl rfl rfl rfl rfl rfl ?_
  first | exact ⟨rfl, rfl⟩ | rfl
end Go.Proofs.Ytepjnmocepkfjaa
end

section
/- Layer 23's laws: their scripts; Few; the document's Formed. -/
set_option linter.unusedVariables false
set_option linter.unusedSimpArgs false
set_option maxRecDepth 100000
namespace Go.Proofs.Ytepjnmocepkfjaa
open V A
def formedR (f : Fr) : Prop := (1 ≤ f.kind ∧ f.kind ≤ 3) ∧ (1 ≤ f.client ∧ f.client ≤ 2147483647) ∧ 1 ≤ f.token ∧ (0 ≤ f.attempt ∧ f.attempt ≤ 5) ∧ (1 ≤ f.floor ∧ f.floor ≤ f.token) ∧ (0 ≤ f.method ∧ f.method ≤ 2147483647) ∧ (0 ≤ f.deadline ∧ f.deadline ≤ 1099511627776) ∧ (0 ≤ f.status ∧ f.status ≤ 255) ∧ f.pay.length ≤ 4096 ∧ (f.kind = 3 → f.pay.length = 0) ∧ (f.kind = 2 ∨ f.status = 0)
instance (f : Fr) : Decidable (formedR f) := by unfold formedR; infer_instance
theorem formedR_spec {f : Fr} : FSpec Try.prog 18 [frA f] [] fun a cs => a = bA (decide (formedR f)) ∧ cs = [] := by
  have hl : ((f.pay.map eB).length : Int) = f.pay.length := by rw [List.length_map]
  refine a_enter hT [frA f] [] Try.func18 rfl rfl rfl ⟨⟨rfl, rfl, rfl, rfl, rfl, rfl, rfl, rfl, rfl, trivial⟩, trivial⟩ fun c => ?_
  refine a_box hT 20 rfl rfl rfl rfl fun g => ?_
  refine a_g hT rfl rfl rfl (fun h => ?_) (fun h => ?_)
  · have h := of_decide_eq_true h
    refine a_gt hT rfl rfl rfl rfl ?_
    refine a_gt hT rfl rfl rfl rfl ?_
    refine a_gt hT rfl rfl rfl rfl ?_
    refine a_gt hT rfl rfl rfl rfl ?_
    refine a_gt hT rfl rfl rfl rfl ?_
    refine a_gt hT rfl rfl rfl rfl ?_
    refine a_gt hT rfl rfl rfl rfl ?_
    refine a_t hT rfl rfl rfl ?_
    refine a_ret hT [] rfl rfl rfl rfl rfl rfl ?_
    first | exact bA_f (by unfold formedR; omega) | exact bA_t (by unfold formedR; omega)
  · have h := of_decide_eq_false h
    refine a_g hT rfl rfl rfl (fun h1 => ?_) (fun h1 => ?_)
    · have h1 := of_decide_eq_true h1
      refine a_gt hT rfl rfl rfl rfl ?_
      refine a_gt hT rfl rfl rfl rfl ?_
      refine a_gt hT rfl rfl rfl rfl ?_
      refine a_gt hT rfl rfl rfl rfl ?_
      refine a_gt hT rfl rfl rfl rfl ?_
      refine a_gt hT rfl rfl rfl rfl ?_
      refine a_t hT rfl rfl rfl ?_
      refine a_ret hT [] rfl rfl rfl rfl rfl rfl ?_
      first | exact bA_f (by unfold formedR; omega) | exact bA_t (by unfold formedR; omega)
    · have h1 := of_decide_eq_false h1
      refine a_g hT rfl rfl rfl (fun h2 => ?_) (fun h2 => ?_)
      · have h2 := of_decide_eq_true h2
        refine a_gt hT rfl rfl rfl rfl ?_
        refine a_gt hT rfl rfl rfl rfl ?_
        refine a_gt hT rfl rfl rfl rfl ?_
        refine a_gt hT rfl rfl rfl rfl ?_
        refine a_gt hT rfl rfl rfl rfl ?_
        refine a_t hT rfl rfl rfl ?_
        refine a_ret hT [] rfl rfl rfl rfl rfl rfl ?_
        first | exact bA_f (by unfold formedR; omega) | exact bA_t (by unfold formedR; omega)
      · have h2 := of_decide_eq_false h2
        refine a_g hT rfl rfl rfl (fun h3 => ?_) (fun h3 => ?_)
        · have h3 := of_decide_eq_true h3
          refine a_gt hT rfl rfl rfl rfl ?_
          refine a_gt hT rfl rfl rfl rfl ?_
          refine a_gt hT rfl rfl rfl rfl ?_
          refine a_gt hT rfl rfl rfl rfl ?_
          refine a_t hT rfl rfl rfl ?_
          refine a_ret hT [] rfl rfl rfl rfl rfl rfl ?_
          first | exact bA_f (by unfold formedR; omega) | exact bA_t (by unfold formedR; omega)
        · have h3 := of_decide_eq_false h3
          refine a_g hT rfl rfl rfl (fun h4 => ?_) (fun h4 => ?_)
          · have h4 := of_decide_eq_true h4
            refine a_gt hT rfl rfl rfl rfl ?_
            refine a_gt hT rfl rfl rfl rfl ?_
            refine a_gt hT rfl rfl rfl rfl ?_
            refine a_t hT rfl rfl rfl ?_
            refine a_ret hT [] rfl rfl rfl rfl rfl rfl ?_
            first | exact bA_f (by unfold formedR; omega) | exact bA_t (by unfold formedR; omega)
          · have h4 := of_decide_eq_false h4
            refine a_g hT rfl rfl rfl (fun h5 => ?_) (fun h5 => ?_)
            · have h5 := of_decide_eq_true h5
              refine a_gt hT rfl rfl rfl rfl ?_
              refine a_gt hT rfl rfl rfl rfl ?_
              refine a_t hT rfl rfl rfl ?_
              refine a_ret hT [] rfl rfl rfl rfl rfl rfl ?_
              first | exact bA_f (by unfold formedR; omega) | exact bA_t (by unfold formedR; omega)
            · have h5 := of_decide_eq_false h5
              refine a_g hT rfl rfl rfl (fun h6 => ?_) (fun h6 => ?_)
              · have h6 := of_decide_eq_true h6
                refine a_gt hT rfl rfl rfl rfl ?_
                refine a_t hT rfl rfl rfl ?_
                refine a_ret hT [] rfl rfl rfl rfl rfl rfl ?_
                first | exact bA_f (by unfold formedR; omega) | exact bA_t (by unfold formedR; omega)
              · have h6 := of_decide_eq_false h6
                refine a_g hT rfl rfl rfl (fun h7 => ?_) (fun h7 => ?_)
                · have h7 := of_decide_eq_true h7
                  refine a_t hT rfl rfl rfl ?_
                  refine a_ret hT [] rfl rfl rfl rfl rfl rfl ?_
                  first | exact bA_f (by unfold formedR; omega) | exact bA_t (by unfold formedR; omega)
                · have h7 := of_decide_eq_false h7
                  refine a_if hT rfl rfl (fun h8 => ?_) (fun h8 => ?_)
                  · have h8 := of_decide_eq_true h8
                    refine a_ret hT [] rfl rfl rfl rfl rfl rfl ?_
                    first | exact bA_f (by unfold formedR; omega) | exact bA_t (by unfold formedR; omega)
                  · have h8 := of_decide_eq_false h8
                    refine a_g hT rfl rfl rfl (fun h9 => ?_) (fun h9 => ?_)
                    · have h9 := of_decide_eq_true h9
                      refine a_gt hT rfl rfl rfl rfl ?_
                      refine a_gt hT rfl rfl rfl rfl ?_
                      refine a_gt hT rfl rfl rfl rfl ?_
                      refine a_gt hT rfl rfl rfl rfl ?_
                      refine a_gt hT rfl rfl rfl rfl ?_
                      refine a_t hT rfl rfl rfl ?_
                      refine a_ret hT [] rfl rfl rfl rfl rfl rfl ?_
                      first | exact bA_f (by unfold formedR; omega) | exact bA_t (by unfold formedR; omega)
                    · have h9 := of_decide_eq_false h9
                      refine a_g hT rfl rfl rfl (fun h10 => ?_) (fun h10 => ?_)
                      · have h10 := of_decide_eq_true h10
                        refine a_gt hT rfl rfl rfl rfl ?_
                        refine a_gt hT rfl rfl rfl rfl ?_
                        refine a_gt hT rfl rfl rfl rfl ?_
                        refine a_gt hT rfl rfl rfl rfl ?_
                        refine a_t hT rfl rfl rfl ?_
                        refine a_ret hT [] rfl rfl rfl rfl rfl rfl ?_
                        first | exact bA_f (by unfold formedR; omega) | exact bA_t (by unfold formedR; omega)
                      · have h10 := of_decide_eq_false h10
                        refine a_g hT rfl rfl rfl (fun h11 => ?_) (fun h11 => ?_)
                        · have h11 := of_decide_eq_true h11
                          refine a_gt hT rfl rfl rfl rfl ?_
                          refine a_gt hT rfl rfl rfl rfl ?_
                          refine a_gt hT rfl rfl rfl rfl ?_
                          refine a_t hT rfl rfl rfl ?_
                          refine a_ret hT [] rfl rfl rfl rfl rfl rfl ?_
                          first | exact bA_f (by unfold formedR; omega) | exact bA_t (by unfold formedR; omega)
                        · have h11 := of_decide_eq_false h11
                          refine a_g hT rfl rfl rfl (fun h12 => ?_) (fun h12 => ?_)
                          · have h12 := of_decide_eq_true h12
                            refine a_gt hT rfl rfl rfl rfl ?_
                            refine a_gt hT rfl rfl rfl rfl ?_
                            refine a_t hT rfl rfl rfl ?_
                            refine a_ret hT [] rfl rfl rfl rfl rfl rfl ?_
                            first | exact bA_f (by unfold formedR; omega) | exact bA_t (by unfold formedR; omega)
                          · have h12 := of_decide_eq_false h12
                            refine a_g hT rfl rfl rfl (fun h13 => ?_) (fun h13 => ?_)
                            · have h13 := of_decide_eq_true h13
                              refine a_gt hT rfl rfl rfl rfl ?_
                              refine a_t hT rfl rfl rfl ?_
                              refine a_ret hT [] rfl rfl rfl rfl rfl rfl ?_
                              first | exact bA_f (by unfold formedR; omega) | exact bA_t (by unfold formedR; omega)
                            · have h13 := of_decide_eq_false h13
                              refine a_g hT rfl rfl rfl (fun h14 => ?_) (fun h14 => ?_)
                              · have h14 := of_decide_eq_true h14
                                refine a_t hT rfl rfl rfl ?_
                                refine a_ret hT [] rfl rfl rfl rfl rfl rfl ?_
                                first | exact bA_f (by unfold formedR; omega) | exact bA_t (by unfold formedR; omega)
                              · have h14 := of_decide_eq_false h14
                                refine a_if hT rfl rfl (fun h15 => ?_) (fun h15 => ?_)
                                · have h15 := of_decide_eq_true h15
                                  refine a_ret hT [] rfl rfl rfl rfl rfl rfl ?_
                                  first | exact bA_f (by unfold formedR; omega) | exact bA_t (by unfold formedR; omega)
                                · have h15 := of_decide_eq_false h15
                                  refine a_g hT rfl rfl rfl (fun h16 => ?_) (fun h16 => ?_)
                                  · have h16 := bne_iff_ne.1 h16
                                    refine a_gt hT rfl rfl rfl rfl ?_
                                    refine a_g hT rfl rfl rfl (fun h17 => ?_) (fun h17 => ?_)
                                    · have h17 := eq_of_beq h17
                                      refine a_ret hT [] rfl rfl rfl rfl rfl rfl ?_
                                      first | exact bA_f (by unfold formedR; omega) | exact bA_t (by unfold formedR; omega)
                                    · have h17 := ne_of_beq_false h17
                                      refine a_ret hT [] rfl rfl rfl rfl rfl rfl ?_
                                      exact ⟨by show AV.v (Value.bool (f.status == 0)) 0 = _; rw [show (f.status == 0) = decide (formedR f) from by rw [Bool.eq_iff_iff]; simp only [beq_iff_eq, decide_eq_true_eq]; unfold formedR; omega]; rfl, rfl⟩
                                  · simp at h16
                                    refine a_g hT rfl rfl rfl (fun h17 => ?_) (fun h17 => ?_)
                                    · have h17 := eq_of_beq h17
                                      refine a_g hT rfl rfl rfl (fun h18 => ?_) (fun h18 => ?_)
                                      · have h18 := eq_of_beq h18
                                        (exfalso; first | omega | contradiction)
                                      · have h18 := ne_of_beq_false h18
                                        refine a_ret hT [] rfl rfl rfl rfl rfl rfl ?_
                                        exact ⟨by show AV.v (Value.bool (f.status == 0)) 0 = _; rw [show (f.status == 0) = decide (formedR f) from by rw [Bool.eq_iff_iff]; simp only [beq_iff_eq, decide_eq_true_eq]; unfold formedR; omega]; rfl, rfl⟩
                                    · have h17 := ne_of_beq_false h17
                                      refine a_ret hT [] rfl rfl rfl rfl rfl rfl ?_
                                      first | exact bA_f (by unfold formedR; omega) | exact bA_t (by unfold formedR; omega)
structure COp where
  kind : Int
  method : Int
  token : Int
  deadline : Int
  now : Int
  bytes : List UInt8
  f : Fr
def COp.d (o : COp) : List A.Dat := [.v (kI o.kind), .v (kI o.method), .v (kU o.token), .v (kI o.deadline), .v (kI o.now), A.bytesD o.bytes, .v (kI o.f.kind), .v (kI o.f.client), .v (kU o.f.token), .v (kI o.f.attempt), .v (kU o.f.floor), .v (kI o.f.method), .v (kI o.f.deadline), .v (kI o.f.status), A.bytesD o.f.pay]
def scrD (l : List COp) : AV := .d (.sl 15 (l.map COp.d))
def nI (n : Nat) : AV := .v (.int .i64 n) 0
structure COp.ok (o : COp) : Prop where
  by_ : o.bytes.length ≤ reachBytes
  py : o.f.pay.length ≤ reachBytes
theorem few15_spec {f : Fr} : FSpec Try.prog 38 [frA f] [] fun a cs => a = bA (decide (f.pay.length ≤ 6000)) ∧ cs = [] := by
  have hl : ((f.pay.map eB).length : Int) = f.pay.length := by rw [List.length_map]
  refine a_enter hT [frA f] [] Try.func38 rfl rfl rfl ⟨⟨rfl, rfl, rfl, rfl, rfl, rfl, rfl, rfl, rfl, trivial⟩, trivial⟩ fun c => ?_
  refine a_box hT 20 rfl rfl rfl rfl fun g => ?_
  refine a_ret hT [] rfl rfl rfl rfl rfl rfl ?_
  exact ⟨by show AV.v (Value.bool (decide (((f.pay.map eB).length : Int) ≤ 6000))) 0 = _; rw [show decide (((f.pay.map eB).length : Int) ≤ 6000) = decide (f.pay.length ≤ 6000) from decide_eq_decide.2 (by omega)]; rfl, rfl⟩
theorem few_spec {l : List COp} (hl : l.length ≤ reachBytes) (hb : ∀ o ∈ l, o.ok) : FSpec Try.prog 17 [scrD l] [] fun a cs => ∃ b, (b = true → l.length ≤ 150 ∧ ∀ o ∈ l, o.bytes.length ≤ 30000 ∧ o.f.pay.length ≤ 6000) ∧ a = .v (.bool b) 0 ∧ cs = [] := by
  refine a_enter hT [scrD l] [] Try.func17 rfl rfl rfl ⟨rfl, trivial⟩ fun c => ?_
  refine a_loop hT [0, 3, 6, 7] (fun x : Nat × Nat => [scrD l, nI x.2, nI l.length, nI x.1]) (fun _ => []) (fun x => x.1 ≤ l.length ∧ x.1 ≤ 150 ∧ x.2 ≤ 30000 ∧ ∀ o ∈ l.take x.1, o.bytes.length ≤ 30000 ∧ o.f.pay.length ≤ 6000) (fun x => l.length - x.1) (0, 0) [] rfl rfl ⟨by omega, by omega, by omega, by simp⟩
    ⟨rfl, rfl, by show Value.int .i64 ((l.map COp.d).length : Int) = .int .i64 (l.length : Int); rw [List.length_map], rfl, trivial⟩ rfl trivial ?_
  rintro ⟨i, n⟩ ⟨h1, h2, h3, h4⟩
  dsimp only at h1 h2 h3 h4 ⊢
  refine a_if hT rfl rfl (fun hi => ?_) (fun hi => ?_)
  · have hi' : i < l.length := by
      have : (i : Int) < l.length := of_decide_eq_true hi
      omega
    have hd : (l.map COp.d)[((i : Nat) : Int).toNat]? = some (COp.d l[i]) := by simp [hi']
    have hbi := hb l[i] (List.getElem_mem hi')
    obtain ⟨o, ho⟩ : ∃ o, l[i] = o := ⟨_, rfl⟩
    rw [ho] at hd hbi
    have hsum : IntKind.i64.wrap ((n : Int) + ((o.bytes.map eB).length : Int)) = ((n + o.bytes.length : Nat) : Int) := by
      have := hbi.by_
      rw [List.length_map, w64 (by omega) (by unfold reachBytes at this; omega)]
      rfl
    refine a_ix hT (COp.d o) rfl rfl rfl rfl rfl rfl (by omega) hd ?_
    refine a_g hT rfl rfl rfl (fun h => ?_) (fun h => ?_)
    · have h := of_decide_eq_true h
      refine a_gt hT rfl rfl rfl rfl ?_
      refine a_t hT rfl rfl rfl ?_
      refine a_ret hT [] rfl rfl rfl rfl rfl rfl ?_
      exact ⟨false, fun h => (nomatch h), rfl, rfl⟩
    · have h := of_decide_eq_false h
      refine a_g hT rfl rfl rfl (fun h5 => ?_) (fun h5 => ?_)
      · have h5 := of_decide_eq_true h5
        refine a_t hT rfl rfl rfl ?_
        refine a_ret hT [] rfl rfl rfl rfl rfl rfl ?_
        exact ⟨false, fun h => (nomatch h), rfl, rfl⟩
      · have h5 := of_decide_eq_false h5
        refine a_ix hT _ rfl rfl rfl rfl rfl rfl (by first | omega | assumption) (by first | assumption | rfl) ?_
        refine a_call hT rfl rfl rfl (by kernel_rfl) (few15_spec (f := o.f)) [] [] rfl rfl ?_
        rintro _ _ ⟨rfl, rfl⟩
        refine a_if hT rfl rfl (fun h6 => ?_) (fun h6 => ?_)
        · simp at h6
          refine a_ret hT [] rfl rfl rfl rfl rfl rfl ?_
          exact ⟨false, fun h => (nomatch h), rfl, rfl⟩
        · simp at h6
          have h5 : ¬ IntKind.i64.wrap ((n : Int) + ((o.bytes.map eB).length : Int)) > 30000 := h5
          rw [hsum] at h5
          have h : ¬ (i : Int) ≥ 150 := h
          refine a_next hT (i + 1, n + o.bytes.length) [] rfl rfl ⟨⟨by show i + 1 ≤ l.length; omega, by show i + 1 ≤ 150; omega, by show n + o.bytes.length ≤ 30000; omega, ?_⟩, by show l.length - (i + 1) < l.length - i; omega⟩ ⟨rfl, ?_, rfl, ?_, trivial⟩ rfl trivial
          · intro q hq
            rw [show (i + 1, n + o.bytes.length).1 = i + 1 from rfl, List.take_add_one] at hq
            rcases List.mem_append.1 hq with hq | hq
            · exact h4 q hq
            · rw [List.getElem?_eq_getElem hi', ho] at hq
              simp at hq
              subst hq
              omega
          · show Value.int .i64 (IntKind.i64.wrap ((n : Int) + ((o.bytes.map eB).length : Int))) = .int .i64 ((n + o.bytes.length : Nat) : Int)
            rw [hsum]
          · show Value.int .i64 (IntKind.i64.wrap ((i : Int) + 1)) = .int .i64 ((i + 1 : Nat) : Int)
            rw [w64 (by omega) (by omega)]
            rfl
  · have hi' : ¬ (i : Int) < l.length := of_decide_eq_false hi
    refine a_ret hT [] rfl rfl rfl rfl rfl rfl ⟨true, fun _ => ⟨by omega, fun o ho => h4 o ?_⟩, rfl, rfl⟩
    rw [List.take_of_length_le (by show l.length ≤ i; omega)]
    exact ho
end Go.Proofs.Ytepjnmocepkfjaa
end

section
/- Layer 23's laws: their scripts, read from what is handed in. -/
set_option linter.unusedVariables false
set_option linter.unusedSimpArgs false
namespace Go.Proofs.Ytepjnmocepkfjaa
open V A
theorem cop_reads0 (ds : List V.Dat) (h : HasTys [.int .i64, .int .i64, .int .u64, .int .i64, .int .i64, .sl [.int .u8], .int .i64, .int .i64, .int .u64, .int .i64, .int .u64, .int .i64, .int .i64, .int .i64, .sl [.int .u8]] ds) : ∃ o : COp, cvs ds = o.d ∧ poss ds ∧ o.ok ∧ 0 ≤ o.f.floor := by
  obtain ⟨d1, r, rfl, h1, h⟩ := h.cons
  obtain ⟨d2, r, rfl, h2, h⟩ := h.cons
  obtain ⟨d3, r, rfl, h3, h⟩ := h.cons
  obtain ⟨d4, r, rfl, h4, h⟩ := h.cons
  obtain ⟨d5, r, rfl, h5, h⟩ := h.cons
  obtain ⟨d6, r, rfl, h6, h⟩ := h.cons
  obtain ⟨d7, r, rfl, h7, h⟩ := h.cons
  obtain ⟨d8, r, rfl, h8, h⟩ := h.cons
  obtain ⟨d9, r, rfl, h9, h⟩ := h.cons
  obtain ⟨d10, r, rfl, h10, h⟩ := h.cons
  obtain ⟨d11, r, rfl, h11, h⟩ := h.cons
  obtain ⟨d12, r, rfl, h12, h⟩ := h.cons
  obtain ⟨d13, r, rfl, h13, h⟩ := h.cons
  obtain ⟨d14, r, rfl, h14, h⟩ := h.cons
  obtain ⟨d15, r, rfl, h15, h⟩ := h.cons
  cases h.nil
  obtain ⟨x1, rfl, _, _⟩ := h1.i64
  obtain ⟨x2, rfl, _, _⟩ := h2.i64
  obtain ⟨x3, rfl, hx3⟩ := h3.u64
  obtain ⟨x4, rfl, _, _⟩ := h4.i64
  obtain ⟨x5, rfl, _, _⟩ := h5.i64
  obtain ⟨l1, hl1, hp1, hb1⟩ := cv_bytes h6
  obtain ⟨x7, rfl, _, _⟩ := h7.i64
  obtain ⟨x8, rfl, _, _⟩ := h8.i64
  obtain ⟨x9, rfl, hx9⟩ := h9.u64
  obtain ⟨x10, rfl, _, _⟩ := h10.i64
  obtain ⟨x11, rfl, hx11⟩ := h11.u64
  obtain ⟨x12, rfl, _, _⟩ := h12.i64
  obtain ⟨x13, rfl, _, _⟩ := h13.i64
  obtain ⟨x14, rfl, _, _⟩ := h14.i64
  obtain ⟨l2, hl2, hp2, hb2⟩ := cv_bytes h15
  refine ⟨⟨x1, x2, x3, x4, x5, l1, ⟨x7, x8, x9, x10, x11, x12, x13, x14, l2⟩⟩, ?_, ⟨trivial, trivial, trivial, trivial, trivial, hp1, trivial, trivial, trivial, trivial, trivial, trivial, trivial, trivial, hp2, trivial⟩, ⟨hb1, hb2⟩, Int.natCast_nonneg _⟩
  simp only [cvs, hl1, hl2]
  rfl
theorem cop_reads (ds : List V.Dat) (h : HasTys [.int .i64, .int .i64, .int .u64, .int .i64, .int .i64, .sl [.int .u8], .int .i64, .int .i64, .int .u64, .int .i64, .int .u64, .int .i64, .int .i64, .int .i64, .sl [.int .u8]] ds) : ∃ o : COp, cvs ds = o.d ∧ poss ds ∧ o.ok :=
  let ⟨o, h1, h2, h3, _⟩ := cop_reads0 ds h
  ⟨o, h1, h2, h3⟩
def opCells (o : COp) : List AV := o.d.map AV.d
end Go.Proofs.Ytepjnmocepkfjaa
end
