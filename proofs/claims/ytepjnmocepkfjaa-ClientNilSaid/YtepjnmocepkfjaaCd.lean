/- Layer 23's client as a whole: New, Call. -/
import Derived.Test.YtepjnmocepkfjaaCc
set_option linter.unusedVariables false
set_option linter.unusedSimpArgs false
set_option maxRecDepth 100000
namespace Go.Proofs.Ytepjnmocepkfjaa
open V A
/-- A client: its number, the last token, the calls that haven't completed. -/
structure CS where
  num : Int
  last : Int
  calls : List CP
structure CS.ok (C : CS) : Prop where
  n0 : C.num ≠ 0
  s : (C.calls.map (·.tok)).Pairwise (· < ·)
  c : ∀ x ∈ C.calls, x.ok C.last
  l0 : 0 ≤ C.last
  l1 : C.last < 1000000
structure CX where
  gm : Nat
  gt : Nat
  L : List (Nat × CP)
def due (l : List CP) : TS := l.map fun x => (x.tok, wakeP x)
def callsC (L : List (Nat × CP)) : List Chunk := L.map fun p => callBlk p.1 p.2
def CX.cs (g : Nat) (C : CS) (y : CX) : List Chunk := [cliBlk g C.num C.last y.gm y.gt, cmapC y.gm y.L, .ext (listA (callsC y.L)), .ext (tmA y.gt (due C.calls))]
def cliA (g : Nat) (C : CS) : Asrt := exA (fun y : CX => y.L.map (·.2) = C.calls) (CX.cs g C)
theorem cl_pack {g : Nat} {C : CS} {y : CX} (h : y.L.map (·.2) = C.calls) : Ent (y.cs g C) [.ext (cliA g C)] := ent_pack (f := CX.cs g C) y h
theorem cl_unpack (g : Nat) (C : CS) : EntX [.ext (cliA g C)] (fun y : CX => y.L.map (·.2) = C.calls) (CX.cs g C) := ent_unpack _ _
theorem toks {L : List (Nat × CP)} {C : CS} (h : L.map (·.2) = C.calls) : L.map (·.2.tok) = C.calls.map (·.tok) := by rw [← h, List.map_map]; rfl
theorem CS.ok.pw {C : CS} {L : List (Nat × CP)} (hC : C.ok) (h : L.map (·.2) = C.calls) : (L.map (·.2.tok)).Pairwise (· < ·) := by rw [toks h]; exact hC.s
theorem CS.ok.le {C : CS} {L : List (Nat × CP)} (hC : C.ok) (h : L.map (·.2) = C.calls) : ∀ p ∈ L, p.2.tok ≤ C.last := fun p hp => (hC.c p.2 (by rw [← h]; exact List.mem_map.2 ⟨p, hp, rfl⟩)).t2
theorem nodup_of_lt {l : List Int} (h : l.Pairwise (· < ·)) : l.Nodup := h.imp fun h e => by omega
theorem CS.ok.dn {C : CS} (hC : C.ok) : ((due C.calls).map (·.1)).Nodup := by
  unfold due
  rw [List.map_map]
  exact nodup_of_lt hC.s
theorem CS.ok.cn {C : CS} {L : List (Nat × CP)} (hC : C.ok) (h : L.map (·.2) = C.calls) : ((cmap L).map (·.1)).Nodup := by
  unfold cmap
  rw [List.map_map]
  exact nodup_of_lt (hC.pw h)
/-- Tokens rise from 1 to last: so many there are at most. -/
theorem rise_len : ∀ {l : List Int} {a b : Int}, l.Pairwise (· < ·) → (∀ x ∈ l, a < x ∧ x ≤ b) → (l.length : Int) ≤ b - a ∨ l = []
  | [], a, b, _, _ => .inr rfl
  | x :: l, a, b, h, hx => by
    rw [List.pairwise_cons] at h
    have h1 := hx x (by simp)
    left
    rcases rise_len (a := x) (b := b) h.2 (fun y hy => ⟨h.1 y hy, (hx y (by simp [hy])).2⟩) with h2 | rfl
    · simp; omega
    · simp; omega
theorem CS.ok.len1 {C : CS} (hC : C.ok) {b : Int} (h1 : C.last < b) : (C.calls.length : Int) ≤ b := by
  have hl0 := hC.l0
  have := rise_len (a := 0) (b := C.last) hC.s (fun x hx => by obtain ⟨y, hy, rfl⟩ := List.mem_map.1 hx; have := hC.c y hy; exact ⟨by have := this.t1; omega, this.t2⟩)
  rcases this with h | h
  · rw [List.length_map] at h; omega
  · have : C.calls = [] := by simpa using h
    rw [this]; simp; omega
def CS.fl (C : CS) : Int := match C.calls with | [] => C.last + 1 | x :: _ => x.tok
theorem CS.fl_eq {C : CS} {L : List (Nat × CP)} (h : L.map (·.2) = C.calls) : floorP C.last L = C.fl := by
  unfold CS.fl
  rw [← h]
  cases L <;> rfl
theorem cl_spec {f : FuncId} {args : List AV} {g : Nat} {C : CS} {R : AV → CS → Prop} (h : ∀ y : CX, y.L.map (·.2) = C.calls → FSpec Try.prog f args (y.cs g C) fun a cs => ∃ a' cs1 C', Fit a a' ∧ Ent cs cs1 ∧ Ent cs1 [.ext (cliA g C')] ∧ R a' C') : FSpec Try.prog f args [.ext (cliA g C)] fun a cs => ∃ C', R a C' ∧ cs = [.ext (cliA g C')] := by
  refine FSpec.entX (cl_unpack g C) fun y hy => ?_
  exact (h y hy).weak fun a cs ⟨a', cs1, C', h1, h2, h3, h4⟩ => ⟨a', [.ext (cliA g C')], [], h1, by rw [List.append_nil]; exact h2.trans h3, C', h4, rfl⟩
/-- Call. -/
def CS.bad (C : CS) (meth : Int) (arg : List UInt8) : Prop := meth < 0 ∨ meth > 2147483647 ∨ arg.length > 4096
def callP (C : CS) (meth : Int) (arg : List UInt8) (dl now : Int) : CS × Evt × Fr × Int :=
  if meth < 0 ∨ meth > 2147483647 ∨ arg.length > 4096 then (C, noev, nofr, 1)
  else if now < 0 ∨ dl ≤ now ∨ dl > 1099511627776 then (C, noev, nofr, 3)
  else if C.last + 1 - C.fl ≥ 16 then (C, noev, nofr, 14)
  else
    let x : CP := ⟨C.last + 1, meth, arg, dl, 0, now⟩
    let C' : CS := ⟨C.num, C.last + 1, C.calls ++ [x]⟩
    (C', ⟨1, C.num, x.tok, meth, 0, arg⟩, ⟨1, C.num, x.tok, 0, C'.fl, meth, dl, 0, arg⟩, 0)
abbrev newC (C : CS) (meth : Int) (arg : List UInt8) (dl now : Int) : CP := ⟨C.last + 1, meth, arg, dl, 0, now⟩
theorem CS.ok.fl1 {C : CS} (hC : C.ok) : 1 ≤ C.fl ∧ C.fl ≤ C.last + 1 := by
  have := hC.l0
  unfold CS.fl
  cases h : C.calls with
  | nil => simp only; omega
  | cons x l =>
    have h1 := hC.c x (by rw [h]; simp)
    have := h1.t1
    have := h1.t2
    simp only
    omega
theorem call_e {g : Nat} {C : CS} {meth dl now : Int} {arg : List UInt8} {y : CX} (e : Int) (hy : y.L.map (·.2) = C.calls) (he : callP C meth arg dl now = (C, noev, nofr, e)) {a : AV} (hf : Fit a (.tup [evtA noev, frA nofr, .v (kI e) 0])) :
    ∃ a' cs1 C', Fit a a' ∧ Ent (y.cs g C) cs1 ∧ Ent cs1 [.ext (cliA g C')] ∧ C' = (callP C meth arg dl now).1 ∧ a' = .tup [evtA (callP C meth arg dl now).2.1, frA (callP C meth arg dl now).2.2.1, .v (kI (callP C meth arg dl now).2.2.2) 0] := by
  rw [he]
  exact ⟨_, _, C, hf, Ent.refl _, cl_pack hy, rfl, rfl⟩
def newS (C : CS) (x : CP) : CS := ⟨C.num, C.last + 1, C.calls ++ [x]⟩
theorem pw_new {C : CS} {L : List (Nat × CP)} {x : CP} {g3 : Nat} (hC : C.ok) (hy : L.map (·.2) = C.calls) (h0 : ∀ p ∈ L, p.2.tok < x.tok) : ((L ++ [(g3, x)]).map (·.2.tok)).Pairwise (· < ·) := by
  rw [List.map_append, List.pairwise_append]
  refine ⟨hC.pw hy, by simp, fun a ha b hb => ?_⟩
  obtain ⟨p, hp, rfl⟩ := List.mem_map.1 ha
  simp at hb
  subst hb
  exact h0 p hp
theorem le_new {last : Int} {L : List (Nat × CP)} {x : CP} {g3 : Nat} {C : CS} (hy : L.map (·.2) = C.calls) (h0 : ∀ p ∈ L, p.2.tok < x.tok) (hx : x.tok = last := by rfl) : ∀ p ∈ L ++ [(g3, x)], p.2.tok ≤ last := fun p hp => by
  rcases List.mem_append.1 hp with hp | hp
  · have := h0 p hp; omega
  · simp at hp; subst hp; show x.tok ≤ last; omega
theorem call_n {g g3 : Nat} {C : CS} {meth dl now : Int} {arg : List UInt8} {y : CX} (hC : C.ok) (hy : y.L.map (·.2) = C.calls) (h0 : ∀ p ∈ y.L, p.2.tok < C.last + 1)
    (he : callP C meth arg dl now = (newS C (newC C meth arg dl now), ⟨1, C.num, C.last + 1, meth, 0, arg⟩, ⟨1, C.num, C.last + 1, 0, (newS C (newC C meth arg dl now)).fl, meth, dl, 0, arg⟩, 0)) :
    ∃ a' cs1 C', Fit (.tup [evtA ⟨1, C.num, C.last + 1, meth, 0, arg⟩, frA ⟨1, C.num, C.last + 1, 0, floorP (C.last + 1) (y.L ++ [(g3, newC C meth arg dl now)]), meth, dl, 0, arg⟩, .v (kI 0) 0]) a' ∧
      Ent [cliBlk g C.num (C.last + 1) y.gm y.gt, cmapC y.gm (y.L ++ [(g3, newC C meth arg dl now)]), callBlk g3 (newC C meth arg dl now), .ext (listA (callsC y.L)), .ext (tmA y.gt (setP (due C.calls) (C.last + 1) (wakeP (newC C meth arg dl now))))] cs1 ∧ Ent cs1 [.ext (cliA g C')] ∧
      C' = (callP C meth arg dl now).1 ∧ a' = .tup [evtA (callP C meth arg dl now).2.1, frA (callP C meth arg dl now).2.2.1, .v (kI (callP C meth arg dl now).2.2.2) 0] := by
  have hy' : (y.L ++ [(g3, newC C meth arg dl now)]).map (·.2) = (newS C (newC C meth arg dl now)).calls := by rw [List.map_append, hy]; rfl
  have hfl := CS.fl_eq (C := newS C (newC C meth arg dl now)) hy'
  have hfl : floorP (C.last + 1) (y.L ++ [(g3, newC C meth arg dl now)]) = _ := hfl
  rw [he, hfl]
  refine ⟨_, CX.cs g (newS C (newC C meth arg dl now)) ⟨y.gm, y.gt, y.L ++ [(g3, newC C meth arg dl now)]⟩, newS C (newC C meth arg dl now), Fit.refl _, Ent.cons _ (Ent.cons _ ?_), cl_pack hy', rfl, rfl⟩
  have e1 := ent_unfocus (callsC y.L) [callBlk g3 (newC C meth arg dl now)] []
  rw [List.append_nil, List.append_nil] at e1
  have e2 : callsC y.L ++ [callBlk g3 (newC C meth arg dl now)] = callsC (y.L ++ [(g3, newC C meth arg dl now)]) := by unfold callsC; rw [List.map_append]; rfl
  rw [e2] at e1
  refine Ent.app e1 (tm_perm ?_)
  have hno : C.last + 1 ∉ (due C.calls).map (·.1) := fun h => by
    unfold due at h
    rw [List.map_map] at h
    obtain ⟨x, hx, e⟩ := List.mem_map.1 h
    rw [← hy] at hx
    obtain ⟨p, hp, rfl⟩ := List.mem_map.1 hx
    have := h0 p hp
    have e : p.2.tok = C.last + 1 := e
    omega
  unfold setP
  rw [filt_no hno]
  show (((C.last + 1, wakeP (newC C meth arg dl now)) : Int × Int) :: due C.calls).Perm (due (C.calls ++ [newC C meth arg dl now]))
  unfold due
  rw [List.map_append]
  exact (List.perm_append_comm (l₁ := [_]))
theorem ccall_spec {g h h1 h2 h3 : Nat} {C : CS} {meth dl now : Int} {arg : List UInt8} (hC : C.ok) (ha : arg.length ≤ lim) (hl1 : C.last < 900000) : FSpec Try.prog 11 [ptrA g h, .v (kI meth) h1, .d (A.bytesD arg), .v (kI dl) h2, .v (kI now) h3] [.ext (cliA g C)]
    fun a cs => ∃ C', (C' = (callP C meth arg dl now).1 ∧ a = .tup [evtA (callP C meth arg dl now).2.1, frA (callP C meth arg dl now).2.2.1, .v (kI (callP C meth arg dl now).2.2.2) 0]) ∧ cs = [.ext (cliA g C')] := by
  refine cl_spec (R := fun a C' => C' = (callP C meth arg dl now).1 ∧ a = .tup [evtA (callP C meth arg dl now).2.1, frA (callP C meth arg dl now).2.2.1, .v (kI (callP C meth arg dl now).2.2.2) 0]) fun y hy => ?_
  have hL : ((arg.map eB).length : Int) = arg.length := by rw [List.length_map]
  have hn0 := hC.n0
  have hl0 := hC.l0
  have hl2 := hC.l1
  have hfl := hC.fl1
  have hw1 : IntKind.u64.wrap (C.last + 1) = C.last + 1 := wrapU (by omega) (by omega)
  have hw2 : IntKind.u64.wrap (IntKind.u64.wrap (C.last + 1) - floorP C.last y.L) = C.last + 1 - C.fl := by rw [hw1, CS.fl_eq hy]; exact wrapU (by omega) (by omega)
  refine a_enter hT [ptrA g 10, .v (kI meth) 0, .d (A.bytesD arg), .v (kI dl) 0, .v (kI now) 0] [10, 11, 14, 13] Try.func11 rfl rfl rfl ⟨rfl, rfl, rfl, rfl, rfl, trivial⟩ fun c => ?_
  have h0 : ∀ p ∈ y.L, p.2.tok < C.last + 1 := fun p hp => by have := hC.le hy p hp; omega
  have hput : ∀ g3, aput (cmap y.L) (C.last + 1) g3 = cmap (y.L ++ [(g3, newC C meth arg dl now)]) := fun g3 => by
    rw [aput_new (aget_none fun h => ?_)]
    · unfold cmap; rw [List.map_append]; rfl
    · unfold cmap at h
      rw [List.map_map] at h
      obtain ⟨p, hp, e⟩ := List.mem_map.1 h
      have := h0 p hp
      have e : p.2.tok = C.last + 1 := e
      omega
  refine a_new hT hZ 20 rfl rfl rfl rfl fun g1 => ?_
  refine a_new hT hZ 21 rfl rfl rfl rfl fun g2 => ?_
  refine a_callZ hT rfl rfl rfl (by kernel_rfl) none_spec [10] [] [] rfl rfl rfl ⟨rfl, trivial⟩ trivial (by rintro _ _ ⟨rfl, rfl⟩; exact ⟨inferInstance, inferInstance⟩) ?_
  rintro _ _ ⟨rfl, rfl⟩
  refine a_g hT rfl rfl rfl (fun h4 => ?_) (fun h4 => ?_)
  · have h4 := eq_of_beq h4
    refine a_gt hT rfl rfl rfl rfl ?_
    refine a_gt hT rfl rfl rfl rfl ?_
    refine a_t hT rfl rfl rfl ?_
    refine a_build hT hZ [.v (Value.int IntKind.i64 0) 0, .v (Value.int IntKind.i64 0) 0, .v (Value.int IntKind.u64 0) 0, .v (Value.int IntKind.i64 0) 0, .v (Value.int IntKind.i64 0) 0, .v (Value.slice none 0 0) 0] rfl rfl rfl rfl rfl rfl ?_
    refine a_build hT hZ [.v (Value.int IntKind.i64 0) 0, .v (Value.int IntKind.i64 0) 0, .v (Value.int IntKind.u64 0) 0, .v (Value.int IntKind.i64 0) 0, .v (Value.int IntKind.u64 0) 0, .v (Value.int IntKind.i64 0) 0, .v (Value.int IntKind.i64 0) 0, .v (Value.int IntKind.i64 0) 0, .v (Value.slice none 0 0) 0] rfl rfl rfl rfl rfl rfl ?_
    refine a_ret hT [10, 11, 14, 13] rfl rfl rfl rfl rfl rfl ?_
    first | exact call_e 1 hy (by unfold callP; rw [if_pos (by omega)]) ⟨⟨rfl, rfl, rfl, rfl, rfl, ⟨rfl, rfl⟩, trivial⟩, ⟨rfl, rfl, rfl, rfl, rfl, rfl, rfl, rfl, ⟨rfl, rfl⟩, trivial⟩, rfl, trivial⟩ | exact call_e 3 hy (by unfold callP; rw [if_neg (by omega), if_pos (by omega)]) ⟨⟨rfl, rfl, rfl, rfl, rfl, ⟨rfl, rfl⟩, trivial⟩, ⟨rfl, rfl, rfl, rfl, rfl, rfl, rfl, rfl, ⟨rfl, rfl⟩, trivial⟩, rfl, trivial⟩ | exact call_e 14 hy (by unfold callP; rw [if_neg (by omega), if_neg (by omega), if_pos (by omega)]) ⟨⟨rfl, rfl, rfl, rfl, rfl, ⟨rfl, rfl⟩, trivial⟩, ⟨rfl, rfl, rfl, rfl, rfl, rfl, rfl, rfl, ⟨rfl, rfl⟩, trivial⟩, rfl, trivial⟩
  · have h4 := ne_of_beq_false h4
    refine a_g hT rfl rfl rfl (fun h5 => ?_) (fun h5 => ?_)
    · have h5 := of_decide_eq_true h5
      refine a_gt hT rfl rfl rfl rfl ?_
      refine a_t hT rfl rfl rfl ?_
      refine a_build hT hZ [.v (Value.int IntKind.i64 0) 0, .v (Value.int IntKind.i64 0) 0, .v (Value.int IntKind.u64 0) 0, .v (Value.int IntKind.i64 0) 0, .v (Value.int IntKind.i64 0) 0, .v (Value.slice none 0 0) 0] rfl rfl rfl rfl rfl rfl ?_
      refine a_build hT hZ [.v (Value.int IntKind.i64 0) 0, .v (Value.int IntKind.i64 0) 0, .v (Value.int IntKind.u64 0) 0, .v (Value.int IntKind.i64 0) 0, .v (Value.int IntKind.u64 0) 0, .v (Value.int IntKind.i64 0) 0, .v (Value.int IntKind.i64 0) 0, .v (Value.int IntKind.i64 0) 0, .v (Value.slice none 0 0) 0] rfl rfl rfl rfl rfl rfl ?_
      refine a_ret hT [10, 11, 14, 13] rfl rfl rfl rfl rfl rfl ?_
      first | exact call_e 1 hy (by unfold callP; rw [if_pos (by omega)]) ⟨⟨rfl, rfl, rfl, rfl, rfl, ⟨rfl, rfl⟩, trivial⟩, ⟨rfl, rfl, rfl, rfl, rfl, rfl, rfl, rfl, ⟨rfl, rfl⟩, trivial⟩, rfl, trivial⟩ | exact call_e 3 hy (by unfold callP; rw [if_neg (by omega), if_pos (by omega)]) ⟨⟨rfl, rfl, rfl, rfl, rfl, ⟨rfl, rfl⟩, trivial⟩, ⟨rfl, rfl, rfl, rfl, rfl, rfl, rfl, rfl, ⟨rfl, rfl⟩, trivial⟩, rfl, trivial⟩ | exact call_e 14 hy (by unfold callP; rw [if_neg (by omega), if_neg (by omega), if_pos (by omega)]) ⟨⟨rfl, rfl, rfl, rfl, rfl, ⟨rfl, rfl⟩, trivial⟩, ⟨rfl, rfl, rfl, rfl, rfl, rfl, rfl, rfl, ⟨rfl, rfl⟩, trivial⟩, rfl, trivial⟩
    · have h5 := of_decide_eq_false h5
      refine a_g hT rfl rfl rfl (fun h6 => ?_) (fun h6 => ?_)
      · have h6 := of_decide_eq_true h6
        refine a_t hT rfl rfl rfl ?_
        refine a_build hT hZ [.v (Value.int IntKind.i64 0) 0, .v (Value.int IntKind.i64 0) 0, .v (Value.int IntKind.u64 0) 0, .v (Value.int IntKind.i64 0) 0, .v (Value.int IntKind.i64 0) 0, .v (Value.slice none 0 0) 0] rfl rfl rfl rfl rfl rfl ?_
        refine a_build hT hZ [.v (Value.int IntKind.i64 0) 0, .v (Value.int IntKind.i64 0) 0, .v (Value.int IntKind.u64 0) 0, .v (Value.int IntKind.i64 0) 0, .v (Value.int IntKind.u64 0) 0, .v (Value.int IntKind.i64 0) 0, .v (Value.int IntKind.i64 0) 0, .v (Value.int IntKind.i64 0) 0, .v (Value.slice none 0 0) 0] rfl rfl rfl rfl rfl rfl ?_
        refine a_ret hT [10, 11, 14, 13] rfl rfl rfl rfl rfl rfl ?_
        first | exact call_e 1 hy (by unfold callP; rw [if_pos (by omega)]) ⟨⟨rfl, rfl, rfl, rfl, rfl, ⟨rfl, rfl⟩, trivial⟩, ⟨rfl, rfl, rfl, rfl, rfl, rfl, rfl, rfl, ⟨rfl, rfl⟩, trivial⟩, rfl, trivial⟩ | exact call_e 3 hy (by unfold callP; rw [if_neg (by omega), if_pos (by omega)]) ⟨⟨rfl, rfl, rfl, rfl, rfl, ⟨rfl, rfl⟩, trivial⟩, ⟨rfl, rfl, rfl, rfl, rfl, rfl, rfl, rfl, ⟨rfl, rfl⟩, trivial⟩, rfl, trivial⟩ | exact call_e 14 hy (by unfold callP; rw [if_neg (by omega), if_neg (by omega), if_pos (by omega)]) ⟨⟨rfl, rfl, rfl, rfl, rfl, ⟨rfl, rfl⟩, trivial⟩, ⟨rfl, rfl, rfl, rfl, rfl, rfl, rfl, rfl, ⟨rfl, rfl⟩, trivial⟩, rfl, trivial⟩
      · have h6 := of_decide_eq_false h6
        refine a_if hT rfl rfl (fun h7 => ?_) (fun h7 => ?_)
        · have h7 := of_decide_eq_true h7
          refine a_build hT hZ [.v (Value.int IntKind.i64 0) 0, .v (Value.int IntKind.i64 0) 0, .v (Value.int IntKind.u64 0) 0, .v (Value.int IntKind.i64 0) 0, .v (Value.int IntKind.i64 0) 0, .v (Value.slice none 0 0) 0] rfl rfl rfl rfl rfl rfl ?_
          refine a_build hT hZ [.v (Value.int IntKind.i64 0) 0, .v (Value.int IntKind.i64 0) 0, .v (Value.int IntKind.u64 0) 0, .v (Value.int IntKind.i64 0) 0, .v (Value.int IntKind.u64 0) 0, .v (Value.int IntKind.i64 0) 0, .v (Value.int IntKind.i64 0) 0, .v (Value.int IntKind.i64 0) 0, .v (Value.slice none 0 0) 0] rfl rfl rfl rfl rfl rfl ?_
          refine a_ret hT [10, 11, 14, 13] rfl rfl rfl rfl rfl rfl ?_
          first | exact call_e 1 hy (by unfold callP; rw [if_pos (by omega)]) ⟨⟨rfl, rfl, rfl, rfl, rfl, ⟨rfl, rfl⟩, trivial⟩, ⟨rfl, rfl, rfl, rfl, rfl, rfl, rfl, rfl, ⟨rfl, rfl⟩, trivial⟩, rfl, trivial⟩ | exact call_e 3 hy (by unfold callP; rw [if_neg (by omega), if_pos (by omega)]) ⟨⟨rfl, rfl, rfl, rfl, rfl, ⟨rfl, rfl⟩, trivial⟩, ⟨rfl, rfl, rfl, rfl, rfl, rfl, rfl, rfl, ⟨rfl, rfl⟩, trivial⟩, rfl, trivial⟩ | exact call_e 14 hy (by unfold callP; rw [if_neg (by omega), if_neg (by omega), if_pos (by omega)]) ⟨⟨rfl, rfl, rfl, rfl, rfl, ⟨rfl, rfl⟩, trivial⟩, ⟨rfl, rfl, rfl, rfl, rfl, rfl, rfl, rfl, ⟨rfl, rfl⟩, trivial⟩, rfl, trivial⟩
        · have h7 := of_decide_eq_false h7
          refine a_g hT rfl rfl rfl (fun h8 => ?_) (fun h8 => ?_)
          · have h8 := of_decide_eq_true h8
            refine a_gt hT rfl rfl rfl rfl ?_
            refine a_t hT rfl rfl rfl ?_
            refine a_build hT hZ [.v (Value.int IntKind.i64 0) 0, .v (Value.int IntKind.i64 0) 0, .v (Value.int IntKind.u64 0) 0, .v (Value.int IntKind.i64 0) 0, .v (Value.int IntKind.i64 0) 0, .v (Value.slice none 0 0) 0] rfl rfl rfl rfl rfl rfl ?_
            refine a_build hT hZ [.v (Value.int IntKind.i64 0) 0, .v (Value.int IntKind.i64 0) 0, .v (Value.int IntKind.u64 0) 0, .v (Value.int IntKind.i64 0) 0, .v (Value.int IntKind.u64 0) 0, .v (Value.int IntKind.i64 0) 0, .v (Value.int IntKind.i64 0) 0, .v (Value.int IntKind.i64 0) 0, .v (Value.slice none 0 0) 0] rfl rfl rfl rfl rfl rfl ?_
            refine a_ret hT [10, 11, 14, 13] rfl rfl rfl rfl rfl rfl ?_
            first | exact call_e 1 hy (by unfold callP; rw [if_pos (by omega)]) ⟨⟨rfl, rfl, rfl, rfl, rfl, ⟨rfl, rfl⟩, trivial⟩, ⟨rfl, rfl, rfl, rfl, rfl, rfl, rfl, rfl, ⟨rfl, rfl⟩, trivial⟩, rfl, trivial⟩ | exact call_e 3 hy (by unfold callP; rw [if_neg (by omega), if_pos (by omega)]) ⟨⟨rfl, rfl, rfl, rfl, rfl, ⟨rfl, rfl⟩, trivial⟩, ⟨rfl, rfl, rfl, rfl, rfl, rfl, rfl, rfl, ⟨rfl, rfl⟩, trivial⟩, rfl, trivial⟩ | exact call_e 14 hy (by unfold callP; rw [if_neg (by omega), if_neg (by omega), if_pos (by omega)]) ⟨⟨rfl, rfl, rfl, rfl, rfl, ⟨rfl, rfl⟩, trivial⟩, ⟨rfl, rfl, rfl, rfl, rfl, rfl, rfl, rfl, ⟨rfl, rfl⟩, trivial⟩, rfl, trivial⟩
          · have h8 := of_decide_eq_false h8
            refine a_g hT rfl rfl rfl (fun h9 => ?_) (fun h9 => ?_)
            · have h9 := of_decide_eq_true h9
              refine a_t hT rfl rfl rfl ?_
              refine a_build hT hZ [.v (Value.int IntKind.i64 0) 0, .v (Value.int IntKind.i64 0) 0, .v (Value.int IntKind.u64 0) 0, .v (Value.int IntKind.i64 0) 0, .v (Value.int IntKind.i64 0) 0, .v (Value.slice none 0 0) 0] rfl rfl rfl rfl rfl rfl ?_
              refine a_build hT hZ [.v (Value.int IntKind.i64 0) 0, .v (Value.int IntKind.i64 0) 0, .v (Value.int IntKind.u64 0) 0, .v (Value.int IntKind.i64 0) 0, .v (Value.int IntKind.u64 0) 0, .v (Value.int IntKind.i64 0) 0, .v (Value.int IntKind.i64 0) 0, .v (Value.int IntKind.i64 0) 0, .v (Value.slice none 0 0) 0] rfl rfl rfl rfl rfl rfl ?_
              refine a_ret hT [10, 11, 14, 13] rfl rfl rfl rfl rfl rfl ?_
              first | exact call_e 1 hy (by unfold callP; rw [if_pos (by omega)]) ⟨⟨rfl, rfl, rfl, rfl, rfl, ⟨rfl, rfl⟩, trivial⟩, ⟨rfl, rfl, rfl, rfl, rfl, rfl, rfl, rfl, ⟨rfl, rfl⟩, trivial⟩, rfl, trivial⟩ | exact call_e 3 hy (by unfold callP; rw [if_neg (by omega), if_pos (by omega)]) ⟨⟨rfl, rfl, rfl, rfl, rfl, ⟨rfl, rfl⟩, trivial⟩, ⟨rfl, rfl, rfl, rfl, rfl, rfl, rfl, rfl, ⟨rfl, rfl⟩, trivial⟩, rfl, trivial⟩ | exact call_e 14 hy (by unfold callP; rw [if_neg (by omega), if_neg (by omega), if_pos (by omega)]) ⟨⟨rfl, rfl, rfl, rfl, rfl, ⟨rfl, rfl⟩, trivial⟩, ⟨rfl, rfl, rfl, rfl, rfl, rfl, rfl, rfl, ⟨rfl, rfl⟩, trivial⟩, rfl, trivial⟩
            · have h9 := of_decide_eq_false h9
              refine a_if hT rfl rfl (fun h10 => ?_) (fun h10 => ?_)
              · have h10 := of_decide_eq_true h10
                refine a_build hT hZ [.v (Value.int IntKind.i64 0) 0, .v (Value.int IntKind.i64 0) 0, .v (Value.int IntKind.u64 0) 0, .v (Value.int IntKind.i64 0) 0, .v (Value.int IntKind.i64 0) 0, .v (Value.slice none 0 0) 0] rfl rfl rfl rfl rfl rfl ?_
                refine a_build hT hZ [.v (Value.int IntKind.i64 0) 0, .v (Value.int IntKind.i64 0) 0, .v (Value.int IntKind.u64 0) 0, .v (Value.int IntKind.i64 0) 0, .v (Value.int IntKind.u64 0) 0, .v (Value.int IntKind.i64 0) 0, .v (Value.int IntKind.i64 0) 0, .v (Value.int IntKind.i64 0) 0, .v (Value.slice none 0 0) 0] rfl rfl rfl rfl rfl rfl ?_
                refine a_ret hT [10, 11, 14, 13] rfl rfl rfl rfl rfl rfl ?_
                first | exact call_e 1 hy (by unfold callP; rw [if_pos (by omega)]) ⟨⟨rfl, rfl, rfl, rfl, rfl, ⟨rfl, rfl⟩, trivial⟩, ⟨rfl, rfl, rfl, rfl, rfl, rfl, rfl, rfl, ⟨rfl, rfl⟩, trivial⟩, rfl, trivial⟩ | exact call_e 3 hy (by unfold callP; rw [if_neg (by omega), if_pos (by omega)]) ⟨⟨rfl, rfl, rfl, rfl, rfl, ⟨rfl, rfl⟩, trivial⟩, ⟨rfl, rfl, rfl, rfl, rfl, rfl, rfl, rfl, ⟨rfl, rfl⟩, trivial⟩, rfl, trivial⟩ | exact call_e 14 hy (by unfold callP; rw [if_neg (by omega), if_neg (by omega), if_pos (by omega)]) ⟨⟨rfl, rfl, rfl, rfl, rfl, ⟨rfl, rfl⟩, trivial⟩, ⟨rfl, rfl, rfl, rfl, rfl, rfl, rfl, rfl, ⟨rfl, rfl⟩, trivial⟩, rfl, trivial⟩
              · have h10 := of_decide_eq_false h10
                refine a_draw hT [11] false [(0, false), (1, false), (2, false), (3, false), (4, false), (5, false), (6, true), (7, false), (8, false), (9, true)] rfl rfl (by kernel_rfl) (by kernel_rfl) rfl ?_
                refine a_callZ hT rfl rfl rfl (by kernel_rfl) (cfloor_spec hn0 (hC.pw hy) (hC.le hy) hC.l0 hC.l1) [10] [11] [11] rfl rfl rfl ⟨rfl, trivial⟩ ⟨⟨rfl, rfl⟩, trivial⟩ (by rintro _ _ ⟨rfl, rfl⟩; exact ⟨inferInstance, inferInstance⟩) ?_
                rintro _ _ ⟨rfl, rfl⟩
                refine a_if hT rfl rfl (fun h11 => ?_) (fun h11 => ?_)
                · have h11 := of_decide_eq_true h11
                  refine a_build hT hZ [.v (Value.int IntKind.i64 0) 0, .v (Value.int IntKind.i64 0) 0, .v (Value.int IntKind.u64 0) 0, .v (Value.int IntKind.i64 0) 0, .v (Value.int IntKind.i64 0) 0, .v (Value.slice none 0 0) 0] rfl rfl rfl rfl rfl rfl ?_
                  refine a_build hT hZ [.v (Value.int IntKind.i64 0) 0, .v (Value.int IntKind.i64 0) 0, .v (Value.int IntKind.u64 0) 0, .v (Value.int IntKind.i64 0) 0, .v (Value.int IntKind.u64 0) 0, .v (Value.int IntKind.i64 0) 0, .v (Value.int IntKind.i64 0) 0, .v (Value.int IntKind.i64 0) 0, .v (Value.slice none 0 0) 0] rfl rfl rfl rfl rfl rfl ?_
                  refine a_ret hT [10, 11, 14, 13] rfl rfl rfl rfl rfl rfl ?_
                  first | exact call_e 1 hy (by unfold callP; rw [if_pos (by omega)]) ⟨⟨rfl, rfl, rfl, rfl, rfl, ⟨rfl, rfl⟩, trivial⟩, ⟨rfl, rfl, rfl, rfl, rfl, rfl, rfl, rfl, ⟨rfl, rfl⟩, trivial⟩, rfl, trivial⟩ | exact call_e 3 hy (by unfold callP; rw [if_neg (by omega), if_pos (by omega)]) ⟨⟨rfl, rfl, rfl, rfl, rfl, ⟨rfl, rfl⟩, trivial⟩, ⟨rfl, rfl, rfl, rfl, rfl, rfl, rfl, rfl, ⟨rfl, rfl⟩, trivial⟩, rfl, trivial⟩ | exact call_e 14 hy (by unfold callP; rw [if_neg (by omega), if_neg (by omega), if_pos (by omega)]) ⟨⟨rfl, rfl, rfl, rfl, rfl, ⟨rfl, rfl⟩, trivial⟩, ⟨rfl, rfl, rfl, rfl, rfl, rfl, rfl, rfl, ⟨rfl, rfl⟩, trivial⟩, rfl, trivial⟩
                · have h11 := of_decide_eq_false h11
                  refine a_draw hT [11] false [(0, false), (1, false), (2, false), (3, false), (4, false), (5, false), (7, false), (8, false), (6, true), (9, false), (10, true), (11, true)] rfl rfl (by kernel_rfl) (by kernel_rfl) rfl ?_
                  refine a_call hT rfl rfl rfl (by kernel_rfl) (cloneF (by first | assumption | rfl | decide | omega | (dsimp only; omega))) [] [] rfl rfl ?_
                  rintro _ _ ⟨rfl, rfl⟩
                  refine a_build hT hZ [.v (Value.int IntKind.u64 (IntKind.wrap IntKind.u64 (CS.last C + 1))) 0, .v (kI meth) 0, .d (A.bytesD arg), .v (kI dl) 0, .v (Value.int IntKind.i64 0) 0, .v (kI now) 0] rfl rfl rfl rfl rfl rfl ?_
                  refine a_box hT 40 rfl rfl rfl rfl fun g3 => ?_
                  refine a_draw hT [11] true [(0, false), (1, false), (2, false), (3, false), (4, false), (5, false), (6, false), (7, false), (8, false), (9, true)] rfl rfl (by kernel_rfl) (by kernel_rfl) rfl ?_
                  refine a_mputG hT (kv := kU) (va := bV40) _ _ _ rfl rfl rfl mtK kU_ok rfl rfl rfl rfl rfl rfl ?_
                  refine a_draw hT [11] true [(0, false), (1, false), (2, false), (3, false), (4, false), (5, false), (6, false), (7, false), (8, false), (9, true), (10, true)] rfl rfl (by kernel_rfl) (by kernel_rfl) rfl ?_
                  refine a_callZ hT rfl rfl rfl (by kernel_rfl) (cwake_spec (x := ⟨IntKind.u64.wrap (C.last + 1), meth, arg, dl, 0, now⟩) (by first | assumption | rfl | decide | omega | (dsimp only; omega)) (by first | assumption | rfl | decide | omega | (dsimp only; omega))) [40] [] [] rfl rfl rfl ⟨rfl, trivial⟩ trivial (by rintro _ _ ⟨rfl, rfl⟩; exact ⟨inferInstance, inferInstance⟩) ?_
                  rintro _ _ ⟨rfl, rfl⟩
                  refine a_call hT rfl rfl rfl (by kernel_rfl) (tset_spec hC.dn (show (due C.calls).length < 999999 by unfold due; rw [List.length_map]; have := hC.len1 hl1; omega)) [13] [13] rfl rfl ?_
                  rintro _ _ ⟨S', rfl, rfl⟩
                  rw [hw1]
                  refine a_ent [11] [11] [cmapC y.gm (y.L ++ [(g3, newC C meth arg dl now)])] rfl rfl (by rw [hput]; exact Ent.refl _) ?_
                  refine a_draw hT [11, 20, 21] false [(0, false), (1, false), (2, false), (3, false), (4, false), (5, false), (6, false), (7, false), (8, false), (9, false), (12, false), (13, false), (10, true), (11, false), (14, true), (15, true), (16, true), (17, true)] rfl rfl (by kernel_rfl) (by kernel_rfl) rfl ?_
                  refine a_call hT rfl rfl rfl (by kernel_rfl) (cloneF (by first | assumption | rfl | decide | omega | (dsimp only; omega))) [] [] rfl rfl ?_
                  rintro _ _ ⟨rfl, rfl⟩
                  refine a_build hT hZ [.v (Value.int IntKind.i64 1) 0, .v (kI (CS.num C)) 0, .v (Value.int IntKind.u64 (CS.last C + 1)) 0, .v (kI meth) 0, .v (Value.int IntKind.i64 0) 0, .d (A.bytesD arg)] rfl rfl rfl rfl rfl rfl ?_
                  refine a_callZ hT rfl rfl rfl (by kernel_rfl) (cframe_spec (last := C.last + 1) (x := newC C meth arg dl now) (L := y.L ++ [(g3, newC C meth arg dl now)]) hn0 (pw_new hC hy h0) (le_new hy h0) (by omega) (by omega) ha) [10, 40] [11] [11, 1] rfl rfl rfl ⟨rfl, rfl, trivial⟩ ⟨⟨rfl, rfl⟩, trivial⟩ (by rintro _ _ ⟨v, rfl, rfl⟩; exact ⟨inferInstance, inferInstance⟩) ?_
                  rintro _ _ ⟨v, rfl, rfl⟩
                  refine a_run hT 5 rfl rfl ?_
                  refine a_freezeB 21 8 1 rfl rfl rfl rfl rfl ?_
                  refine a_ret hT [10, 11, 40, 14, 13] rfl rfl rfl rfl rfl rfl ?_
                  exact call_n hC hy h0 (by unfold callP; rw [if_neg (by omega), if_neg (by omega), if_neg (by omega)]; rfl)
end Go.Proofs.Ytepjnmocepkfjaa
