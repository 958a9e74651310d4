/- Layer 23's client: what stays so; Floor; no client. -/
import Derived.Test.YtepjnmocepkfjaaCf
set_option linter.unusedVariables false
set_option linter.unusedSimpArgs false
set_option maxRecDepth 100000
namespace Go.Proofs.Ytepjnmocepkfjaa
open V A
theorem CP.ok.mono {x : CP} {l l' : Int} (h : x.ok l) (hl : l ≤ l') : x.ok l' := ⟨h.t1, Int.le_trans h.t2 hl, h.m1, h.m2, h.a, h.d, h.m, h.md, h.a1, h.a2⟩
theorem CS.ok.drop {C : CS} (hC : C.ok) (t : Int) : (C.drop t).ok := by
  refine ⟨hC.n0, ?_, fun x hx => hC.c x (List.mem_filter.1 hx).1, hC.l0, hC.l1⟩
  have h1 : ((C.drop t).calls).Sublist C.calls := List.filter_sublist
  exact hC.s.sublist (h1.map _)
theorem callP_ok {C : CS} (hC : C.ok) (hl : C.last < 900000) (meth : Int) (arg : List UInt8) (dl now : Int) : (callP C meth arg dl now).1.ok ∧ (callP C meth arg dl now).1.last ≤ C.last + 1 ∧ (callP C meth arg dl now).1.num = C.num := by
  have h0 := hC.l0
  unfold callP
  split
  · exact ⟨hC, by simp only; omega, rfl⟩
  split
  · exact ⟨hC, by simp only; omega, rfl⟩
  split
  · exact ⟨hC, by simp only; omega, rfl⟩
  rename_i h1 h2 h3
  refine ⟨⟨hC.n0, ?_, ?_, by simp only; omega, by simp only; omega⟩, by simp only; omega, rfl⟩
  · show ((C.calls ++ [(⟨C.last + 1, meth, arg, dl, 0, now⟩ : CP)]).map (·.tok)).Pairwise (· < ·)
    rw [List.map_append, List.pairwise_append]
    refine ⟨hC.s, by simp, fun a ha b hb => ?_⟩
    obtain ⟨x, hx, rfl⟩ := List.mem_map.1 ha
    simp at hb
    subst hb
    have := (hC.c x hx).t2
    omega
  · intro x hx
    rcases List.mem_append.1 hx with hx | hx
    · exact (hC.c x hx).mono (by simp only; omega)
    · simp at hx
      subst hx
      exact ⟨by simp only; omega, by simp only; omega, by simp only; omega, by simp only; omega, by simp only; omega, by simp only; omega, by simp only; omega, by simp only; omega, by simp only; omega, by simp only; omega⟩
theorem cancelP_ok {C : CS} (hC : C.ok) (t : Int) : (cancelP C t).1.ok ∧ (cancelP C t).1.last = C.last ∧ (cancelP C t).1.num = C.num := by
  unfold cancelP
  split
  · exact ⟨hC, rfl, rfl⟩
  · exact ⟨hC.drop t, rfl, rfl⟩
theorem takeP_ok {C : CS} (hC : C.ok) (f : Fr) : (takeP C f).1.ok ∧ (takeP C f).1.last = C.last ∧ (takeP C f).1.num = C.num := by
  unfold takeP
  split
  · exact ⟨hC, rfl, rfl⟩
  split
  · exact ⟨hC, rfl, rfl⟩
  split
  · exact ⟨hC, rfl, rfl⟩
  · exact ⟨hC.drop _, rfl, rfl⟩
theorem CS.ok.zero {num : Int} (h : num ≠ 0) : CS.ok ⟨num, 0, []⟩ := ⟨h, by simp, by simp, by simp, by simp⟩
/-- Floor, of what is one's own. -/
theorem cfloorO_spec {g h : Nat} {num last : Int} {gm gt : Nat} {L : List (Nat × CP)} (hn : num ≠ 0) (hs : (L.map (·.2.tok)).Pairwise (· < ·)) (hl : ∀ p ∈ L, p.2.tok ≤ last) (hl0 : 0 ≤ last) (hl1 : last < 1000000) : FSpec Try.prog 13 [ptrA g h] [cliBlk g num last gm gt, cmapC gm L] fun a cs => a = .v (kU (floorP last L)) 0 ∧ cs = [cliBlk g num last gm gt, cmapC gm L] := by
  refine a_enter hT [ptrA g 10] [10, 11] Try.func13 rfl rfl rfl ⟨rfl, trivial⟩ fun c => ?_
  refine a_callZ hT rfl rfl rfl (by kernel_rfl) none_spec [10] [] [] rfl rfl rfl ⟨rfl, trivial⟩ trivial (by rintro _ _ ⟨rfl, rfl⟩; exact ⟨inferInstance, inferInstance⟩) ?_
  rintro _ _ ⟨rfl, rfl⟩
  refine a_f hT rfl rfl (by simpa using hn) ?_
  refine a_rangeG hT (kv := kU) (va := bV40) (cmap L) rfl rfl rfl mtK rfl rfl rfl rfl fun it => ?_
  have hw : IntKind.u64.wrap (last + 1) = last + 1 := wrapU (by omega) (by omega)
  refine a_loop hT [3, 16] (fun x : List (Bool × (Int × Nat)) × Option (Value × AV) × Int => [.v (kU x.2.2) 0, .v (.pointer (some ⟨it, 0, none⟩)) 11]) (fun x => [(11, .ext (iterA gm it (iterG kU bV40 x.1) x.2.1)), (10, cliBlk g num last gm gt)])
    (fun x => x.1.map (·.2) = cmap L ∧ x.2.2 ≤ last + 1 ∧ (∀ q ∈ x.1, q.1 = true → x.2.2 ≤ q.2.1) ∧ (x.2.2 = last + 1 ∨ ∃ q ∈ x.1, x.2.2 = q.2.1)) (fun x => left x.1) ((cmap L).map fun p => (false, p), none, last + 1) [11, 10] rfl rfl ⟨by simp [List.map_map, Function.comp_def], Int.le_refl _, by simp, .inl rfl⟩ ⟨by rw [hw]; rfl, rfl, trivial⟩ rfl ⟨rfl, ⟨rfl, rfl, ⟨rfl, rfl, rfl, rfl, trivial⟩⟩, trivial⟩ ?_
  rintro ⟨l, cur, m⟩ ⟨h1, h2, h3, h4⟩
  refine a_inextG hT (kv := kU) (va := bV40) l rfl rfl rfl rfl rfl rfl rfl (fun hq => ?_) (fun i k b hi => ?_)
  · refine a_f hT rfl rfl rfl ?_
    refine a_iendG 11 (kv := kU) (va := bV40) l rfl rfl rfl ?_
    have h1' : l.map (·.2) = cmap L := h1
    refine a_ret hT [10, 11] rfl rfl rfl rfl rfl rfl ⟨?_, by rw [h1']⟩
    refine congrArg (fun x => AV.v (kU x) 0) (floor_min hs hl (fun t ht => ?_) h2 ?_)
    · obtain ⟨b, hb⟩ := ht
      rw [← h1'] at hb
      obtain ⟨q, hq', e⟩ := List.mem_map.1 hb
      have := h3 q hq' (hq q hq')
      rw [e] at this
      exact this
    · refine h4.imp id fun ⟨q, hq', e⟩ => ⟨q.2.2, ?_⟩
      rw [← h1']
      exact List.mem_map.2 ⟨q, hq', by rw [show m = q.2.1 from e]⟩
  · refine a_t hT rfl rfl rfl ?_
    refine a_ientry hT rfl rfl rfl rfl rfl rfl ?_
    have hset := (List.getElem?_eq_some_iff.1 hi).1
    have e2 : (l.set i (true, (k, b))).map (·.2) = l.map (·.2) := map_set_same (y := (true, (k, b))) _ hi rfl
    refine a_next hT (l.set i (true, (k, b)), some (kU k, bV40 b), if k < m then k else m) [11, 10] rfl rfl ⟨⟨?_, ?_, ?_, ?_⟩, ?_⟩ ⟨rfl, rfl, trivial⟩ rfl ⟨rfl, ⟨rfl, rfl, ⟨rfl, rfl, rfl, rfl, trivial⟩⟩, trivial⟩
    · show (l.set i (true, (k, b))).map (·.2) = cmap L
      rw [e2]; exact h1
    · show (if k < m then k else m) ≤ last + 1
      have : m ≤ last + 1 := h2
      split <;> omega
    · intro q hq hq1
      show (if k < m then k else m) ≤ q.2.1
      rcases List.mem_or_eq_of_mem_set hq with hq | rfl
      · have : m ≤ q.2.1 := h3 q hq hq1
        split <;> omega
      · show (if k < m then k else m) ≤ k
        split <;> omega
    · show (if k < m then k else m) = last + 1 ∨ ∃ q ∈ l.set i (true, (k, b)), (if k < m then k else m) = q.2.1
      split
      · exact .inr ⟨(true, (k, b)), List.mem_set hset _, rfl⟩
      · refine h4.imp id fun ⟨q, hq', e⟩ => ?_
        have hm : q.2 ∈ (l.set i (true, (k, b))).map (·.2) := by rw [e2]; exact List.mem_map.2 ⟨q, hq', rfl⟩
        obtain ⟨q2, hq2, e3⟩ := List.mem_map.1 hm
        exact ⟨q2, hq2, by rw [e3]; exact e⟩
    · show left (l.set i (true, (k, b))) < left l
      have := left_set hi (k, b)
      omega
theorem cfloorT_spec {g h : Nat} {C : CS} (hC : C.ok) : FSpec Try.prog 13 [ptrA g h] [.ext (cliA g C)] fun a cs => ∃ C', (a = .v (kU C.fl) 0 ∧ C' = C) ∧ cs = [.ext (cliA g C')] := by
  refine cl_spec (R := fun a C' => a = .v (kU C.fl) 0 ∧ C' = C) fun y hy => ?_
  refine ((cfloorO_spec (gm := y.gm) (gt := y.gt) (L := y.L) hC.n0 (hC.pw hy) (hC.le hy) hC.l0 hC.l1).frame [.ext (listA (callsC y.L)), .ext (tmA y.gt (due C.calls))]).mono fun a cs h => ?_
  obtain ⟨cs1, rfl, rfl, rfl⟩ := h
  exact ⟨_, CX.cs g C y, C, Fit.refl _, Ent.refl _, cl_pack hy, by rw [CS.fl_eq hy], rfl⟩
theorem ncall_spec {meth dl now : Int} {arg : List UInt8} {h h1 h2 h3 : Nat} : FSpec Try.prog 11 [.v (.pointer none) h, .v (kI meth) h1, .d (A.bytesD arg), .v (kI dl) h2, .v (kI now) h3] [] fun a cs => a = .tup [evtA noev, frA nofr, .v (kI 1) 0] ∧ cs = [] := by
  refine spec_fit ?_
  refine a_enter hT [.v (.pointer none) 0, .v (kI meth) 0, .d (A.bytesD arg), .v (kI dl) 0, .v (kI now) 0] [] Try.func11 rfl rfl rfl ⟨rfl, rfl, rfl, rfl, rfl, trivial⟩ fun c => ?_
  refine a_new hT hZ 20 rfl rfl rfl rfl fun g => ?_
  refine a_new hT hZ 21 rfl rfl rfl rfl fun g1 => ?_
  refine a_call hT rfl rfl rfl (by kernel_rfl) none_nil [] [] rfl rfl ?_
  rintro _ _ ⟨rfl, rfl⟩
  refine a_gt hT rfl rfl rfl rfl ?_
  refine a_gt hT rfl rfl rfl rfl ?_
  refine a_gt hT rfl rfl rfl rfl ?_
  refine a_t hT rfl rfl rfl ?_
  refine a_build hT hZ [.v (Value.int IntKind.i64 0) 0, .v (Value.int IntKind.i64 0) 0, .v (Value.int IntKind.u64 0) 0, .v (Value.int IntKind.i64 0) 0, .v (Value.int IntKind.i64 0) 0, .v (Value.slice none 0 0) 0] rfl rfl rfl rfl rfl rfl ?_
  refine a_build hT hZ [.v (Value.int IntKind.i64 0) 0, .v (Value.int IntKind.i64 0) 0, .v (Value.int IntKind.u64 0) 0, .v (Value.int IntKind.i64 0) 0, .v (Value.int IntKind.u64 0) 0, .v (Value.int IntKind.i64 0) 0, .v (Value.int IntKind.i64 0) 0, .v (Value.int IntKind.i64 0) 0, .v (Value.slice none 0 0) 0] rfl rfl rfl rfl rfl rfl ?_
  refine a_ret hT [] rfl rfl rfl rfl rfl rfl ?_
  exact ⟨.tup [evtA noev, frA nofr, .v (kI 1) 0], [], [], ⟨⟨rfl, rfl, rfl, rfl, rfl, ⟨rfl, rfl⟩, trivial⟩, ⟨rfl, rfl, rfl, rfl, rfl, rfl, rfl, rfl, ⟨rfl, rfl⟩, trivial⟩, rfl, trivial⟩, Ent.refl _, rfl, rfl⟩
theorem ncancel_spec {t now : Int} {h h1 h2 : Nat} : FSpec Try.prog 12 [.v (.pointer none) h, .v (kU t) h1, .v (kI now) h2] [] fun a cs => a = .tup [evtA noev, frA nofr, bA false] ∧ cs = [] := by
  refine spec_fit ?_
  refine a_enter hT [.v (.pointer none) 0, .v (kU t) 0, .v (kI now) 0] [] Try.func12 rfl rfl rfl ⟨rfl, rfl, rfl, trivial⟩ fun c => ?_
  refine a_new hT hZ 20 rfl rfl rfl rfl fun g => ?_
  refine a_new hT hZ 21 rfl rfl rfl rfl fun g1 => ?_
  refine a_call hT rfl rfl rfl (by kernel_rfl) none_nil [] [] rfl rfl ?_
  rintro _ _ ⟨rfl, rfl⟩
  refine a_gt hT rfl rfl rfl rfl ?_
  refine a_t hT rfl rfl rfl ?_
  refine a_build hT hZ [.v (Value.int IntKind.i64 0) 0, .v (Value.int IntKind.i64 0) 0, .v (Value.int IntKind.u64 0) 0, .v (Value.int IntKind.i64 0) 0, .v (Value.int IntKind.i64 0) 0, .v (Value.slice none 0 0) 0] rfl rfl rfl rfl rfl rfl ?_
  refine a_build hT hZ [.v (Value.int IntKind.i64 0) 0, .v (Value.int IntKind.i64 0) 0, .v (Value.int IntKind.u64 0) 0, .v (Value.int IntKind.i64 0) 0, .v (Value.int IntKind.u64 0) 0, .v (Value.int IntKind.i64 0) 0, .v (Value.int IntKind.i64 0) 0, .v (Value.int IntKind.i64 0) 0, .v (Value.slice none 0 0) 0] rfl rfl rfl rfl rfl rfl ?_
  refine a_ret hT [] rfl rfl rfl rfl rfl rfl ?_
  exact ⟨_, [], [], nofit, Ent.refl _, rfl, rfl⟩
theorem ntake_spec {f : Fr} {h : Nat} : FSpec Try.prog 19 [.v (.pointer none) h, frA f] [] fun a cs => a = .tup [evtA noev, bA false] ∧ cs = [] := by
  refine spec_fit ?_
  refine a_enter hT [.v (.pointer none) 0, frA f] [] Try.func19 rfl rfl rfl ⟨rfl, ⟨rfl, rfl, rfl, rfl, rfl, rfl, rfl, rfl, rfl, trivial⟩, trivial⟩ fun c => ?_
  refine a_box hT 20 rfl rfl rfl rfl fun g => ?_
  refine a_new hT hZ 21 rfl rfl rfl rfl fun g1 => ?_
  refine a_draw hT [] false [(0, false), (1, true), (2, true), (3, true), (4, true), (5, true), (6, true), (7, true), (8, true), (9, true), (10, true), (11, true), (12, true), (13, false), (14, false), (15, true), (16, true), (17, true), (18, true), (19, true), (20, true)] rfl rfl (by kernel_rfl) (by kernel_rfl) rfl ?_
  refine a_call hT rfl rfl rfl (by kernel_rfl) none_nil [] [] rfl rfl ?_
  rintro _ _ ⟨rfl, rfl⟩
  refine a_gt hT rfl rfl rfl rfl ?_
  refine a_gt hT rfl rfl rfl rfl ?_
  refine a_gt hT rfl rfl rfl rfl ?_
  refine a_t hT rfl rfl rfl ?_
  refine a_build hT hZ [.v (Value.int IntKind.i64 0) 0, .v (Value.int IntKind.i64 0) 0, .v (Value.int IntKind.u64 0) 0, .v (Value.int IntKind.i64 0) 0, .v (Value.int IntKind.i64 0) 0, .v (Value.slice none 0 0) 0] rfl rfl rfl rfl rfl rfl ?_
  refine a_ret hT [] rfl rfl rfl rfl rfl rfl ?_
  exact ⟨_, [], [], nofit2, Ent.refl _, rfl, rfl⟩
theorem ntick_spec {now : Int} {h h1 : Nat} : FSpec Try.prog 14 [.v (.pointer none) h, .v (kI now) h1] [] fun a cs => a = .tup [.v (.slice none 0 0) 0, .v (.slice none 0 0) 0] ∧ cs = [] := by
  refine a_enter hT [.v (.pointer none) 0, .v (kI now) 0] [] Try.func14 rfl rfl rfl ⟨rfl, rfl, trivial⟩ fun c => ?_
  refine a_call hT rfl rfl rfl (by kernel_rfl) none_nil [] [] rfl rfl ?_
  rintro _ _ ⟨rfl, rfl⟩
  refine a_t hT rfl rfl rfl ?_
  refine a_ret hT [] rfl rfl rfl rfl rfl rfl ?_
  first | exact ⟨rfl, rfl⟩ | rfl
theorem nwake_spec {h : Nat} : FSpec Try.prog 24 [.v (.pointer none) h] [] fun a cs => a = .tup [.v (kI 0) 0, bA false] ∧ cs = [] := by
  refine a_enter hT [.v (.pointer none) 0] [] Try.func24 rfl rfl rfl ⟨rfl, trivial⟩ fun c => ?_
  refine a_call hT rfl rfl rfl (by kernel_rfl) none_nil [] [] rfl rfl ?_
  rintro _ _ ⟨rfl, rfl⟩
  refine a_t hT rfl rfl rfl ?_
  refine a_ret hT [] rfl rfl rfl rfl rfl rfl ?_
  first | exact ⟨rfl, rfl⟩ | rfl
theorem nopen_spec {h : Nat} : FSpec Try.prog 16 [.v (.pointer none) h] [] fun a cs => a = .v (.slice none 0 0) 0 ∧ cs = [] := by
  refine a_enter hT [.v (.pointer none) 0] [] Try.func16 rfl rfl rfl ⟨rfl, trivial⟩ fun c => ?_
  refine a_call hT rfl rfl rfl (by kernel_rfl) none_nil [] [] rfl rfl ?_
  rintro _ _ ⟨rfl, rfl⟩
  refine a_t hT rfl rfl rfl ?_
  refine a_ret hT [] rfl rfl rfl rfl rfl rfl ?_
  first | exact ⟨rfl, rfl⟩ | rfl
theorem nfloor_spec {h : Nat} : FSpec Try.prog 13 [.v (.pointer none) h] [] fun a cs => a = .v (kU 0) 0 ∧ cs = [] := by
  refine a_enter hT [.v (.pointer none) 0] [] Try.func13 rfl rfl rfl ⟨rfl, trivial⟩ fun c => ?_
  refine a_call hT rfl rfl rfl (by kernel_rfl) none_nil [] [] rfl rfl ?_
  rintro _ _ ⟨rfl, rfl⟩
  refine a_t hT rfl rfl rfl ?_
  refine a_ret hT [] rfl rfl rfl rfl rfl rfl ?_
  first | exact ⟨rfl, rfl⟩ | rfl
end Go.Proofs.Ytepjnmocepkfjaa
