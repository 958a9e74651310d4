/- The reference's timers (layer 15's document): Stop, Set, Due, Next. -/
import Derived.Test.YtdconcindpfmcaaEk
set_option linter.unusedVariables false
set_option linter.unusedSimpArgs false
namespace Go.Proofs.Ytdconcindpfmcaa
open V A
def tD (p : Int × Int) : List A.Dat := [.v (kU p.1), .v (kI p.2)]
def rBlk (g : Nat) (L : TS) : Chunk := .blk g 77 [.d (.sl 2 (L.map tD))]
theorem elT : elemOk Try.prog 88 2 = true := by kernel_rfl
theorem eraseIdx_filt : ∀ {L : TS} {i : Nat} {p : Int × Int}, (L.map (·.1)).Nodup → L[i]? = some p → L.eraseIdx i = filt p.1 L
  | [], i, p, hn, h => by simp at h
  | q :: L, 0, p, hn, h => by
    simp at h
    subst h
    rw [List.map_cons, List.nodup_cons] at hn
    rw [List.eraseIdx_cons_zero, filt_self, filt_no hn.1]
  | q :: L, i + 1, p, hn, h => by
    rw [List.map_cons, List.nodup_cons] at hn
    have h' : L[i]? = some p := by simpa using h
    have hne : q.1 ≠ p.1 := fun e => hn.1 (by rw [e]; exact List.mem_map.2 ⟨p, List.mem_of_getElem? h', rfl⟩)
    rw [List.eraseIdx_cons_succ, eraseIdx_filt hn.2 h']
    unfold filt
    rw [List.filter_cons, if_pos (by simp [hne])]
theorem aget_take_none {L : TS} {k : Int} {i : Nat} (h : ∀ p ∈ L.take i, p.1 ≠ k) (hi : L.length ≤ i) : aget L k = none := by
  rw [List.take_of_length_le hi] at h
  exact aget_none fun hm => by obtain ⟨p, hp, e⟩ := List.mem_map.1 hm; exact h p hp e
set_option maxRecDepth 100000 in
theorem rstop_spec {g h h1 : Nat} {L : TS} {k : Int} (hn : (L.map (·.1)).Nodup) (hl : L.length < 999999) : FSpec Try.prog 48 [ptrA g h, .v (kU k) h1] [rBlk g L] fun a cs => a = .v (.bool (aget L k).isSome) 0 ∧ cs = [rBlk g (filt k L)] := by
  refine a_enter hT [ptrA g 10, .v (kU k) 0] [10] Try.func48 rfl rfl rfl ⟨rfl, rfl, trivial⟩ fun c => ?_
  refine a_loop hT [0, 1, 10, 11] (fun i : Nat => [ptrA g 10, .v (kU k) 0, nA L.length, nA i]) (fun _ => [(10, rBlk g L)]) (fun i => i ≤ L.length ∧ ∀ p ∈ L.take i, p.1 ≠ k) (fun i => L.length - i) 0 [10] rfl rfl ⟨by omega, by simp⟩
    ⟨rfl, rfl, by show Value.int .i64 (((L.map tD).length : Int)) = .int .i64 (L.length : Int); rw [List.length_map], rfl, trivial⟩ rfl ⟨⟨rfl, rfl, rfl, trivial⟩, trivial⟩ ?_
  rintro i ⟨hi, hno⟩
  refine a_if hT rfl rfl (fun hb => ?_) (fun hb => ?_)
  rotate_left
  · have hi' : ¬ (i : Int) < (L.length : Int) := of_decide_eq_false hb
    have hag := aget_take_none (k := k) hno (by omega)
    have hf : filt k L = L := filt_no fun hm => by
      obtain ⟨p, hp, e⟩ := List.mem_map.1 hm
      exact hno p (by rw [List.take_of_length_le (by omega)]; exact hp) e
    exact a_ret hT [10] rfl rfl rfl rfl rfl rfl ⟨by rw [hag]; rfl, by rw [hf]⟩
  have hi' : i < L.length := by
    have : (i : Int) < (L.length : Int) := of_decide_eq_true hb
    omega
  have e1 : (L.map tD)[((i : Nat) : Int).toNat]? = some (tD L[i]) := by simp [hi']
  refine a_ix hT (tD L[i]) rfl rfl rfl rfl rfl rfl (by omega) e1 ?_
  refine a_if hT rfl rfl (fun hk => ?_) (fun hk => ?_)
  · have hk' : L[i].1 = k := by simpa using hk
    have hw : IntKind.i64.wrap ((i : Int) + 1) = ((i + 1 : Nat) : Int) := by rw [wrap64 (by omega) (by omega)]; rfl
    have hlen : (L.map tD).length = L.length := by rw [List.length_map]
    refine a_draw hT [] true [(0, false), (2, false), (6, false), (9, false), (13, false), (3, false), (10, false), (14, false), (4, false), (11, false), (5, false), (12, false), (7, false), (15, false), (1, true), (8, true), (16, true), (17, false), (18, false), (19, true)] rfl rfl (by kernel_rfl) (by kernel_rfl) rfl ?_
    refine a_sl hT 0 i ((L.map tD).take i) rfl rfl rfl rfl rfl rfl ⟨.i64, 0, rfl⟩ (by omega) (by omega) (by simp) ?_
    refine a_sl hT (i + 1) L.length ((L.map tD).drop (i + 1)) rfl rfl rfl rfl rfl ⟨.i64, 0, by show AV.v (.int .i64 (IntKind.i64.wrap ((i : Int) + 1))) 0 = _; rw [hw]⟩ hlen.symm (by omega) (by omega) (List.take_of_length_le (by rw [List.length_drop, hlen]; omega)) ?_
    refine a_lit hT 50 rfl rfl rfl rfl elT rfl rfl rfl rfl fun y => ?_
    refine a_app hT 51 ((L.map tD).take i) rfl rfl rfl rfl elT rfl rfl rfl rfl rfl rfl (by simp; unfold lim; omega) fun y2 => ?_
    refine a_app hT 52 ((L.eraseIdx i).map tD) rfl rfl rfl rfl elT rfl rfl rfl rfl rfl (by rw [List.eraseIdx_eq_take_drop_succ, List.map_append, List.map_take, List.map_drop]) (by simp; unfold lim; omega) fun y3 => ?_
    refine a_run hT 6 rfl rfl ?_
    refine a_freezeB 10 0 52 rfl rfl rfl rfl rfl ?_
    have hf : L.eraseIdx i = filt k L := by rw [← hk']; exact eraseIdx_filt hn (List.getElem?_eq_getElem hi')
    have hag : aget L k = some L[i].2 := by
      refine aget_of_mem hn ?_
      rw [← hk']
      exact List.getElem_mem hi'
    exact a_ret hT [10] rfl rfl rfl rfl rfl rfl ⟨by rw [hag]; rfl, by rw [← hf]; rfl⟩
  · have hk' : ¬ L[i].1 = k := by simpa using hk
    refine a_next hT (i + 1) [10] rfl rfl ⟨⟨by omega, fun p hp => ?_⟩, by omega⟩ ⟨rfl, rfl, rfl, by show Value.int .i64 (IntKind.i64.wrap ((i : Int) + 1)) = .int .i64 ((i + 1 : Nat) : Int); rw [wrap64 (by omega) (by omega)]; rfl, trivial⟩ rfl ⟨⟨rfl, rfl, rfl, trivial⟩, trivial⟩
    rw [List.take_add_one] at hp
    rcases List.mem_append.1 hp with hp | hp
    · exact hno p hp
    · rw [List.getElem?_eq_getElem hi'] at hp
      simp at hp
      subst hp
      exact hk'
instance (p q : Int × Int) : Decidable (LK p q) := by unfold LK; exact inferInstance
def insL : TS → Int × Int → TS
  | [], p => [p]
  | q :: l, p => if LK q p then q :: insL l p else p :: q :: l
theorem insL_at : ∀ {l : TS} {p : Int × Int} {n : Nat}, n ≤ l.length → (∀ q ∈ l.take n, LK q p) → (∀ q, l[n]? = some q → ¬ LK q p) → insL l p = l.take n ++ p :: l.drop n
  | [], p, n, h, h1, h2 => by simp at h; subst h; rfl
  | q :: l, p, 0, h, h1, h2 => by
    unfold insL
    rw [if_neg (h2 q rfl)]
    rfl
  | q :: l, p, n + 1, h, h1, h2 => by
    unfold insL
    rw [if_pos (h1 q (by simp)), insL_at (n := n) (by simpa using h) (fun r hr => h1 r (by rw [List.take_succ_cons]; exact List.mem_cons_of_mem _ hr)) (fun r hr => h2 r (by simpa using hr))]
    rfl
set_option maxRecDepth 100000 in
theorem rset_spec {g h h1 h2 : Nat} {L : TS} {k d : Int} (hn : (L.map (·.1)).Nodup) (hl : L.length < 999998) : FSpec Try.prog 46 [ptrA g h, .v (kU k) h1, .v (kI d) h2] [rBlk g L] fun _ cs => cs = [rBlk g (insL (filt k L) (k, d))] := by
  refine a_enter hT [ptrA g 10, .v (kU k) 0, .v (kI d) 0] [10] Try.func46 rfl rfl rfl ⟨rfl, rfl, rfl, trivial⟩ fun c => ?_
  refine a_call hT rfl rfl rfl (by kernel_rfl) (rstop_spec (g := g) (h := 10) (h1 := 0) (k := k) hn (by omega)) [10] [10] rfl rfl ?_
  rintro _ _ ⟨rfl, rfl⟩
  have hll : (filt k L).length ≤ L.length := List.length_filter_le _ _
  generalize hL1 : filt k L = L1 at hll
  have hlen : (L1.map tD).length = L1.length := by rw [List.length_map]
  refine a_cutM hT [0, 1, 2, 6] (fun n : Nat => [ptrA g 10, .v (kU k) 0, .v (kI d) 0, nA n]) (fun _ => [(10, rBlk g L1)]) (fun n => n ≤ L1.length ∧ (∀ q ∈ L1.take n, LK q (k, d)) ∧ ∀ q, L1[n]? = some q → ¬ LK q (k, d)) 7 rfl rfl ?_ ?_
  · refine a_loop hT [0, 1, 2, 6] (fun n : Nat => [ptrA g 10, .v (kU k) 0, .v (kI d) 0, nA n]) (fun _ => [(10, rBlk g L1)]) (fun n => n ≤ L1.length ∧ ∀ q ∈ L1.take n, LK q (k, d)) (fun n => L1.length - n) 0 [10] rfl rfl ⟨by omega, by simp⟩ ⟨rfl, rfl, rfl, rfl, trivial⟩ rfl ⟨⟨rfl, rfl, rfl, trivial⟩, trivial⟩ ?_
    rintro n ⟨h1, h2⟩
    refine a_g hT rfl rfl rfl (fun hb => ?_) (fun hb => ?_)
    rotate_left
    · have hb' : ¬ (n : Int) < ((L1.map tD).length : Int) := of_decide_eq_false hb
      rw [hlen] at hb'
      refine a_f hT rfl rfl rfl ?_
      exact a_next hT n [10] rfl rfl ⟨h1, h2, fun q hq => by have := (List.getElem?_eq_some_iff.1 hq).1; omega⟩ ⟨rfl, rfl, rfl, rfl, trivial⟩ rfl ⟨⟨rfl, rfl, rfl, trivial⟩, trivial⟩
    have hi : n < L1.length := by
      have : (n : Int) < ((L1.map tD).length : Int) := of_decide_eq_true hb
      rw [hlen] at this
      omega
    have hgn : L1[n]? = some L1[n] := List.getElem?_eq_getElem hi
    have e1 : (L1.map tD)[((n : Nat) : Int).toNat]? = some (tD L1[n]) := by simp [hi]
    have hw : IntKind.i64.wrap ((n : Int) + 1) = ((n + 1 : Nat) : Int) := by rw [wrap64 (by omega) (by omega)]; rfl
    have hnext : LK L1[n] (k, d) → (n + 1 ≤ L1.length ∧ ∀ q ∈ L1.take (n + 1), LK q (k, d)) ∧ L1.length - (n + 1) < L1.length - n := fun hlt => by
      refine ⟨⟨hi, fun q hq => ?_⟩, by omega⟩
      rw [List.take_add_one] at hq
      rcases List.mem_append.1 hq with hq | hq
      · exact h2 q hq
      · rw [hgn] at hq
        simp at hq
        subst hq
        exact hlt
    have hstop : ¬ LK L1[n] (k, d) → n ≤ L1.length ∧ (∀ q ∈ L1.take n, LK q (k, d)) ∧ ∀ q, L1[n]? = some q → ¬ LK q (k, d) := fun hnl => ⟨h1, h2, fun q hq => by rw [hgn] at hq; cases hq; exact hnl⟩
    refine a_ix hT (tD L1[n]) rfl rfl rfl rfl rfl rfl (by omega) e1 ?_
    refine a_g hT rfl rfl rfl (fun hd => ?_) (fun hd => ?_)
    · have hd' : L1[n].2 < d := of_decide_eq_true hd
      refine a_t hT rfl rfl rfl ?_
      exact a_next hT (n + 1) [10] rfl rfl (hnext (.inl hd')) ⟨rfl, rfl, rfl, by show Value.int .i64 (IntKind.i64.wrap ((n : Int) + 1)) = .int .i64 ((n + 1 : Nat) : Int); rw [hw], trivial⟩ rfl ⟨⟨rfl, rfl, rfl, trivial⟩, trivial⟩
    have hd' : ¬ L1[n].2 < d := of_decide_eq_false hd
    refine a_ix hT (tD L1[n]) rfl rfl rfl rfl rfl rfl (by omega) e1 ?_
    refine a_g hT rfl rfl rfl (fun he => ?_) (fun he => ?_)
    rotate_left
    · have he' : ¬ L1[n].2 = d := by simpa using he
      refine a_f hT rfl rfl rfl ?_
      exact a_next hT n [10] rfl rfl (hstop (by unfold LK; simp only; omega)) ⟨rfl, rfl, rfl, rfl, trivial⟩ rfl ⟨⟨rfl, rfl, rfl, trivial⟩, trivial⟩
    have he' : L1[n].2 = d := by simpa using he
    refine a_ix hT (tD L1[n]) rfl rfl rfl rfl rfl rfl (by omega) e1 ?_
    refine a_if hT rfl rfl (fun hk => ?_) (fun hk => ?_)
    · have hk' : L1[n].1 < k := of_decide_eq_true hk
      exact a_next hT (n + 1) [10] rfl rfl (hnext (.inr ⟨he', hk'⟩)) ⟨rfl, rfl, rfl, by show Value.int .i64 (IntKind.i64.wrap ((n : Int) + 1)) = .int .i64 ((n + 1 : Nat) : Int); rw [hw], trivial⟩ rfl ⟨⟨rfl, rfl, rfl, trivial⟩, trivial⟩
    · have hk' : ¬ L1[n].1 < k := of_decide_eq_false hk
      exact a_next hT n [10] rfl rfl (hstop (by unfold LK; simp only; omega)) ⟨rfl, rfl, rfl, rfl, trivial⟩ rfl ⟨⟨rfl, rfl, rfl, trivial⟩, trivial⟩
  · rintro n ⟨h1, h2, h3⟩
    have hins := insL_at h1 h2 h3
    rw [hins]
    refine a_run hT 3 rfl rfl ?_
    refine a_nilrow 7 50 88 2 rfl rfl ?_
    refine a_sl hT 0 n ((L1.map tD).take n) rfl rfl rfl rfl rfl rfl ⟨.i64, 0, rfl⟩ (by omega) (by omega) (by simp) ?_
    refine a_app hT 51 ((L1.map tD).take n) rfl rfl rfl rfl elT rfl rfl rfl rfl rfl rfl (by simp; unfold lim; omega) fun y1 => ?_
    refine a_build hT hZ [.v (kU k) 0, .v (kI d) 0] rfl rfl rfl rfl rfl rfl ?_
    refine a_lit hT 52 rfl rfl rfl rfl elT rfl rfl rfl rfl fun y2 => ?_
    refine a_app hT 53 ((L1.map tD).take n ++ [tD (k, d)]) rfl rfl rfl rfl elT rfl rfl rfl rfl rfl rfl (by simp; unfold lim; omega) fun y3 => ?_
    refine a_sl hT n L1.length ((L1.map tD).drop n) rfl rfl rfl rfl rfl ⟨.i64, 0, rfl⟩ hlen.symm (by omega) (by omega) (List.take_of_length_le (by rw [List.length_drop, hlen]; omega)) ?_
    refine a_app hT 54 (((L1.map tD).take n ++ [tD (k, d)]) ++ (L1.map tD).drop n) rfl rfl rfl rfl elT rfl rfl rfl rfl rfl rfl (by simp; unfold lim; omega) fun y4 => ?_
    refine a_run hT 4 rfl rfl ?_
    refine a_freezeB 10 0 54 rfl rfl rfl rfl rfl ?_
    refine a_end hT [10] rfl rfl rfl rfl rfl rfl ?_
    have e : ((L1.map tD).take n ++ [tD (k, d)]) ++ (L1.map tD).drop n = (L1.take n ++ (k, d) :: L1.drop n).map tD := by
      rw [List.map_append, List.map_cons, List.map_take, List.map_drop]
      simp
    unfold rBlk
    rw [← e]
    rfl
set_option maxRecDepth 100000 in
theorem rdue_spec {g h h1 : Nat} {L : TS} {k : Int} (hn : (L.map (·.1)).Nodup) (hl : L.length < 999999) : FSpec Try.prog 51 [ptrA g h, .v (kU k) h1] [rBlk g L] fun a cs => a = dueT L k ∧ cs = [rBlk g L] := by
  refine FSpec.weak (R := fun a cs => Fit a (dueT L k) ∧ cs = [rBlk g L]) ?_ fun a cs ⟨h1, h2⟩ => ⟨dueT L k, [rBlk g L], [], h1, by rw [h2]; exact Ent.refl _, rfl, rfl⟩
  refine a_enter hT [ptrA g 10, .v (kU k) 0] [10] Try.func51 rfl rfl rfl ⟨rfl, rfl, trivial⟩ fun c => ?_
  refine a_loop hT [0, 1, 11, 12] (fun i : Nat => [ptrA g 10, .v (kU k) 0, nA L.length, nA i]) (fun _ => [(10, rBlk g L)]) (fun i => i ≤ L.length ∧ ∀ p ∈ L.take i, p.1 ≠ k) (fun i => L.length - i) 0 [10] rfl rfl ⟨by omega, by simp⟩
    ⟨rfl, rfl, by show Value.int .i64 (((L.map tD).length : Int)) = .int .i64 (L.length : Int); rw [List.length_map], rfl, trivial⟩ rfl ⟨⟨rfl, rfl, rfl, trivial⟩, trivial⟩ ?_
  rintro i ⟨hi, hno⟩
  refine a_if hT rfl rfl (fun hb => ?_) (fun hb => ?_)
  rotate_left
  · have hi' : ¬ (i : Int) < (L.length : Int) := of_decide_eq_false hb
    have hag := aget_take_none (k := k) hno (by omega)
    exact a_ret hT [10] rfl rfl rfl rfl rfl rfl ⟨by unfold dueT; rw [hag]; exact ⟨rfl, rfl, trivial⟩, rfl⟩
  have hi' : i < L.length := by
    have : (i : Int) < (L.length : Int) := of_decide_eq_true hb
    omega
  have e1 : (L.map tD)[((i : Nat) : Int).toNat]? = some (tD L[i]) := by simp [hi']
  refine a_ix hT (tD L[i]) rfl rfl rfl rfl rfl rfl (by omega) e1 ?_
  refine a_if hT rfl rfl (fun hk => ?_) (fun hk => ?_)
  · have hk' : L[i].1 = k := by simpa using hk
    refine a_ix hT (tD L[i]) rfl rfl rfl rfl rfl rfl (by omega) e1 ?_
    have hag : aget L k = some L[i].2 := by
      refine aget_of_mem hn ?_
      rw [← hk']
      exact List.getElem_mem hi'
    exact a_ret hT [10] rfl rfl rfl rfl rfl rfl ⟨by unfold dueT; rw [hag]; exact ⟨rfl, rfl, trivial⟩, rfl⟩
  · have hk' : ¬ L[i].1 = k := by simpa using hk
    refine a_next hT (i + 1) [10] rfl rfl ⟨⟨by omega, fun p hp => ?_⟩, by omega⟩ ⟨rfl, rfl, rfl, by show Value.int .i64 (IntKind.i64.wrap ((i : Int) + 1)) = .int .i64 ((i + 1 : Nat) : Int); rw [wrap64 (by omega) (by omega)]; rfl, trivial⟩ rfl ⟨⟨rfl, rfl, rfl, trivial⟩, trivial⟩
    rw [List.take_add_one] at hp
    rcases List.mem_append.1 hp with hp | hp
    · exact hno p hp
    · rw [List.getElem?_eq_getElem hi'] at hp
      simp at hp
      subst hp
      exact hk'
def RNext (L : TS) (now : Int) (a : AV) (L' : TS) : Prop :=
  ((L = [] ∨ ∃ p, L[0]? = some p ∧ p.2 > now) ∧ L' = L ∧ a = .tup [.v (kU 0) 0, .v (.bool false) 0]) ∨ ∃ p, L[0]? = some p ∧ p.2 ≤ now ∧ L' = filt p.1 L ∧ a = .tup [.v (kU p.1) 0, .v (.bool true) 0]
set_option maxRecDepth 100000 in
theorem rnext_spec {g h h1 : Nat} {L : TS} {now : Int} (hn : (L.map (·.1)).Nodup) (hl : L.length < 999999) : FSpec Try.prog 49 [ptrA g h, .v (kI now) h1] [rBlk g L] fun a cs => ∃ L', RNext L now a L' ∧ cs = [rBlk g L'] := by
  refine FSpec.weak (R := fun a cs => ∃ a' L', Fit a a' ∧ RNext L now a' L' ∧ cs = [rBlk g L']) ?_ fun a cs ⟨a', L', h1, h2, h3⟩ => ⟨a', [rBlk g L'], [], h1, by rw [h3]; exact Ent.refl _, L', h2, rfl⟩
  refine a_enter hT [ptrA g 10, .v (kI now) 0] [10] Try.func49 rfl rfl rfl ⟨rfl, rfl, trivial⟩ fun c => ?_
  cases L with
  | nil =>
    refine a_gt hT rfl rfl rfl rfl ?_
    refine a_t hT rfl rfl rfl ?_
    exact a_ret hT [10] rfl rfl rfl rfl rfl rfl ⟨.tup [.v (kU 0) 0, .v (.bool false) 0], [], ⟨rfl, rfl, trivial⟩, .inl ⟨.inl rfl, rfl, rfl⟩, rfl⟩
  | cons p L =>
    have e1 : ((p :: L).map tD)[((0 : Int)).toNat]? = some (tD p) := rfl
    refine a_gf hT rfl rfl rfl (by show ((((p :: L).map tD).length : Int) == 0) = false; simp; omega) ?_
    refine a_ix hT (tD p) rfl rfl rfl rfl rfl rfl (by decide) e1 ?_
    refine a_if hT rfl rfl (fun hb => ?_) (fun hb => ?_)
    · have hb' : p.2 > now := of_decide_eq_true hb
      exact a_ret hT [10] rfl rfl rfl rfl rfl rfl ⟨.tup [.v (kU 0) 0, .v (.bool false) 0], p :: L, ⟨rfl, rfl, trivial⟩, .inl ⟨.inr ⟨p, rfl, hb'⟩, rfl, rfl⟩, rfl⟩
    · have hb' : ¬ p.2 > now := of_decide_eq_false hb
      refine a_ix hT (tD p) rfl rfl rfl rfl rfl rfl (by decide) e1 ?_
      refine a_callF hT rfl rfl rfl (by kernel_rfl) (rstop_spec (g := g) (h := 10) (h1 := 0) (k := p.1) hn hl) [10] [10] ⟨rfl, rfl, trivial⟩ rfl ⟨⟨rfl, rfl, rfl, trivial⟩, trivial⟩ ?_
      rintro _ _ ⟨rfl, rfl⟩
      exact a_ret hT [10] rfl rfl rfl rfl rfl rfl ⟨.tup [.v (kU p.1) 0, .v (.bool true) 0], filt p.1 (p :: L), ⟨rfl, rfl, trivial⟩, .inr ⟨p, rfl, by omega, rfl, rfl⟩, rfl⟩
end Go.Proofs.Ytdconcindpfmcaa
