/- Layer 19's table: what it is, as plain data; and what its functions do. -/
import Derived.Test.YtdconcindpfmcaaU
import Derived.Test.YtdconcindpfmcaaTb
set_option linter.unusedVariables false
set_option linter.unusedSimpArgs false
namespace Go.Proofs.Ytdconcindpfmcaa
open V A

/-! ### Plain -/
structure DE where
  done : Bool
  status : Int
  bytes : List UInt8
structure PC where
  floor : Int
  ents : List (Int × DE)
abbrev PT := List (Int × PC)
def keepE (floor : Int) (p : Int × DE) : Bool := !(p.2.done && decide (p.1 < floor))
def PC.sweep (c : PC) : PC := ⟨c.floor, c.ents.filter (keepE c.floor)⟩
def lenT (t : PT) : Nat := (t.map fun p => p.2.ents.length).sum

/-! ### In memory -/
def entAV (e : DE) : AV := .agg [.v (.bool e.done) 0, .v (.int .i64 e.status) 0, .d (A.bytesD e.bytes)]
def kU (n : Int) : Value := .int .u64 n
def kI (n : Int) : Value := .int .i64 n
theorem kU_ok : KeyOk Try.prog 43 kU := key_int (by kernel_rfl)
theorem kI_ok : KeyOk Try.prog 3 kI := key_int (by kernel_rfl)
def ptrA (g h : Nat) : AV := .v (.pointer (some ⟨g, 0, none⟩)) h

theorem mtE : mapT Try.prog 119 43 117 = true := by kernel_rfl
theorem mtC : mapT Try.prog 112 3 118 = true := by kernel_rfl
theorem zeroE : (Try.prog.info? 117).map (·.zero) = some (some (.agg #[.bool false, .int .i64 0, .slice none 0 0])) := by kernel_rfl
theorem zeroC : (Try.prog.info? 118).map (·.zero) = some (some (.pointer none)) := by kernel_rfl

/-! ### sweep -/
theorem sweep1 {gx gb r : Nat} {h h1 h2 : Nat} {tok floor : Int} {e : DE} : FSpec Try.prog 79 [.v (kU tok) h1, entAV e, .v (.pointer (some ⟨gx, 0, none⟩)) h2]
    [.blk gx 118 [ptrA gb 12], .blk gb 121 [.v (kU floor) 0, .v (.map (some r)) h]]
    fun a cs => a = .v (.bool (e.done && decide (tok < floor))) 0 ∧ cs = [.blk gx 118 [ptrA gb 12], .blk gb 121 [.v (kU floor) 0, .v (.map (some r)) h]] := by
  refine a_enter hT [.v (kU tok) 0, entAV e, .v (.pointer (some ⟨gx, 0, none⟩)) 20] [20, 12] Try.func79 rfl rfl rfl ⟨rfl, ⟨rfl, rfl, rfl, trivial⟩, rfl, trivial⟩ fun c => ?_
  refine a_box hT 21 rfl rfl rfl rfl fun g => ?_
  refine a_g hT rfl rfl rfl (fun hd => ?_) (fun hd => ?_)
  · refine a_ret hT [20, 12] rfl rfl rfl rfl rfl rfl ⟨?_, rfl⟩
    rw [hd]; rfl
  · refine a_ret hT [20, 12] rfl rfl rfl rfl rfl rfl ⟨?_, rfl⟩
    rw [hd]; rfl

theorem filter_erase {α : Type} {p : α → Bool} : ∀ {l : List α} {i : Nat} {x : α}, l[i]? = some x → p x = false → (l.eraseIdx i).filter p = l.filter p
  | [], i, x, h, hp => by simp at h
  | y :: l, 0, x, h, hp => by simp at h; subst h; simp [hp]
  | y :: l, i + 1, x, h, hp => by
    have := filter_erase (l := l) (i := i) (by simpa using h) hp
    simp only [List.eraseIdx_cons_succ, List.filter_cons, this]
theorem nodup_idel {l : List (Bool × (Int × DE))} (hn : (l.map (·.2.1)).Nodup) {i : Nat} {q : Bool × (Int × DE)} (hq : l[i]? = some q) : idel l q.2.1 = l.eraseIdx i := by
  induction l generalizing i with
  | nil => simp at hq
  | cons y l ih =>
    cases i with
    | zero => simp at hq; subst hq; simp [idel]
    | succ i =>
      rw [List.map_cons, List.nodup_cons] at hn
      have hq' : l[i]? = some q := by simpa using hq
      have hne : y.2.1 ≠ q.2.1 := fun e => hn.1 (by rw [e]; exact List.mem_map.2 ⟨q, List.mem_of_getElem? hq', rfl⟩)
      simp only [idel, hne, if_false, List.eraseIdx_cons_succ]
      rw [ih hn.2 hq']
theorem map_set_same {α β : Type} (g : α → β) {l : List α} {i : Nat} {x y : α} (h : l[i]? = some x) (e : g y = g x) : (l.set i y).map g = l.map g := by
  rw [List.map_set, e]
  apply List.ext_getElem?
  intro j
  rw [List.getElem?_set]
  split
  · rename_i hij; subst hij; have := (List.getElem?_eq_some_iff.1 h).1; rw [List.length_map, if_pos this, List.getElem?_map, h]; rfl
  · rfl
def clBlk (gb r : Nat) (floor : Int) (h : Nat) : Chunk := .blk gb 121 [.v (kU floor) 0, .v (.map (some r)) h]
set_option maxRecDepth 100000 in
theorem deleteFunc {gx gb r h1 h2 h3 : Nat} {floor : Int} {ents : List (Int × DE)} (hn : (ents.map (·.1)).Nodup) : FSpec Try.prog 78 [.v (.map (some r)) h1, .fn 79 [.v (.pointer (some ⟨gx, 0, none⟩)) h2]]
    [.map r (mapG kU entAV ents), .blk gx 118 [ptrA gb 12], clBlk gb r floor h3]
    fun a cs => cs = [.map r (mapG kU entAV (ents.filter (keepE floor))), .blk gx 118 [ptrA gb 12], clBlk gb r floor h3] := by
  refine a_enter hT [.v (.map (some r)) 10, .fn 79 [.v (.pointer (some ⟨gx, 0, none⟩)) 20]] [10, 20, 12] Try.func78 rfl rfl rfl ⟨rfl, ⟨rfl, rfl, trivial⟩, trivial⟩ fun c => ?_
  refine a_rangeG hT (kv := kU) (va := entAV) ents rfl rfl rfl mtE rfl rfl rfl rfl fun it => ?_
  refine a_loop hT [0, 1, 7] (fun _ : List (Bool × (Int × DE)) × Option (Value × AV) => [.v (.map (some r)) 10, .fn 79 [.v (.pointer (some ⟨gx, 0, none⟩)) 20], .v (.pointer (some ⟨it, 0, none⟩)) 10])
    (fun x => [(10, .ext (iterA r it (iterG kU entAV x.1) x.2)), (20, .blk gx 118 [ptrA gb 12]), (12, clBlk gb r floor h3)])
    (fun x => (x.1.map (·.2)).filter (keepE floor) = ents.filter (keepE floor) ∧ (∀ q ∈ x.1, q.1 = true → keepE floor q.2 = true) ∧ (x.1.map (·.2.1)).Nodup) (fun x => left x.1) (ents.map fun p => (false, p), none) [10, 20, 12] rfl rfl
    ⟨by simp [List.map_map, Function.comp_def], by simp, by simpa [List.map_map, Function.comp_def] using hn⟩ ⟨rfl, ⟨rfl, rfl, trivial⟩, rfl, trivial⟩ rfl ⟨rfl, ⟨rfl, rfl, rfl, trivial⟩, ⟨rfl, rfl, rfl, rfl, trivial⟩, trivial⟩ ?_
  rintro ⟨l, cur⟩ ⟨h1, h2, h3⟩
  refine a_inextG hT (kv := kU) (va := entAV) l rfl rfl rfl rfl rfl rfl rfl (fun hq => ?_) (fun i k e hi => ?_)
  · refine a_f hT rfl rfl rfl ?_
    refine a_iendG 10 (kv := kU) (va := entAV) l rfl rfl rfl ?_
    refine a_end hT [10, 20, 12] rfl rfl rfl rfl rfl rfl ?_
    have : l.map (·.2) = ents.filter (keepE floor) := by
      rw [← h1, List.filter_eq_self.2]
      intro p hp
      obtain ⟨q, hq', rfl⟩ := List.mem_map.1 hp
      exact h2 q hq' (hq q hq')
    rw [this]
  · refine a_t hT rfl rfl rfl ?_
    refine a_ientry hT rfl rfl rfl rfl rfl rfl ?_
    refine a_new hT hZ 21 rfl rfl rfl rfl fun g => ?_
    refine a_callv hT rfl rfl rfl rfl (by kernel_rfl) sweep1 [20, 12] [20, 12] rfl rfl ?_
    rintro _ _ ⟨rfl, rfl⟩
    have hset := (List.getElem?_eq_some_iff.1 hi).1
    have hi1 : (l.set i (true, (k, e)))[i]? = some (true, (k, e)) := by simp [hset]
    have e2 : (l.set i (true, (k, e))).map (·.2) = l.map (·.2) := map_set_same _ hi rfl
    have e3 : (l.set i (true, (k, e))).map (·.2.1) = l.map (·.2.1) := map_set_same _ hi rfl
    refine a_if hT rfl rfl (fun hd => ?_) (fun hd => ?_)
    · refine a_idelG hT (kv := kU) (va := entAV) (l.set i (true, (k, e))) k rfl rfl rfl rfl mtE kU_ok rfl rfl rfl rfl rfl ?_
      have hdel := nodup_idel (by rw [e3]; exact h3) hi1
      have hkeep : keepE floor (k, e) = false := by unfold keepE; rw [hd]; rfl
      refine a_next hT (idel (l.set i (true, (k, e))) k, none) [10, 20, 12] rfl rfl ⟨⟨?_, ?_, ?_⟩, ?_⟩ ⟨rfl, ⟨rfl, rfl, trivial⟩, rfl, trivial⟩ rfl ⟨rfl, ⟨rfl, rfl, rfl, trivial⟩, ⟨rfl, rfl, rfl, rfl, trivial⟩, trivial⟩
      · show ((idel (l.set i (true, (k, e))) k).map (·.2)).filter (keepE floor) = _
        rw [hdel, map_erase, filter_erase (x := (k, e)) (by rw [List.getElem?_map, hi1]; rfl) hkeep, e2, h1]
      · intro q hq hq1
        rw [hdel] at hq
        obtain ⟨j, hj, hje⟩ := List.mem_eraseIdx_iff_getElem?.1 hq
        rw [List.getElem?_set_ne (Ne.symm hj)] at hje
        exact h2 q (List.mem_of_getElem? hje) hq1
      · show ((idel (l.set i (true, (k, e))) k).map (·.2.1)).Nodup
        rw [hdel, map_erase, e3]
        exact h3.sublist (List.eraseIdx_sublist _ _)
      · show left (idel (l.set i (true, (k, e))) k) < left l
        rw [hdel]
        have := left_set hi (k, e)
        have := left_sub (List.eraseIdx_sublist (l.set i (true, (k, e))) i)
        omega
    · have hkeep : keepE floor (k, e) = true := by unfold keepE; rw [hd]; rfl
      refine a_next hT (l.set i (true, (k, e)), some (kU k, entAV e)) [10, 20, 12] rfl rfl ⟨⟨?_, ?_, ?_⟩, ?_⟩ ⟨rfl, ⟨rfl, rfl, trivial⟩, rfl, trivial⟩ rfl ⟨rfl, ⟨rfl, rfl, rfl, trivial⟩, ⟨rfl, rfl, rfl, rfl, trivial⟩, trivial⟩
      · show ((l.set i (true, (k, e))).map (·.2)).filter (keepE floor) = _
        rw [e2, h1]
      · intro q hq hq1
        rcases List.mem_or_eq_of_mem_set hq with hq | rfl
        · exact h2 q hq hq1
        · exact hkeep
      · show ((l.set i (true, (k, e))).map (·.2.1)).Nodup
        rw [e3]; exact h3
      · show left (l.set i (true, (k, e))) < left l
        have := left_set hi (k, e)
        omega
/-- sweep drops what is done below the floor. -/
theorem sweep_spec {gb r h1 h3 : Nat} {floor : Int} {ents : List (Int × DE)} (hn : (ents.map (·.1)).Nodup) : FSpec Try.prog 64 [.v (.pointer (some ⟨gb, 0, none⟩)) h1]
    [clBlk gb r floor h3, .map r (mapG kU entAV ents)] fun a cs => cs = [clBlk gb r floor h3, .map r (mapG kU entAV (ents.filter (keepE floor)))] := by
  refine FSpec.fit (args' := [ptrA gb 12]) (cs' := [clBlk gb r floor 10, .map r (mapG kU entAV ents)]) ?_ ⟨rfl, trivial⟩ ⟨⟨rfl, rfl, rfl, rfl, trivial⟩, ⟨rfl, rfl⟩, trivial⟩
  refine a_enter hT [ptrA gb 12] [12, 10] Try.func64 rfl rfl rfl ⟨rfl, trivial⟩ fun c => ?_
  refine a_box hT 20 rfl rfl rfl rfl fun g => ?_
  refine a_call hT rfl rfl rfl (by kernel_rfl) (deleteFunc hn) [10, 20, 12] [10, 20, 12] rfl rfl ?_
  rintro _ _ rfl
  refine a_ent [12] [12] [clBlk gb r floor h3] rfl rfl (Ent.fits ⟨⟨rfl, rfl, rfl, rfl, trivial⟩, trivial⟩) ?_
  refine a_end hT [12, 10] rfl rfl rfl rfl rfl rfl ?_
  rfl

end Go.Proofs.Ytdconcindpfmcaa
