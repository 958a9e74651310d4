/- Layer 23's client: what it is; wake, none, Floor, frame. -/
import Derived.Test.YtepjnmocepkfjaaCa
import Derived.Test.YtepjnmocepkfjaaTb
import Derived.Test.YtepjnmocepkfjaaTf
set_option linter.unusedVariables false
set_option linter.unusedSimpArgs false
namespace Go.Proofs.Ytepjnmocepkfjaa
open V A
/-- A call that hasn't completed. -/
structure CP where
  tok : Int
  meth : Int
  arg : List UInt8
  dl : Int
  att : Int
  made : Int
def mnI (p q : Int) : Int := if q < p then q else p
def wakeP (x : CP) : Int := mnI x.dl (x.made + delayP x.att)
structure CP.ok (x : CP) (last : Int) : Prop where
  t1 : 1 ≤ x.tok
  t2 : x.tok ≤ last
  m1 : 0 ≤ x.meth
  m2 : x.meth ≤ 2147483647
  a : x.arg.length ≤ 4096
  d : x.dl ≤ 1099511627776
  m : 0 ≤ x.made
  md : x.made < x.dl
  a1 : 0 ≤ x.att
  a2 : x.att < 6
theorem delayP_le (k : Int) : 0 ≤ delayP k ∧ delayP k ≤ 32 := by
  unfold delayP
  split
  · omega
  split
  · omega
  split
  · omega
  split <;> omega
abbrev callBlk (b : Nat) (x : CP) : Chunk := .blk b 72 [.v (kU x.tok) 0, .v (kI x.meth) 0, .d (A.bytesD x.arg), .v (kI x.dl) 0, .v (kI x.att) 0, .v (kI x.made) 0]
theorem w64 {x : Int} (h1 : -9223372036854775808 ≤ x) (h2 : x < 9223372036854775808) : IntKind.i64.wrap x = x := by
  unfold IntKind.wrap
  simp [IntKind.bits, IntKind.signed]
  omega
theorem wrapU {x : Int} (h1 : 0 ≤ x) (h2 : x < 18446744073709551616) : IntKind.u64.wrap x = x := by
  unfold IntKind.wrap
  simp [IntKind.bits, IntKind.signed]
  omega
/-- A call, as it lies still. -/
def callD (x : CP) : AV := .d (.p [.v (kU x.tok), .v (kI x.meth), A.bytesD x.arg, .v (kI x.dl), .v (kI x.att), .v (kI x.made)])
theorem cwake_spec {x : CP} (h1 : 0 ≤ x.made) (h2 : x.made ≤ 1099511627776) : FSpec Try.prog 30 [callD x] [] fun a cs => a = .v (kI (wakeP x)) 0 ∧ cs = [] := by
  have hd := delayP_le x.att
  have hw : IntKind.i64.wrap (x.made + delayP x.att) = x.made + delayP x.att := w64 (by omega) (by omega)
  refine a_enter hT [callD x] [] Try.func30 rfl rfl rfl ⟨rfl, trivial⟩ fun c => ?_
  refine a_draw hT [] false [(0, false), (1, false), (2, false), (3, false), (4, false), (5, false), (6, false), (7, false), (8, false), (9, false), (10, false), (11, false), (12, true), (13, false), (14, false), (15, true)] rfl rfl (by kernel_rfl) (by kernel_rfl) rfl ?_
  refine a_call hT rfl rfl rfl (by kernel_rfl) delay_spec [] [] rfl rfl ?_
  rintro _ _ ⟨rfl, rfl⟩
  refine a_ret hT [] rfl rfl rfl rfl rfl rfl ?_
  refine ⟨?_, rfl⟩
  show AV.v (.int .i64 (if _ < _ then _ else _)) 0 = _
  rw [hw]; rfl
abbrev cliBlk (g : Nat) (num last : Int) (gm gt : Nat) : Chunk := .blk g 68 [.v (kI num) 0, .v (kU last) 0, .v (.map (some gm)) 11, ptrA gt 13]
/-- A client, as it lies still. -/
def cliD (num last : Int) (gm gt : Nat) : AV := .d (.p [.v (kI num), .v (kU last), .v (.map (some gm)), .v (.pointer (some ⟨gt, 0, none⟩))])
theorem none_spec {num last : Int} {gm gt : Nat} : FSpec Try.prog 27 [cliD num last gm gt] [] fun a cs => a = bA (num == 0) ∧ cs = [] := by
  refine a_enter hT [cliD num last gm gt] [] Try.func27 rfl rfl rfl ⟨rfl, trivial⟩ fun c => ?_
  refine a_gf hT rfl rfl rfl rfl ?_
  refine a_ret hT [] rfl rfl rfl rfl rfl rfl ?_
  first | exact ⟨rfl, rfl⟩ | rfl
theorem none_nil {h : Nat} : FSpec Try.prog 27 [.v (.pointer none) h] [] fun a cs => a = bA true ∧ cs = [] := by
  refine a_enter hT [.v (.pointer none) 0] [] Try.func27 rfl rfl rfl ⟨rfl, trivial⟩ fun c => ?_
  refine a_gt hT rfl rfl rfl rfl ?_
  refine a_ret hT [] rfl rfl rfl rfl rfl rfl ?_
  first | exact ⟨rfl, rfl⟩ | rfl
def bV40 (b : Nat) : AV := ptrA b 40
instance (b : Nat) : FreeA (bV40 b) := FreeA.v _ _
instance (b : Bool) : FreeA (bA b) := FreeA.v _ _
def cmap (L : List (Nat × CP)) : List (Int × Nat) := L.map fun p => (p.2.tok, p.1)
abbrev cmapC (gm : Nat) (L : List (Nat × CP)) : Chunk := .map gm (mapG kU bV40 (cmap L))
theorem mtK : mapT Try.prog 64 25 69 = true := by kernel_rfl
theorem zeroK : (Try.prog.info? 69).map (·.zero) = some (some (.pointer none)) := by kernel_rfl
def floorP (last : Int) (L : List (Nat × CP)) : Int := match L with | [] => last + 1 | p :: _ => p.2.tok
theorem floor_min {last m : Int} {L : List (Nat × CP)} (hs : (L.map (·.2.tok)).Pairwise (· < ·)) (hl : ∀ p ∈ L, p.2.tok ≤ last) (h3 : ∀ t, (∃ b, (t, b) ∈ cmap L) → m ≤ t) (h2 : m ≤ last + 1) (h4 : m = last + 1 ∨ ∃ b, (m, b) ∈ cmap L) : m = floorP last L := by
  unfold floorP
  cases L with
  | nil =>
    rcases h4 with h | ⟨b, h⟩
    · exact h
    · simp [cmap] at h
  | cons p L =>
    have e1 : m ≤ p.2.tok := h3 _ ⟨p.1, by simp [cmap]⟩
    have e2 := hl p (by simp)
    rcases h4 with h | ⟨b, h⟩
    · show m = p.2.tok; omega
    · obtain ⟨q, hq, e⟩ := List.mem_map.1 h
      cases e
      rcases List.mem_cons.1 hq with rfl | hq
      · rfl
      · rw [List.map_cons, List.pairwise_cons] at hs
        have := hs.1 _ (List.mem_map.2 ⟨q, hq, rfl⟩)
        show q.2.tok = p.2.tok
        omega
theorem cfloor_spec {num last : Int} {gm gt : Nat} {L : List (Nat × CP)} (hn : num ≠ 0) (hs : (L.map (·.2.tok)).Pairwise (· < ·)) (hl : ∀ p ∈ L, p.2.tok ≤ last) (hl0 : 0 ≤ last) (hl1 : last < 1000000) : FSpec Try.prog 13 [cliD num last gm gt] [cmapC gm L] fun a cs => a = .v (kU (floorP last L)) 0 ∧ cs = [cmapC gm L] := by
  refine a_enter hT [cliD num last gm gt] [0] Try.func13 rfl rfl rfl ⟨rfl, trivial⟩ fun c => ?_
  refine a_call hT rfl rfl rfl (by kernel_rfl) none_spec [] [] rfl rfl ?_
  rintro _ _ ⟨rfl, rfl⟩
  refine a_f hT rfl rfl (by simpa using hn) ?_
  refine a_rangeG hT (kv := kU) (va := bV40) (h0 := 0) (cmap L) rfl rfl rfl mtK rfl rfl rfl rfl fun it => ?_
  have hw : IntKind.u64.wrap (last + 1) = last + 1 := wrapU (by omega) (by omega)
  refine a_loop hT [3, 16] (fun x : List (Bool × (Int × Nat)) × Option (Value × AV) × Int => [.v (kU x.2.2) 0, .v (.pointer (some ⟨it, 0, none⟩)) 0]) (fun x => [(0, .ext (iterA gm it (iterG kU bV40 x.1) x.2.1))])
    (fun x => x.1.map (·.2) = cmap L ∧ x.2.2 ≤ last + 1 ∧ (∀ q ∈ x.1, q.1 = true → x.2.2 ≤ q.2.1) ∧ (x.2.2 = last + 1 ∨ ∃ q ∈ x.1, x.2.2 = q.2.1)) (fun x => left x.1) ((cmap L).map fun p => (false, p), none, last + 1) [0] rfl rfl ⟨by simp [List.map_map, Function.comp_def], Int.le_refl _, by simp, .inl rfl⟩ ⟨by rw [hw]; rfl, rfl, trivial⟩ rfl ⟨rfl, trivial⟩ ?_
  rintro ⟨l, cur, m⟩ ⟨h1, h2, h3, h4⟩
  refine a_inextG hT (kv := kU) (va := bV40) l rfl rfl rfl rfl rfl rfl rfl (fun hq => ?_) (fun i k b hi => ?_)
  · refine a_f hT rfl rfl rfl ?_
    refine a_iendG 0 (kv := kU) (va := bV40) l rfl rfl rfl ?_
    have h1' : l.map (·.2) = cmap L := h1
    refine a_ret hT [0] rfl rfl rfl rfl rfl rfl ⟨?_, by rw [h1']⟩
    refine congrArg (fun x => AV.v (kU x) 0) (floor_min hs hl (fun t ht => ?_) h2 ?_)
    · obtain ⟨b, hb⟩ := ht
      rw [← h1'] at hb
      obtain ⟨q, hq', e⟩ := List.mem_map.1 hb
      have := h3 q hq' (hq q hq')
      rw [e] at this
      exact this
    · refine h4.imp id fun ⟨q, hq', e⟩ => ⟨q.2.2, ?_⟩
      rw [← h1']
      exact List.mem_map.2 ⟨q, hq', by rw [show m = q.2.1 from e]⟩
  · refine a_t hT rfl rfl rfl ?_
    refine a_ientry hT rfl rfl rfl rfl rfl rfl ?_
    have hset := (List.getElem?_eq_some_iff.1 hi).1
    have e2 : (l.set i (true, (k, b))).map (·.2) = l.map (·.2) := map_set_same (y := (true, (k, b))) _ hi rfl
    refine a_next hT (l.set i (true, (k, b)), some (kU k, bV40 b), if k < m then k else m) [0] rfl rfl ⟨⟨?_, ?_, ?_, ?_⟩, ?_⟩ ⟨rfl, rfl, trivial⟩ rfl ⟨rfl, trivial⟩
    · show (l.set i (true, (k, b))).map (·.2) = cmap L
      rw [e2]; exact h1
    · show (if k < m then k else m) ≤ last + 1
      have : m ≤ last + 1 := h2
      split <;> omega
    · intro q hq hq1
      show (if k < m then k else m) ≤ q.2.1
      rcases List.mem_or_eq_of_mem_set hq with hq | rfl
      · have : m ≤ q.2.1 := h3 q hq hq1
        split <;> omega
      · show (if k < m then k else m) ≤ k
        split <;> omega
    · show (if k < m then k else m) = last + 1 ∨ ∃ q ∈ l.set i (true, (k, b)), (if k < m then k else m) = q.2.1
      split
      · exact .inr ⟨(true, (k, b)), List.mem_set hset _, rfl⟩
      · refine h4.imp id fun ⟨q, hq', e⟩ => ?_
        have hm : q.2 ∈ (l.set i (true, (k, b))).map (·.2) := by rw [e2]; exact List.mem_map.2 ⟨q, hq', rfl⟩
        obtain ⟨q2, hq2, e3⟩ := List.mem_map.1 hm
        exact ⟨q2, hq2, by rw [e3]; exact e⟩
    · show left (l.set i (true, (k, b))) < left l
      have := left_set hi (k, b)
      omega
end Go.Proofs.Ytepjnmocepkfjaa
