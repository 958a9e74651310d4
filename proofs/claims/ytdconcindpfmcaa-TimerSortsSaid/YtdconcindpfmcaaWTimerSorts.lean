/- TimerSorts: the walk and what it computes. -/
import Derived.Test.YtdconcindpfmcaaEk
set_option linter.unusedVariables false
set_option linter.unusedSimpArgs false
namespace Go.Proofs.Ytdconcindpfmcaa
open V A
structure OkS (S : TS) (n : Nat) : Prop where
  nd : (S.map (·.1)).Nodup
  len : S.length ≤ n
  lo : ∀ p ∈ S, -9223372036854775808 ≤ p.2 ∧ p.2 ≤ 9223372036854775807
theorem OkS.set {S : TS} {n : Nat} (h : OkS S n) (k d : Int) (h1 : -9223372036854775808 ≤ d) (h2 : d ≤ 9223372036854775807) : OkS (setP S k d) (n + 1) := by
  refine ⟨?_, ?_, ?_⟩
  · unfold setP
    rw [List.map_cons, List.nodup_cons]
    refine ⟨fun hm => ?_, h.nd.sublist ((List.filter_sublist).map _)⟩
    obtain ⟨p, hp, e⟩ := List.mem_map.1 hm
    have := (List.mem_filter.1 hp).2
    simp at this
    exact this e
  · unfold setP filt
    have := List.length_filter_le (fun p : Int × Int => decide (p.1 ≠ k)) S
    have := h.len
    simp only [List.length_cons]
    omega
  · intro p hp
    rcases List.mem_cons.1 hp with e | hp
    · subst e; exact ⟨h1, h2⟩
    · exact h.lo p (List.mem_filter.1 hp).1
theorem key_apart {S : TS} (h : (S.map (·.1)).Nodup) {p : Int × Int} (hp : p ∈ S) {r : Int × Int} (hr : r ∈ filt p.1 S) : r ∈ S ∧ r.1 ≠ p.1 := by
  have := List.mem_filter.1 hr
  simp at this
  exact this
theorem filt_len {S : TS} (h : (S.map (·.1)).Nodup) {p : Int × Int} (hp : p ∈ S) : (filt p.1 S).length + 1 = S.length := by
  obtain ⟨a, b, hab⟩ := List.append_of_mem hp
  have h1 : S.Perm ((p.1, p.2) :: (a ++ b)) := by rw [hab]; exact List.perm_middle
  have h2 := (filt_one h1 h).1.length_eq
  have h3 := h1.length_eq
  simp only [List.length_cons] at h3
  omega
structure SX where
  i : Nat
  S : TS
  n : Int
structure SY where
  i : Nat
  S : TS
  last : Int
  key : Int
def kD (l : List Int) : AV := .d (.sl 1 (l.map fun k => [A.Dat.v (kU k)]))
def dD (l : List Int) : AV := .d (.sl 1 (l.map fun k => [A.Dat.v (kI k)]))
set_option maxRecDepth 100000 in
theorem timerSorts_spec {ks ds : List Int} (hd : ∀ d ∈ ds, -9223372036854775808 ≤ d ∧ d ≤ 9223372036854775807) : FSpec Try.prog 11 [kD ks, dD ds] [] fun a _ => a = .v (.bool true) 0 := by
  refine a_enter hT [kD ks, dD ds] [] Try.func11 rfl rfl rfl (Fits.refl _) fun c => ?_
  refine a_call hT rfl rfl rfl (by kernel_rfl) tawake_spec [] [] rfl rfl ?_
  rintro _ _ ⟨rfl, rfl⟩
  refine a_gf hT rfl rfl rfl rfl ?_
  refine a_if hT rfl rfl (fun hb => ?_) (fun hb => ?_)
  · refine a_call hT rfl rfl rfl (by kernel_rfl) tawake_spec [] [] rfl rfl ?_
    rintro _ _ ⟨rfl, rfl⟩
    exact a_ret hT [] rfl rfl rfl rfl rfl rfl rfl
  have hkl : ks.length ≤ 200 := by
    have : ¬ (((ks.map fun k => [A.Dat.v (kU k)]).length : Int) > 200) := of_decide_eq_false hb
    rw [List.length_map] at this
    omega
  refine a_call hT rfl rfl rfl (by kernel_rfl) tnew_spec [] [10] rfl rfl ?_
  rintro _ _ ⟨g, rfl, rfl⟩
  refine a_cutM hT [5] (fun S : TS => [ptrA g 10]) (fun S => [(10, .ext (tmA g S))]) (fun S => OkS S 200) 8 rfl rfl ?_ ?_
  · refine a_loop hT [0, 1, 5, 6, 27, 28] (fun x : SX => [kD ks, dD ds, ptrA g 10, .v (kI x.n) 0, nA ks.length, nA x.i]) (fun x => [(10, .ext (tmA g x.S))]) (fun x => OkS x.S x.i ∧ x.i ≤ ks.length) (fun x => ks.length - x.i) ⟨0, [], 0⟩ [10] rfl rfl ⟨⟨by simp, by simp, by simp⟩, by simp⟩
      ⟨rfl, rfl, rfl, rfl, by show Value.int .i64 (((ks.map fun k => [A.Dat.v (kU k)]).length : Int)) = .int .i64 (ks.length : Int); rw [List.length_map], rfl, trivial⟩ rfl ⟨rfl, trivial⟩ ?_
    rintro ⟨i, S, n⟩ ⟨hok, hi⟩
    have hok : OkS S i := hok
    have hi : i ≤ ks.length := hi
    have hok' : OkS S 200 := ⟨hok.nd, by have := hok.len; omega, hok.lo⟩
    refine a_if hT rfl rfl (fun hb => ?_) (fun hb => ?_)
    rotate_left
    · exact a_next hT S [10] rfl rfl hok' ⟨rfl, trivial⟩ rfl ⟨rfl, trivial⟩
    have hi' : i < ks.length := by
      have : (i : Int) < (ks.length : Int) := of_decide_eq_true hb
      omega
    refine a_if hT rfl rfl (fun hb2 => ?_) (fun hb2 => ?_)
    · exact a_next hT S [10] rfl rfl hok' ⟨rfl, trivial⟩ rfl ⟨rfl, trivial⟩
    have hj : i < ds.length := by
      have : ¬ (i : Int) ≥ (((ds.map fun k => [A.Dat.v (kI k)]).length : Int)) := of_decide_eq_false hb2
      rw [List.length_map] at this
      omega
    have e1 : (ks.map fun k => [A.Dat.v (kU k)])[((i : Nat) : Int).toNat]? = some [A.Dat.v (kU ks[i])] := by simp [hi']
    have e2 : (ds.map fun k => [A.Dat.v (kI k)])[((i : Nat) : Int).toNat]? = some [A.Dat.v (kI ds[i])] := by simp [hj]
    have hdi := hd ds[i] (List.getElem_mem hj)
    refine a_draw hT [] true [(0, false), (1, false), (2, false), (5, false), (6, false), (3, false), (7, false), (4, false), (8, false), (9, true)] rfl rfl (by kernel_rfl) (by kernel_rfl) rfl ?_
    refine a_ix hT _ rfl rfl rfl rfl rfl rfl (by omega) e1 ?_
    refine a_ix hT _ rfl rfl rfl rfl rfl rfl (by omega) e2 ?_
    refine a_callF hT rfl rfl rfl (by kernel_rfl) (tset_spec (g := g) (h := 10) (h1 := 0) (h2 := 0) (S := S) (k := ks[i]) (d := ds[i]) hok.nd (by have := hok.len; omega)) [10] [10] ⟨rfl, rfl, rfl, trivial⟩ rfl ⟨rfl, trivial⟩ ?_
    rintro _ _ ⟨_, rfl, rfl⟩
    refine a_next hT (SX.mk (i + 1) (setP S ks[i] ds[i]) (IntKind.i64.wrap (n + 1))) [10] rfl rfl ⟨⟨hok.set _ _ hdi.1 hdi.2, by show i + 1 ≤ ks.length; omega⟩, by show ks.length - (i + 1) < ks.length - i; omega⟩ ⟨rfl, rfl, rfl, rfl, rfl, ?_, trivial⟩ rfl ⟨rfl, trivial⟩
    show Value.int .i64 (IntKind.i64.wrap ((i : Int) + 1)) = .int .i64 ((i + 1 : Nat) : Int)
    rw [wrap64 (by omega) (by omega)]
    rfl
  · intro S0 hok0
    refine a_call hT rfl rfl rfl (by kernel_rfl) tlen_spec [10] [10] rfl rfl ?_
    rintro _ _ ⟨S0, ⟨rfl, rfl⟩, rfl⟩
    refine a_loop hT [5, 6, 8, 9, 10] (fun y : SY => [ptrA g 10, nA S0.length, .v (kI y.last) 0, .v (kU y.key) 0, nA y.i]) (fun y => [(10, .ext (tmA g y.S))])
      (fun y => OkS y.S 200 ∧ y.S.length + y.i = S0.length ∧ (y.i = 0 → y.last = -9223372036854775808) ∧ (0 < y.i → ∀ r ∈ y.S, LK (y.key, y.last) r)) (fun y => y.S.length) ⟨0, S0, -9223372036854775808, 0⟩ [10] rfl rfl ⟨hok0, rfl, fun _ => rfl, fun h => absurd h (by simp)⟩ ⟨rfl, rfl, rfl, rfl, rfl, trivial⟩ rfl ⟨rfl, trivial⟩ ?_
    rintro ⟨i, S, last, key⟩ ⟨hok, hlen, hz, hg⟩
    have hok : OkS S 200 := hok
    have hlen : S.length + i = S0.length := hlen
    have hz : i = 0 → last = -9223372036854775808 := hz
    have hg : 0 < i → ∀ r ∈ S, LK (key, last) r := hg
    have h0l := hok0.len
    refine a_if hT rfl rfl (fun hb => ?_) (fun hb => ?_)
    rotate_left
    · have hS : S = [] := by
        have : ¬ (i : Int) < (S0.length : Int) := of_decide_eq_false hb
        exact List.eq_nil_of_length_eq_zero (by omega)
      subst hS
      refine a_callF hT rfl rfl rfl (by kernel_rfl) (tnext_spec (g := g) (h := 10) (h1 := 0) (S := []) (now := 9223372036854775807) (by simp) (by decide)) [10] [10] ⟨rfl, rfl, trivial⟩ rfl ⟨rfl, trivial⟩ ?_
      rintro _ _ ⟨S', hn, rfl⟩
      rcases hn with ⟨_, rfl, rfl⟩ | ⟨p, hm, _⟩
      · refine a_gt hT rfl rfl rfl rfl ?_
        refine a_call hT rfl rfl rfl (by kernel_rfl) tlen_spec [10] [10] rfl rfl ?_
        rintro _ _ ⟨_, ⟨rfl, rfl⟩, rfl⟩
        exact a_ret hT [] rfl rfl rfl rfl rfl rfl rfl
      · exact absurd hm.m (by simp)
    have hi' : i < S0.length := by
      have : (i : Int) < (S0.length : Int) := of_decide_eq_true hb
      omega
    refine a_call hT rfl rfl rfl (by kernel_rfl) tfirst_spec [10] [10] rfl rfl ?_
    rintro _ _ ⟨S, ⟨hf, rfl⟩, rfl⟩
    rcases hf with ⟨hS, _⟩ | ⟨p, hp, rfl⟩
    · subst hS; simp at hlen; omega
    have hlo := hok.lo p hp.m
    refine a_callF hT rfl rfl rfl (by kernel_rfl) (tnext_spec (g := g) (h := 10) (h1 := 0) (S := S) (now := 9223372036854775807) hok.nd (by have := hok.len; omega)) [10] [10] ⟨rfl, rfl, trivial⟩ rfl ⟨rfl, trivial⟩ ?_
    rintro _ _ ⟨S', hn, rfl⟩
    rcases hn with ⟨hbad, _⟩ | ⟨p', hp', _, rfl, rfl⟩
    · exfalso
      rcases hbad with h | ⟨p', h1, h2⟩
      · subst h; simp at hlen; omega
      · have := hok.lo p' h1.m; omega
    cases hp.eq hp'
    have hfl := filt_len hok.nd hp.m
    have hnext : ∀ r ∈ filt p.1 S, LK (p.1, p.2) r := fun r hr => by
      obtain ⟨h1, h2⟩ := key_apart hok.nd hp.m hr
      have h3 := hp.l r h1
      unfold LK at h3 ⊢
      simp only at h3 ⊢
      omega
    have hixx : IntKind.i64.wrap ((i : Int) + 1) = ((i + 1 : Nat) : Int) := by rw [wrap64 (by omega) (by omega)]; rfl
    have hokf : OkS (filt p.1 S) 200 := ⟨hok.nd.sublist ((List.filter_sublist).map _), by have := hok.len; omega, fun q hq => hok.lo q (List.mem_filter.1 hq).1⟩
    refine a_gf hT rfl rfl rfl rfl ?_
    refine a_gf hT rfl rfl rfl rfl ?_
    have hlast : ¬ p.2 < last := by
      rcases Nat.eq_zero_or_pos i with e | h
      · rw [show last = _ from hz e]; omega
      · have := hg h p hp.m
        unfold LK at this
        simp only at this
        omega
    refine a_gf hT rfl rfl rfl (decide_eq_false hlast) ?_
    refine a_g hT rfl rfl rfl (fun h1 => ?_) (fun h1 => ?_)
    · have h1' : 0 < i := by
        have : (i : Int) > 0 := of_decide_eq_true h1
        omega
      have hgp := hg h1' p hp.m
      refine a_g hT rfl rfl rfl (fun h2 => ?_) (fun h2 => ?_)
      · have h2' : p.2 = last := by simpa using h2
        refine a_f hT rfl rfl (by
          unfold LK at hgp
          simp only at hgp
          exact decide_eq_false (by show ¬ p.1 ≤ key; omega)) ?_
        refine a_next hT (SY.mk (i + 1) (filt p.1 S) p.2 p.1) [10] rfl rfl ⟨⟨hokf, by show (filt p.1 S).length + (i + 1) = S0.length; omega, fun h => absurd h (by show i + 1 ≠ 0; omega), fun _ => hnext⟩, by show (filt p.1 S).length < S.length; omega⟩ ⟨rfl, rfl, rfl, rfl, by show Value.int .i64 (IntKind.i64.wrap ((i : Int) + 1)) = .int .i64 ((i + 1 : Nat) : Int); rw [hixx], trivial⟩ rfl ⟨rfl, trivial⟩
      · refine a_f hT rfl rfl rfl ?_
        refine a_next hT (SY.mk (i + 1) (filt p.1 S) p.2 p.1) [10] rfl rfl ⟨⟨hokf, by show (filt p.1 S).length + (i + 1) = S0.length; omega, fun h => absurd h (by show i + 1 ≠ 0; omega), fun _ => hnext⟩, by show (filt p.1 S).length < S.length; omega⟩ ⟨rfl, rfl, rfl, rfl, by show Value.int .i64 (IntKind.i64.wrap ((i : Int) + 1)) = .int .i64 ((i + 1 : Nat) : Int); rw [hixx], trivial⟩ rfl ⟨rfl, trivial⟩
    · refine a_gf hT rfl rfl rfl rfl ?_
      refine a_f hT rfl rfl rfl ?_
      refine a_next hT (SY.mk (i + 1) (filt p.1 S) p.2 p.1) [10] rfl rfl ⟨⟨hokf, by show (filt p.1 S).length + (i + 1) = S0.length; omega, fun h => absurd h (by show i + 1 ≠ 0; omega), fun _ => hnext⟩, by show (filt p.1 S).length < S.length; omega⟩ ⟨rfl, rfl, rfl, rfl, by show Value.int .i64 (IntKind.i64.wrap ((i : Int) + 1)) = .int .i64 ((i + 1 : Nat) : Int); rw [hixx], trivial⟩ rfl ⟨rfl, trivial⟩
theorem timerSorts_walk (W : World) (args : Array Value) (ha : ArgsOk Try.prog W [59, 64] [[.sl [.int .u64]], [.sl [.int .i64]]] args.toList) : Calls Try.prog 11 args W (LawR W) := by
  obtain ⟨v, v2, rfl, h1, h2⟩ := argv_two ha
  obtain ⟨ks, hr1, _, _⟩ := argA_many h1 (by kernel_rfl) (by simp) (fun k : Int => [A.Dat.v (kU k)]) (fun _ => True) fun ds hd => by
    obtain ⟨d, r, rfl, h1, h2⟩ := hd.cons
    obtain ⟨m, rfl, _⟩ := h1.u64
    rw [h2.nil]
    exact ⟨(m : Int), rfl, ⟨trivial, trivial⟩, trivial⟩
  obtain ⟨ds, hr2, _, hd⟩ := argA_many h2 (by kernel_rfl) (by simp) (fun k : Int => [A.Dat.v (kI k)]) (fun d => -9223372036854775808 ≤ d ∧ d ≤ 9223372036854775807) fun ds hd => by
    obtain ⟨d, r, rfl, h1, h2⟩ := hd.cons
    obtain ⟨m, rfl, hm⟩ := h1.i64
    rw [h2.nil]
    exact ⟨m, rfl, ⟨trivial, trivial⟩, hm⟩
  exact law_of (timerSorts_spec (ks := ks) hd) (Reps.cons hr1 (Reps.cons hr2 Reps.nil))
end Go.Proofs.Ytdconcindpfmcaa
