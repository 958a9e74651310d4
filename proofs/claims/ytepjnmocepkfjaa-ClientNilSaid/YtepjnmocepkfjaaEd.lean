/- container/heap's up and down on layer 17's queue. -/
import Derived.Test.YtepjnmocepkfjaaEb
import Derived.Test.YtepjnmocepkfjaaEc
set_option linter.unusedVariables false
set_option linter.unusedSimpArgs false
namespace Go.Proofs.Ytepjnmocepkfjaa
open V A
def hI (g : Nat) : AV := .ifc 104 (ptrA g 10)
def qC (g : Nat) (v : Value) (mo : Option Nat) (q : List QE) : List Chunk := [tmBlk g v mo, rowP v q, entsC q]
def qS (g : Nat) (v : Value) (mo : Option Nat) (q : List QE) : Store := [(10, tmBlk g v mo), (30, rowP v q), (32, entsC q)]
theorem iLess : invOk Try.prog 104 95 "Less" 105 false = true := by kernel_rfl
theorem iSwap : invOk Try.prog 104 95 "Swap" 106 false = true := by kernel_rfl
theorem iLen : invOk Try.prog 104 95 "Len" 104 false = true := by kernel_rfl
theorem iPush : invOk Try.prog 104 95 "Push" 108 true = true := by kernel_rfl
theorem iPop : invOk Try.prog 104 95 "Pop" 107 true = true := by kernel_rfl
structure HX where
  q : List QE
  j : Nat
theorem par_quo {j : Nat} (h : j < 1000000) : IntKind.i64.wrap ((IntKind.i64.wrap ((j : Int) - 1)).tdiv 2) = (par j : Int) := by
  rw [wrap64 (x := (j : Int) - 1) (by omega) (by omega)]
  unfold par
  rcases Nat.eq_zero_or_pos j with rfl | h0
  · rfl
  · have : ((j : Int) - 1) = ((j - 1 : Nat) : Int) := by omega
    rw [this]
    show IntKind.i64.wrap (((j - 1) / 2 : Nat) : Int) = _
    rw [wrap64 (by omega) (by omega)]
set_option maxRecDepth 100000 in
theorem up_spec {g h1 : Nat} {v : Value} {mo : Option Nat} {q : List QE} {n j : Nat} (hn : n ≤ q.length) (hl : q.length < 1000000) (hj : j < n) (hu : UpI n q j) : FSpec Try.prog 66 [hI g, .v (.int .i64 j) h1] (qC g v mo q)
    fun _ cs => ∃ q', q'.Perm q ∧ Heap n q' ∧ (∀ k, n ≤ k → q'[k]? = q[k]?) ∧ cs = qC g v mo q' := by
  refine a_enter hT [hI g, nA j] [10, 30, 32] Try.func66 rfl rfl rfl ⟨⟨rfl, rfl⟩, rfl, trivial⟩ fun c => ?_
  refine a_loop hT [0, 1] (fun x : HX => [hI g, nA x.j]) (fun x => qS g v mo x.q) (fun x => x.q.Perm q ∧ UpI n x.q x.j ∧ x.j < n ∧ ∀ k, n ≤ k → x.q[k]? = q[k]?) (fun x => x.j) ⟨q, j⟩ [10, 30, 32] rfl rfl ⟨List.Perm.refl _, hu, hj, fun _ _ => rfl⟩ ⟨⟨rfl, rfl⟩, rfl, trivial⟩ rfl ⟨⟨rfl, rfl, rfl, rfl, trivial⟩, ⟨rfl, rfl, rfl, rfl⟩, rfl, trivial⟩ ?_
  rintro ⟨q1, j1⟩ ⟨hp, hu1, hj1, hrest⟩
  have hp : q1.Perm q := hp
  have hu1 : UpI n q1 j1 := hu1
  have hj1 : j1 < n := hj1
  have hrest : ∀ k, n ≤ k → q1[k]? = q[k]? := hrest
  have hlen := hp.length_eq
  have hquo := par_quo (j := j1) (by omega)
  refine a_bin hT (.int .i64 (par j1)) rfl rfl rfl (by decide) rfl rfl (fun w => by rw [← hquo]; exact bin_quo (by decide) w) ?_
  refine a_g hT rfl rfl rfl (fun he => ?_) (fun he => ?_)
  · refine a_t hT rfl rfl rfl ?_
    refine a_end hT [10, 30, 32] rfl rfl rfl rfl rfl rfl ⟨q1, hp, up_end hu1 fun a b h0 ha hb => ?_, hrest, rfl⟩
    have he' : (par j1 : Int) = j1 := by simpa using he
    have := par_lt h0
    omega
  · have he' : par j1 ≠ j1 := by
      have : ¬ (par j1 : Int) = j1 := by simpa using he
      omega
    have h0 : 0 < j1 := by
      rcases Nat.eq_zero_or_pos j1 with e | h; · subst e; exact absurd rfl he'
      exact h
    have hpl := par_lt h0
    have hi1 : par j1 < q1.length := by omega
    have hj2 : j1 < q1.length := by omega
    refine a_invV hT (.row v 30) rfl rfl rfl rfl iLess (by kernel_rfl) rfl rfl rfl (less_spec (h := 30) (h1 := 0) (h2 := 0) hj2 hi1 (fun e => he' e.symm)) [30, 32] [30, 32] ⟨rfl, rfl, rfl, trivial⟩ rfl ⟨⟨rfl, rfl, rfl, rfl⟩, rfl, trivial⟩ ?_
    rintro _ _ ⟨rfl, rfl⟩
    refine a_if hT rfl rfl (fun hb => ?_) (fun hb => ?_)
    · have hb' : ¬ L q1[j1] q1[par j1] := (ltE_not _ _).1 (by simpa using hb)
      refine a_end hT [10, 30, 32] rfl rfl rfl rfl rfl rfl ⟨q1, hp, up_end hu1 fun a b _ ha hb => ?_, hrest, rfl⟩
      rw [List.getElem?_eq_getElem hj2] at ha
      rw [List.getElem?_eq_getElem hi1] at hb
      cases ha; cases hb
      exact hb'
    · have hb' : L q1[j1] q1[par j1] := (ltE_iff _ _).1 (by simpa using hb)
      refine a_invV hT (.row v 30) rfl rfl rfl rfl iSwap (by kernel_rfl) rfl rfl rfl (swap_spec (h := 30) (h1 := 0) (h2 := 0) hi1 hj2 he') [30, 32] [30, 32] ⟨rfl, rfl, rfl, trivial⟩ rfl ⟨⟨rfl, rfl, rfl, rfl⟩, rfl, trivial⟩ ?_
      rintro _ _ rfl
      refine a_next hT (HX.mk (swapQ q1 (par j1) j1 q1[par j1] q1[j1]) (par j1)) [10, 30, 32] rfl rfl ⟨⟨(swap_perm he' (List.getElem?_eq_getElem hi1) (List.getElem?_eq_getElem hj2)).trans hp, up_step (by omega) hu1 h0 hj1 (List.getElem?_eq_getElem hi1) (List.getElem?_eq_getElem hj2) hb', by show par j1 < n; omega, fun k hk => ?_⟩, hpl⟩ ⟨⟨rfl, rfl⟩, rfl, trivial⟩ rfl ⟨⟨rfl, rfl, rfl, rfl, trivial⟩, ⟨rfl, rfl, rfl, rfl⟩, rfl, trivial⟩
      show (swapQ q1 (par j1) j1 q1[par j1] q1[j1])[k]? = _
      rw [get_swap hi1 hj2, if_neg (by omega), if_neg (by omega)]
      exact hrest k hk
structure DX where
  q : List QE
  i : Nat
set_option maxRecDepth 100000 in
theorem down_spec {g h1 h2 : Nat} {v : Value} {mo : Option Nat} {q : List QE} {n i0 : Nat} (hn : n ≤ q.length) (hl : q.length < 1000000) (hi0 : i0 ≤ n) (hd : DnI n q i0 i0) : FSpec Try.prog 65 [hI g, .v (.int .i64 i0) h1, .v (.int .i64 n) h2] (qC g v mo q)
    fun a cs => ∃ q', q'.Perm q ∧ (∀ k, n ≤ k → q'[k]? = q[k]?) ∧ ((a = .v (.bool true) 0 ∧ Heap n q') ∨ (a = .v (.bool false) 0 ∧ UpI n q' i0)) ∧ cs = qC g v mo q' := by
  refine a_enter hT [hI g, nA i0, nA n] [10, 30, 32] Try.func65 rfl rfl rfl ⟨⟨rfl, rfl⟩, rfl, rfl, trivial⟩ fun c => ?_
  refine a_loop hT [0, 1, 2, 7] (fun x : DX => [hI g, nA i0, nA n, nA x.i]) (fun x => qS g v mo x.q) (fun x => x.q.Perm q ∧ DnI n x.q x.i i0 ∧ i0 ≤ x.i ∧ x.i ≤ n ∧ ∀ k, n ≤ k → x.q[k]? = q[k]?) (fun x => n - x.i) ⟨q, i0⟩ [10, 30, 32] rfl rfl ⟨List.Perm.refl _, hd, Nat.le_refl _, hi0, fun _ _ => rfl⟩ ⟨⟨rfl, rfl⟩, rfl, rfl, rfl, trivial⟩ rfl ⟨⟨rfl, rfl, rfl, rfl, trivial⟩, ⟨rfl, rfl, rfl, rfl⟩, rfl, trivial⟩ ?_
  rintro ⟨q1, i⟩ ⟨hp, hd1, h0i, hin, hrest⟩
  have hp : q1.Perm q := hp
  have hd1 : DnI n q1 i i0 := hd1
  have h0i : i0 ≤ i := h0i
  have hin : i ≤ n := hin
  have hrest : ∀ k, n ≤ k → q1[k]? = q[k]? := hrest
  have hlen := hp.length_eq
  have hj1 : IntKind.i64.wrap (IntKind.i64.wrap (2 * (i : Int)) + 1) = ((2 * i + 1 : Nat) : Int) := by
    rw [wrap64 (x := 2 * (i : Int)) (by omega) (by omega), wrap64 (by omega) (by omega)]
    omega
  -- the end
  have fin : ∀ (h : ∀ k x y, 0 < k → k < n → par k = i → q1[k]? = some x → q1[i]? = some y → ¬ L x y) (b : Bool), b = decide ((i : Int) > (i0 : Int)) → ∃ q', q'.Perm q ∧ (∀ k, n ≤ k → q'[k]? = q[k]?) ∧ ((AV.v (.bool b) 0 = .v (.bool true) 0 ∧ Heap n q') ∨ (AV.v (.bool b) 0 = .v (.bool false) 0 ∧ UpI n q' i0)) ∧ qC g v mo q1 = qC g v mo q' := fun h b hb => by
    have he := dn_end hd1 h
    refine ⟨q1, hp, hrest, ?_, rfl⟩
    by_cases e : i = i0
    · right; refine ⟨?_, he.2 e⟩; rw [hb, decide_eq_false (by omega)]
    · left; refine ⟨?_, he.1 e⟩; rw [hb, decide_eq_true (by omega)]
  refine a_g hT rfl rfl rfl (fun hge => ?_) (fun hge => ?_)
  · have hge' : ¬ 2 * i + 1 < n := by
      have : IntKind.i64.wrap (IntKind.i64.wrap (2 * (i : Int)) + 1) ≥ n := of_decide_eq_true hge
      omega
    refine a_t hT rfl rfl rfl ?_
    refine a_ret hT [10, 30, 32] rfl rfl rfl rfl rfl rfl (fin (fun k x y hk hkn hpk _ _ => by unfold par at hpk; omega) _ rfl)
  · have hlt : 2 * i + 1 < n := by
      have : ¬ IntKind.i64.wrap (IntKind.i64.wrap (2 * (i : Int)) + 1) ≥ n := of_decide_eq_false hge
      omega
    refine a_f hT rfl rfl (by rw [hj1]; exact decide_eq_false (by omega)) ?_
    refine a_as 8 (b := nA (2 * i + 1)) rfl (by show Value.int .i64 (IntKind.i64.wrap (IntKind.i64.wrap (2 * (i : Int)) + 1)) = .int .i64 ((2 * i + 1 : Nat) : Int); rw [hj1]) ?_
    have hj2 : IntKind.i64.wrap (((2 * i + 1 : Nat) : Int) + 1) = ((2 * i + 2 : Nat) : Int) := by rw [wrap64 (by omega) (by omega)]; omega
    have hx1 : 2 * i + 1 < q1.length := by omega
    have hpar : ∀ k, 0 < k → par k = i → k = 2 * i + 1 ∨ k = 2 * i + 2 := fun k h0 h => by unfold par at h; omega
    refine a_cutM hT [0, 1, 2, 7, 9] (fun j : Nat => [hI g, nA i0, nA n, nA i, nA j]) (fun _ => qS g v mo q1) (fun j => 0 < j ∧ j < n ∧ par j = i ∧ ∀ b, q1[j]? = some b → ∀ k x, 0 < k → k < n → par k = i → q1[k]? = some x → ¬ L x b) 8 rfl rfl ?_ ?_
    · refine a_g hT rfl rfl rfl (fun h2 => ?_) (fun h2 => ?_)
      · have h2' : 2 * i + 2 < n := by
          have : IntKind.i64.wrap (((2 * i + 1 : Nat) : Int) + 1) < n := of_decide_eq_true h2
          omega
        have hx2 : 2 * i + 2 < q1.length := by omega
        refine a_as 10 (b := nA (2 * i + 2)) rfl (by show Value.int .i64 (IntKind.i64.wrap (((2 * i + 1 : Nat) : Int) + 1)) = .int .i64 ((2 * i + 2 : Nat) : Int); rw [hj2]) ?_
        refine a_invV hT (.row v 30) rfl rfl rfl rfl iLess (by kernel_rfl) rfl rfl rfl (less_spec (h := 30) (h1 := 0) (h2 := 0) hx2 hx1 (by omega)) [30, 32] [30, 32] ⟨rfl, rfl, rfl, trivial⟩ rfl ⟨⟨rfl, rfl, rfl, rfl⟩, rfl, trivial⟩ ?_
        rintro _ _ ⟨rfl, rfl⟩
        refine a_if hT rfl rfl (fun hb => ?_) (fun hb => ?_)
        · have hb' := (ltE_iff _ _).1 hb
          refine a_next hT (2 * i + 2) [10, 30, 32] rfl rfl ⟨by omega, h2', by unfold par; omega, fun b hb k x hk hkn hpk hx => ?_⟩ ⟨⟨rfl, rfl⟩, rfl, rfl, rfl, rfl, trivial⟩ rfl ⟨⟨rfl, rfl, rfl, rfl, trivial⟩, ⟨rfl, rfl, rfl, rfl⟩, rfl, trivial⟩
          rw [List.getElem?_eq_getElem hx2] at hb
          cases hb
          rcases hpar k hk hpk with e | e
          · subst e; rw [List.getElem?_eq_getElem hx1] at hx; cases hx; exact hb'.asym
          · subst e; rw [List.getElem?_eq_getElem hx2] at hx; cases hx; unfold L; omega
        · have hb' := (ltE_not _ _).1 hb
          refine a_next hT (2 * i + 1) [10, 30, 32] rfl rfl ⟨by omega, hlt, by unfold par; omega, fun b hb k x hk hkn hpk hx => ?_⟩ ⟨⟨rfl, rfl⟩, rfl, rfl, rfl, rfl, trivial⟩ rfl ⟨⟨rfl, rfl, rfl, rfl, trivial⟩, ⟨rfl, rfl, rfl, rfl⟩, rfl, trivial⟩
          rw [List.getElem?_eq_getElem hx1] at hb
          cases hb
          rcases hpar k hk hpk with e | e
          · subst e; rw [List.getElem?_eq_getElem hx1] at hx; cases hx; unfold L; omega
          · subst e; rw [List.getElem?_eq_getElem hx2] at hx; cases hx; exact hb'
      · have h2' : ¬ 2 * i + 2 < n := by
          have : ¬ IntKind.i64.wrap (((2 * i + 1 : Nat) : Int) + 1) < n := of_decide_eq_false h2
          omega
        refine a_f hT rfl rfl rfl ?_
        refine a_next hT (2 * i + 1) [10, 30, 32] rfl rfl ⟨by omega, hlt, by unfold par; omega, fun b hb k x hk hkn hpk hx => ?_⟩ ⟨⟨rfl, rfl⟩, rfl, rfl, rfl, rfl, trivial⟩ rfl ⟨⟨rfl, rfl, rfl, rfl, trivial⟩, ⟨rfl, rfl, rfl, rfl⟩, rfl, trivial⟩
        rw [List.getElem?_eq_getElem hx1] at hb
        cases hb
        rcases hpar k hk hpk with e | e
        · subst e; rw [List.getElem?_eq_getElem hx1] at hx; cases hx; unfold L; omega
        · omega
    · rintro j ⟨h0j, hjn, hpj, hmin⟩
      have hxj : j < q1.length := by omega
      have hxi : i < q1.length := by omega
      have hij : i < j := by have := par_lt h0j; omega
      have hmin := hmin _ (List.getElem?_eq_getElem hxj)
      refine a_invV hT (.row v 30) rfl rfl rfl rfl iLess (by kernel_rfl) rfl rfl rfl (less_spec (h := 30) (h1 := 0) (h2 := 0) hxj hxi (by omega)) [30, 32] [30, 32] ⟨rfl, rfl, rfl, trivial⟩ rfl ⟨⟨rfl, rfl, rfl, rfl⟩, rfl, trivial⟩ ?_
      rintro _ _ ⟨rfl, rfl⟩
      refine a_if hT rfl rfl (fun hb => ?_) (fun hb => ?_)
      · have hb' : ¬ L q1[j] q1[i] := (ltE_not _ _).1 (by simpa using hb)
        refine a_ret hT [10, 30, 32] rfl rfl rfl rfl rfl rfl (fin (fun k x y hk hkn hpk hx hy => ?_) _ rfl)
        have h1 := hmin k x hk hkn hpk hx
        rw [List.getElem?_eq_getElem hxi] at hy
        cases hy
        unfold L at h1 hb' ⊢
        omega
      · have hb' : L q1[j] q1[i] := (ltE_iff _ _).1 (by simpa using hb)
        refine a_invV hT (.row v 30) rfl rfl rfl rfl iSwap (by kernel_rfl) rfl rfl rfl (swap_spec (h := 30) (h1 := 0) (h2 := 0) hxi hxj (by omega)) [30, 32] [30, 32] ⟨rfl, rfl, rfl, trivial⟩ rfl ⟨⟨rfl, rfl, rfl, rfl⟩, rfl, trivial⟩ ?_
        rintro _ _ rfl
        refine a_next hT (DX.mk (swapQ q1 i j q1[i] q1[j]) j) [10, 30, 32] rfl rfl ⟨⟨(swap_perm (by omega) (List.getElem?_eq_getElem hxi) (List.getElem?_eq_getElem hxj)).trans hp, dn_step (by omega) hd1 h0i h0j hjn hpj hmin (List.getElem?_eq_getElem hxi) (List.getElem?_eq_getElem hxj) hb', by show i0 ≤ j; omega, Nat.le_of_lt hjn, fun k hk => ?_⟩, by show n - j < n - i; omega⟩ ⟨⟨rfl, rfl⟩, rfl, rfl, rfl, trivial⟩ rfl ⟨⟨rfl, rfl, rfl, rfl, trivial⟩, ⟨rfl, rfl, rfl, rfl⟩, rfl, trivial⟩
        show (swapQ q1 i j q1[i] q1[j])[k]? = _
        rw [get_swap hxi hxj, if_neg (by omega), if_neg (by omega)]
        exact hrest k hk
end Go.Proofs.Ytepjnmocepkfjaa
