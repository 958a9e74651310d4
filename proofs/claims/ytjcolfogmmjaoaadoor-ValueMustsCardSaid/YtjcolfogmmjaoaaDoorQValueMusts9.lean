import Derived.Test.YtjcolfogmmjaoaaDoorQValueMusts8
section
/- Layer 9: the document's Small. -/
set_option linter.unusedVariables false
set_option linter.unusedSimpArgs false
set_option maxRecDepth 100000
set_option maxHeartbeats 1000000
namespace Go.Proofs.YtjcolfogmmjaoaaDoor
open V A
/-- Not too wide anywhere for any machine. -/
inductive BdN : ND → Prop
  | mk {k n u : Int} {b : Bool} {s : ByteArray} {t : Int} {fs : List NF} : s.size ≤ reachN → fs.length ≤ reachN → (∀ num vs, NF.mk num vs ∈ fs → vs.length ≤ reachN) → (∀ num vs x, NF.mk num vs ∈ fs → x ∈ vs → BdN x) → BdN (.mk k n u b s t fs)
mutual
def smallP : ND → Int → Int → Int
  | .mk _ _ _ _ s _ fs, d, l => if 40 < d ∨ l - 1 - Int.tdiv s.size 100 < 0 then -1 else smallFs fs d (l - 1 - Int.tdiv s.size 100)
def smallF : NF → Int → Int → Option Int
  | .mk _ vs, d, l => smallVs vs (d + 1) l
def smallFs : List NF → Int → Int → Int
  | [], _, l => l
  | f :: fs, d, l => match smallF f d (l - 1) with
    | none => -1
    | some l' => smallFs fs d l'
def smallVs : List ND → Int → Int → Option Int
  | [], _, l => some l
  | x :: xs, d, l => if smallP x d l < 0 then none else smallVs xs d (smallP x d l)
end
theorem tdiv100 (n : Nat) : 0 ≤ Int.tdiv (n : Int) 100 ∧ Int.tdiv (n : Int) 100 ≤ n := by
  rw [Int.tdiv_eq_ediv_of_nonneg (by omega)]
  omega
mutual
theorem smallP_le : ∀ (x : ND) (d l : Int), 0 ≤ smallP x d l → smallP x d l + 1 ≤ l
  | .mk _ _ _ _ s _ fs, d, l, h => by
    unfold smallP at h ⊢
    split at h
    · omega
    · rename_i hc
      rw [if_neg hc]
      have := smallFs_le fs d _ h
      have := tdiv100 s.size
      omega
theorem smallF_le : ∀ (f : NF) (d l l' : Int), smallF f d l = some l' → l' ≤ l ∧ (∀ num vs, f = .mk num vs → l' + vs.length ≤ l)
  | .mk num vs, d, l, l', h => by
    unfold smallF at h
    have := smallVs_le vs _ _ _ h
    exact ⟨by omega, fun _ _ e => by cases e; exact this⟩
theorem smallFs_le : ∀ (fs : List NF) (d l : Int), 0 ≤ smallFs fs d l → smallFs fs d l + fs.length ≤ l
  | [], d, l, h => by unfold smallFs; simp
  | f :: fs, d, l, h => by
    unfold smallFs at h ⊢
    split at h
    · omega
    · rename_i l' e
      have := (smallF_le f d _ _ e).1
      have := smallFs_le fs d l' h
      simp only [List.length_cons]
      omega
theorem smallVs_le : ∀ (vs : List ND) (d l l' : Int), smallVs vs d l = some l' → l' + vs.length ≤ l
  | [], d, l, l', h => by unfold smallVs at h; cases h; simp
  | x :: xs, d, l, l', h => by
    unfold smallVs at h
    split at h
    · cases h
    · rename_i hc
      have := smallP_le x d l (by omega)
      have := smallVs_le xs d _ _ h
      simp only [List.length_cons]
      omega
end
theorem smallVs_mem : ∀ {vs : List ND} {d l l' : Int}, smallVs vs d l = some l' → ∀ x ∈ vs, ∃ l2, l2 ≤ l ∧ 0 ≤ smallP x d l2
  | [], d, l, l', h, x, hx => by simp at hx
  | y :: vs, d, l, l', h, x, hx => by
    unfold smallVs at h
    split at h
    · cases h
    · rename_i hc
      rcases List.mem_cons.1 hx with rfl | hx
      · exact ⟨l, Int.le_refl _, by omega⟩
      · obtain ⟨l2, h2, h3⟩ := smallVs_mem h x hx
        have := smallP_le y d l (by omega)
        exact ⟨l2, by omega, h3⟩
theorem smallFs_mem : ∀ {fs : List NF} {d l : Int}, 0 ≤ smallFs fs d l → ∀ num vs, NF.mk num vs ∈ fs → ∃ l2 l', l2 ≤ l ∧ smallVs vs (d + 1) l2 = some l' ∧ 0 ≤ l'
  | [], d, l, h, num, vs, hx => by simp at hx
  | f :: fs, d, l, h, num, vs, hx => by
    have h0 := h
    unfold smallFs at h
    split at h
    · omega
    · rename_i l' e
      have h1 := smallFs_le fs d l' h
      rcases List.mem_cons.1 hx with rfl | hx
      · exact ⟨l - 1, l', by omega, by unfold smallF at e; exact e, by omega⟩
      · have := (smallF_le f d _ _ e).1
        obtain ⟨l2, l3, h2, h3, h4⟩ := smallFs_mem h num vs hx
        exact ⟨l2, l3, by omega, h3, h4⟩
/-- What is small is not too wide. -/
theorem ok_small : ∀ (x : ND) (d l : Int), l ≤ 400 → 0 ≤ smallP x d l → OkN x
  | .mk k n u b s t fs, d, l, hl, h => by
    unfold smallP at h
    split at h
    · omega
    · have h0 := tdiv100 s.size
      have h1 := smallFs_le fs d _ h
      refine OkN.mk (by omega) (fun num vs hm => ?_) (fun num vs x hm hx => ?_)
      · obtain ⟨l2, l', h2, h3, h4⟩ := smallFs_mem h num vs hm
        have := smallVs_le vs _ _ _ h3
        omega
      · obtain ⟨l2, l', h2, h3, h4⟩ := smallFs_mem h num vs hm
        obtain ⟨l3, h5, h6⟩ := smallVs_mem h3 x hx
        exact ok_small x (d + 1) l3 (by omega) h6
termination_by x => SizeOf.sizeOf x
decreasing_by
  have h7 := List.sizeOf_lt_of_mem hx
  have h8 := List.sizeOf_lt_of_mem hm
  simp at h8 ⊢
  omega
theorem small_spec : ∀ {x : ND}, BdN x → ∀ {d l : Int}, 0 ≤ d → d ≤ 41 → -281474976710656 ≤ l → l ≤ 400 → FSpec Tryd.prog 21 [ndA x, .v (kI d) 0, .v (kI l) 0] [] fun a cs => a = .v (kI (smallP x d l)) 0 ∧ cs = [] := by
  intro x hok
  induction hok with
  | @mk k n u b s t fs hs hl hvl hv ih =>
  intro d l hd1 hd2 hl1 hl2
  have hrn : reachN = 140737488351232 := rfl
  have h100 := tdiv100 s.size
  have hw1 : IntKind.i64.wrap (l - 1) = l - 1 := w64 (by omega) (by omega)
  have hw2 : IntKind.i64.wrap (Int.tdiv (s.size : Int) 100) = Int.tdiv (s.size : Int) 100 := w64 (by omega) (by omega)
  have hw3 : IntKind.i64.wrap (l - 1 - Int.tdiv (s.size : Int) 100) = l - 1 - Int.tdiv (s.size : Int) 100 := w64 (by omega) (by omega)
  have hlen : (nfsD fs).length = fs.length := by rw [nfsD_map, List.length_map]
  refine a_enter hT [ndA (.mk k n u b s t fs), .v (kI d) 0, .v (kI l) 0] [] Tryd.func21 rfl rfl rfl ⟨Fit.refl _, rfl, rfl, trivial⟩ fun c' => ?_
  refine a_box hT 20 rfl rfl rfl rfl fun g => ?_
  refine a_bin hT _ rfl rfl rfl (by decide) rfl rfl (fun w => (bin_quo (by decide) w)) ?_
  refine a_g hT rfl rfl rfl (fun h => ?_) (fun h => ?_)
  · have h := of_decide_eq_true h
    refine a_t hT rfl rfl rfl ?_
    refine a_ret hT [] rfl rfl rfl rfl rfl rfl ?_
    exact ⟨by unfold smallP; rw [if_pos (.inl (by omega))]; rfl, rfl⟩
  · have h := of_decide_eq_false h
    refine a_if hT rfl rfl (fun h1 => ?_) (fun h1 => ?_)
    · have h1 := of_decide_eq_true h1
      refine a_ret hT [] rfl rfl rfl rfl rfl rfl ?_
      exact ⟨by unfold smallP; rw [if_pos (.inr (by rw [hw1, hw2, hw3] at h1; omega))]; rfl, rfl⟩
    · have h1 := of_decide_eq_false h1
      rw [hw1, hw2, hw3] at h1
      have hdl : ¬ (40 < d ∨ l - 1 - Int.tdiv (s.size : Int) 100 < 0) := by omega
      have hP : smallP (.mk k n u b s t fs) d l = smallFs fs d (l - 1 - Int.tdiv (s.size : Int) 100) := by unfold smallP; rw [if_neg hdl]
      rw [hP]
      generalize hq : l - 1 - Int.tdiv (s.size : Int) 100 = l1 at hw3 hdl
      refine a_loop hT [1, 2, 3, 24, 25] (fun x : Nat × Int => [.v (kI d) 0, .v (kI x.2) 0, .v (.pointer (some ⟨g, 0, none⟩)) 20, .v (kI fs.length) 0, .v (kI x.1) 0]) (fun _ => [(20, .blk g 25 [.v (kI k) 0, .v (kI n) 0, .v (kU u) 0, .v (Value.bool b) 0, .v (Value.string s) 0, .v (kI t) 0, .d (A.Dat.sl 2 (nfsD fs))])]) (fun x => x.1 ≤ fs.length ∧ smallFs (fs.drop x.1) d x.2 = smallFs fs d l1 ∧ -(x.1 : Int) ≤ x.2 ∧ x.2 ≤ 400) (fun x => fs.length - x.1) (0, l1) [20] rfl rfl ⟨Nat.zero_le _, rfl, by show -((0 : Nat) : Int) ≤ l1; omega, by show l1 ≤ 400; omega⟩ ⟨rfl, by show Value.int .i64 _ = Value.int .i64 _; rw [hw1, hw2, hq, hw3], rfl, by rw [← hlen]; rfl, rfl, trivial⟩ rfl ⟨⟨rfl, rfl, ⟨rfl, rfl, rfl, rfl, rfl, rfl, rfl, trivial⟩⟩, trivial⟩ ?_
      rintro ⟨i, l2⟩ ⟨i2, i3, i4, i5⟩
      dsimp only at i2 i3 i4 i5
      have hw := wN i (by omega)
      rcases Nat.lt_or_ge i fs.length with hil | hil
      · have hat : (nfsD fs)[(i : Int).toNat]? = some (nfD fs[i]) := by rw [nfsD_map]; simp [hil]
        have hmem := List.getElem_mem hil
        rw [drop_at hil] at i3
        generalize fs[i] = f at hat hmem i3
        obtain ⟨num, vs⟩ := f
        have hvs := hvl num vs hmem
        have hlv : (ndsD vs).length = vs.length := by rw [ndsD_map, List.length_map]
        have hw4 : IntKind.i64.wrap (l2 - 1) = l2 - 1 := w64 (by omega) (by omega)
        have hw5 : IntKind.i64.wrap (d + 1) = d + 1 := w64 (by omega) (by omega)
        refine a_t hT rfl rfl (decide_eq_true (by show (i : Int) < (fs.length : Int); omega)) ?_
        refine a_ix hT _ rfl rfl rfl rfl rfl rfl (by first | omega | assumption) (by first | assumption | rfl) ?_
        refine a_loop hT [1, 2, 3, 7, 24, 25, 36, 37] (fun x : Nat × Int => [.v (kI d) 0, .v (kI x.2) 0, .v (.pointer (some ⟨g, 0, none⟩)) 20, .v (kI i) 0, .v (kI fs.length) 0, .v (kI i) 0, .v (kI vs.length) 0, .v (kI x.1) 0]) (fun _ => [(20, .blk g 25 [.v (kI k) 0, .v (kI n) 0, .v (kU u) 0, .v (Value.bool b) 0, .v (Value.string s) 0, .v (kI t) 0, .d (A.Dat.sl 2 (nfsD fs))])]) (fun x => x.1 ≤ vs.length ∧ smallVs (vs.drop x.1) (d + 1) x.2 = smallVs vs (d + 1) (l2 - 1) ∧ -(i : Int) - 1 ≤ x.2 ∧ x.2 ≤ 400) (fun x => vs.length - x.1) (0, l2 - 1) [20] rfl rfl ⟨Nat.zero_le _, rfl, by show -(i : Int) - 1 ≤ l2 - 1; omega, by show l2 - 1 ≤ 400; omega⟩ ⟨rfl, by show Value.int .i64 _ = Value.int .i64 _; rw [hw4], rfl, rfl, rfl, rfl, by rw [← hlv]; rfl, rfl, trivial⟩ rfl ⟨⟨rfl, rfl, ⟨rfl, rfl, rfl, rfl, rfl, rfl, rfl, trivial⟩⟩, trivial⟩ ?_
        rintro ⟨j, l3⟩ ⟨j2, j3, j4, j5⟩
        dsimp only at j2 j3 j4 j5
        have hw2 := wN j (by omega)
        rcases Nat.lt_or_ge j vs.length with hjl | hjl
        · have hat2 : (ndsD vs)[(j : Int).toNat]? = some (ndD vs[j]) := by rw [ndsD_map]; simp [hjl]
          have hy := ih num vs vs[j] hmem (List.getElem_mem hjl) (d := d + 1) (l := l3) (by omega) (by omega) (by omega) (by omega)
          rw [drop_at hjl] at j3
          generalize vs[j] = y at hat2 hy j3
          have hle := smallP_le y (d + 1) l3
          obtain ⟨yk, yn, yu, yb, ys, yt, yf⟩ := y
          refine a_t hT rfl rfl (decide_eq_true (by show (j : Int) < (vs.length : Int); omega)) ?_
          refine a_ix hT _ rfl rfl rfl rfl rfl rfl (by first | omega | assumption) (by first | assumption | rfl) ?_
          refine a_ix hT _ rfl rfl rfl rfl rfl rfl (by first | omega | assumption) (by first | assumption | rfl) ?_
          have hy2 : FSpec Tryd.prog 21 [ndA (.mk yk yn yu yb ys yt yf), .v (.int .i64 (IntKind.i64.wrap (d + 1))) 0, .v (kI l3) 0] [] fun a cs => a = .v (kI (smallP (.mk yk yn yu yb ys yt yf) (d + 1) l3)) 0 ∧ cs = [] := by rw [hw5]; exact hy
          have j6 : (if smallP (.mk yk yn yu yb ys yt yf) (d + 1) l3 < 0 then none else smallVs (vs.drop (j + 1)) (d + 1) (smallP (.mk yk yn yu yb ys yt yf) (d + 1) l3)) = smallVs vs (d + 1) (l2 - 1) := by rw [← j3]; conv => rhs; unfold smallVs
          generalize smallP (.mk yk yn yu yb ys yt yf) (d + 1) l3 = r at hy2 hle j6
          refine a_call hT rfl rfl rfl (by kernel_rfl) hy2 [] [] rfl rfl ?_
          rintro _ _ ⟨rfl, rfl⟩
          refine a_if hT rfl rfl (fun h2 => ?_) (fun h2 => ?_)
          · have h2 := of_decide_eq_true h2
            rw [if_pos h2] at j6
            refine a_ret hT [] rfl rfl rfl rfl rfl rfl ?_
            exact ⟨by rw [← i3]; unfold smallFs smallF; rw [← j6]; rfl, rfl⟩
          · have h2 := of_decide_eq_false h2
            rw [if_neg h2] at j6
            exact a_next hT (j + 1, r) [20] rfl rfl ⟨⟨by show j + 1 ≤ vs.length; omega, j6, by show -(i : Int) - 1 ≤ r; omega, by show r ≤ 400; omega⟩, by show vs.length - (j + 1) < vs.length - j; omega⟩ ⟨rfl, rfl, rfl, rfl, rfl, rfl, rfl, by show Value.int .i64 _ = Value.int .i64 _; rw [hw2], trivial⟩ rfl ⟨⟨rfl, rfl, ⟨rfl, rfl, rfl, rfl, rfl, rfl, rfl, trivial⟩⟩, trivial⟩
        · refine a_f hT rfl rfl (decide_eq_false (by show ¬ (j : Int) < (vs.length : Int); omega)) ?_
          rw [List.drop_eq_nil_of_le hjl] at j3
          have hi3 : smallFs (fs.drop (i + 1)) d l3 = smallFs fs d l1 := by rw [← i3]; conv => rhs; unfold smallFs smallF; rw [← j3]; unfold smallVs
          exact a_next hT (i + 1, l3) [20] rfl rfl ⟨⟨by show i + 1 ≤ fs.length; omega, hi3, by show -((i + 1 : Nat) : Int) ≤ l3; omega, by show l3 ≤ 400; omega⟩, by show fs.length - (i + 1) < fs.length - i; omega⟩ ⟨rfl, rfl, rfl, rfl, by show Value.int .i64 _ = Value.int .i64 _; rw [hw], trivial⟩ rfl ⟨⟨rfl, rfl, ⟨rfl, rfl, rfl, rfl, rfl, rfl, rfl, trivial⟩⟩, trivial⟩
      · refine a_f hT rfl rfl (decide_eq_false (by show ¬ (i : Int) < (fs.length : Int); omega)) ?_
        refine a_ret hT [] rfl rfl rfl rfl rfl rfl ?_
        rw [List.drop_eq_nil_of_le hil] at i3
        exact ⟨by rw [← i3]; unfold smallFs; rfl, rfl⟩
end Go.Proofs.YtjcolfogmmjaoaaDoor
end

section
/- Layer 9: the document's Same. -/
set_option linter.unusedVariables false
set_option linter.unusedSimpArgs false
set_option maxRecDepth 100000
set_option maxHeartbeats 1000000
namespace Go.Proofs.YtjcolfogmmjaoaaDoor
open V A
mutual
def sameN : ND → ND → Bool
  | .mk k n u b s t fs, .mk k' n' u' b' s' t' fs' => decide (k = k') && (decide (n = n') && (decide (u = u') && (b == b' && (decide (s = s') && (decide (t = t') && (decide (fs.length = fs'.length) && sameFs fs fs'))))))
def sameF : NF → NF → Bool
  | .mk n vs, .mk n' vs' => decide (n = n') && (decide (vs.length = vs'.length) && sameVs vs vs')
def sameFs : List NF → List NF → Bool
  | f :: fs, f' :: fs' => sameF f f' && sameFs fs fs'
  | _, _ => true
def sameVs : List ND → List ND → Bool
  | x :: xs, y :: ys => sameN x y && sameVs xs ys
  | _, _ => true
end
mutual
theorem sameN_refl : ∀ x : ND, sameN x x = true
  | .mk k n u b s t fs => by unfold sameN; simp [sameFs_refl fs]
theorem sameF_refl : ∀ f : NF, sameF f f = true
  | .mk n vs => by unfold sameF; simp [sameVs_refl vs]
theorem sameFs_refl : ∀ fs : List NF, sameFs fs fs = true
  | [] => by unfold sameFs; rfl
  | f :: fs => by unfold sameFs; simp [sameF_refl f, sameFs_refl fs]
theorem sameVs_refl : ∀ xs : List ND, sameVs xs xs = true
  | [] => by unfold sameVs; rfl
  | x :: xs => by unfold sameVs; simp [sameN_refl x, sameVs_refl xs]
end
theorem toL_eq (s t : ByteArray) : s.toList = t.toList ↔ s = t := by
  have := ba_list s t
  rw [Bool.eq_iff_iff] at this
  simpa using this
theorem Same_spec : ∀ {x : ND}, BdN x → ∀ {y : ND}, FSpec Tryd.prog 10 [ndA x, ndA y] [] fun a cs => a = bA (sameN x y) ∧ cs = [] := by
  intro x hok
  induction hok with
  | @mk k n u b s t fs hs hl hvl hv ih =>
  intro y
  obtain ⟨k', n', u', b', s', t', fs'⟩ := y
  have hrn : reachN = 140737488351232 := rfl
  have hlen : (nfsD fs).length = fs.length := by rw [nfsD_map, List.length_map]
  have hlen' : (nfsD fs').length = fs'.length := by rw [nfsD_map, List.length_map]
  refine a_enter hT [ndA (.mk k n u b s t fs), ndA (.mk k' n' u' b' s' t' fs')] [] Tryd.func10 rfl rfl rfl ⟨Fit.refl _, Fit.refl _, trivial⟩ fun c' => ?_
  refine a_box hT 20 rfl rfl rfl rfl fun g => ?_
  refine a_box hT 21 rfl rfl rfl rfl fun g1 => ?_
  refine a_g hT rfl rfl rfl (fun h => ?_) (fun h => ?_)
  · have h := bne_iff_ne.1 h
    refine a_gt hT rfl rfl rfl rfl ?_
    refine a_gt hT rfl rfl rfl rfl ?_
    refine a_gt hT rfl rfl rfl rfl ?_
    refine a_gt hT rfl rfl rfl rfl ?_
    refine a_gt hT rfl rfl rfl rfl ?_
    refine a_t hT rfl rfl rfl ?_
    refine a_ret hT [] rfl rfl rfl rfl rfl rfl ?_
    exact b_eq (by unfold sameN; first | (simp_all [toL_eq]; done) | (simp_all [toL_eq]; intro _; omega))
  · simp at h
    refine a_g hT rfl rfl rfl (fun h1 => ?_) (fun h1 => ?_)
    · have h1 := bne_iff_ne.1 h1
      refine a_gt hT rfl rfl rfl rfl ?_
      refine a_gt hT rfl rfl rfl rfl ?_
      refine a_gt hT rfl rfl rfl rfl ?_
      refine a_gt hT rfl rfl rfl rfl ?_
      refine a_t hT rfl rfl rfl ?_
      refine a_ret hT [] rfl rfl rfl rfl rfl rfl ?_
      exact b_eq (by unfold sameN; first | (simp_all [toL_eq]; done) | (simp_all [toL_eq]; intro _; omega))
    · simp at h1
      refine a_g hT rfl rfl rfl (fun h2 => ?_) (fun h2 => ?_)
      · have h2 := bne_iff_ne.1 h2
        refine a_gt hT rfl rfl rfl rfl ?_
        refine a_gt hT rfl rfl rfl rfl ?_
        refine a_gt hT rfl rfl rfl rfl ?_
        refine a_t hT rfl rfl rfl ?_
        refine a_ret hT [] rfl rfl rfl rfl rfl rfl ?_
        exact b_eq (by unfold sameN; first | (simp_all [toL_eq]; done) | (simp_all [toL_eq]; intro _; omega))
      · simp at h2
        refine a_g hT rfl rfl rfl (fun h3 => ?_) (fun h3 => ?_)
        · simp at h3
          refine a_gt hT rfl rfl rfl rfl ?_
          refine a_gt hT rfl rfl rfl rfl ?_
          refine a_t hT rfl rfl rfl ?_
          refine a_ret hT [] rfl rfl rfl rfl rfl rfl ?_
          exact b_eq (by unfold sameN; first | (simp_all [toL_eq]; done) | (simp_all [toL_eq]; intro _; omega))
        · simp at h3
          refine a_g hT rfl rfl rfl (fun h4 => ?_) (fun h4 => ?_)
          · simp at h4
            refine a_gt hT rfl rfl rfl rfl ?_
            refine a_t hT rfl rfl rfl ?_
            refine a_ret hT [] rfl rfl rfl rfl rfl rfl ?_
            exact b_eq (by unfold sameN; first | (simp_all [toL_eq]; done) | (simp_all [toL_eq]; intro _; omega))
          · simp at h4
            refine a_g hT rfl rfl rfl (fun h5 => ?_) (fun h5 => ?_)
            · have h5 := bne_iff_ne.1 h5
              refine a_t hT rfl rfl rfl ?_
              refine a_ret hT [] rfl rfl rfl rfl rfl rfl ?_
              exact b_eq (by unfold sameN; first | (simp_all [toL_eq]; done) | (simp_all [toL_eq]; intro _; omega))
            · simp at h5
              refine a_if hT rfl rfl (fun h6 => ?_) (fun h6 => ?_)
              · have h6 := bne_iff_ne.1 h6
                refine a_ret hT [] rfl rfl rfl rfl rfl rfl ?_
                exact b_eq (by unfold sameN; first | (simp_all [toL_eq]; done) | (simp_all [toL_eq]; intro _; omega))
              · simp at h6
                have hP : sameN (.mk k n u b s t fs) (.mk k' n' u' b' s' t' fs') = sameFs fs fs' := by unfold sameN; simp_all [toL_eq]; intro _; omega
                have hll : fs.length = fs'.length := by omega
                rw [hP]
                refine a_loop hT [2, 3, 60, 61] (fun i : Nat => [.v (.pointer (some ⟨g, 0, none⟩)) 20, .v (.pointer (some ⟨g1, 0, none⟩)) 21, .v (kI fs.length) 0, .v (kI i) 0]) (fun _ => [(20, .blk g 25 [.v (kI k) 0, .v (kI n) 0, .v (kU u) 0, .v (Value.bool b) 0, .v (Value.string s) 0, .v (kI t) 0, .d (A.Dat.sl 2 (nfsD fs))]), (21, .blk g1 25 [.v (kI k') 0, .v (kI n') 0, .v (kU u') 0, .v (Value.bool b') 0, .v (Value.string s') 0, .v (kI t') 0, .d (A.Dat.sl 2 (nfsD fs'))])]) (fun i => i ≤ fs.length ∧ sameFs (fs.drop i) (fs'.drop i) = sameFs fs fs') (fun i => fs.length - i) 0 [20, 21] rfl rfl ⟨Nat.zero_le _, rfl⟩ ⟨rfl, rfl, by rw [← hlen]; rfl, rfl, trivial⟩ rfl ⟨⟨rfl, rfl, ⟨rfl, rfl, rfl, rfl, rfl, rfl, rfl, trivial⟩⟩, ⟨rfl, rfl, ⟨rfl, rfl, rfl, rfl, rfl, rfl, rfl, trivial⟩⟩, trivial⟩ ?_
                rintro i ⟨i2, i3⟩
                have hw := wN i (by omega)
                rcases Nat.lt_or_ge i fs.length with hil | hil
                · have hil' : i < fs'.length := by omega
                  have hat : (nfsD fs)[(i : Int).toNat]? = some (nfD fs[i]) := by rw [nfsD_map]; simp [hil]
                  have hat' : (nfsD fs')[(i : Int).toNat]? = some (nfD fs'[i]) := by rw [nfsD_map]; simp [hil']
                  have hmem := List.getElem_mem hil
                  rw [drop_at hil, drop_at hil'] at i3
                  generalize fs[i] = f at hat hmem i3
                  generalize fs'[i] = f' at hat' i3
                  obtain ⟨num, vs⟩ := f
                  obtain ⟨num', vs'⟩ := f'
                  have hvs := hvl num vs hmem
                  have hlv : (ndsD vs).length = vs.length := by rw [ndsD_map, List.length_map]
                  have hlv' : (ndsD vs').length = vs'.length := by rw [ndsD_map, List.length_map]
                  refine a_t hT rfl rfl (decide_eq_true (by show (i : Int) < (fs.length : Int); omega)) ?_
                  refine a_treeN hT [2, 3, 5, 6, 7, 60, 61] (fun v : Nat × Nat => [.v (.pointer (some ⟨g, 0, none⟩)) 20, .v (.pointer (some ⟨g1, 0, none⟩)) 21, .v (kI i) 0, .v (.pointer (some ⟨v.1, 0, none⟩)) 22, .v (.pointer (some ⟨v.2, 0, none⟩)) 23, .v (kI fs.length) 0, .v (kI i) 0]) (fun v => [(20, .blk g 25 [.v (kI k) 0, .v (kI n) 0, .v (kU u) 0, .v (Value.bool b) 0, .v (Value.string s) 0, .v (kI t) 0, .d (A.Dat.sl 2 (nfsD fs))]), (21, .blk g1 25 [.v (kI k') 0, .v (kI n') 0, .v (kU u') 0, .v (Value.bool b') 0, .v (Value.string s') 0, .v (kI t') 0, .d (A.Dat.sl 2 (nfsD fs'))]), (22, .blk v.1 43 [.v (kI num) 0, .d (A.Dat.sl 7 (ndsD vs))]), (23, .blk v.2 43 [.v (kI num') 0, .d (A.Dat.sl 7 (ndsD vs'))])]) (fun _ => True) [] 14 [(0, false), (1, false), (2, false), (3, false), (4, false), (5, false), (6, false), (7, false), (8, false), (9, false)] rfl rfl (by kernel_rfl) (by kernel_rfl) rfl ?_ ?_
                  · refine a_ix hT _ rfl rfl rfl rfl rfl rfl (by first | omega | assumption) (by first | assumption | rfl) ?_
                    refine a_ix hT _ rfl rfl rfl rfl rfl rfl (by first | omega | assumption) (by first | assumption | rfl) ?_
                    refine a_alt hT [([(10, true), (11, true), (12, true), (13, true)], true), ([(11, true), (10, true), (12, true), (13, true)], true)] rfl rfl (by kernel_rfl) ⟨?_, ?_, trivial⟩
                    · refine a_new hT hZ 22 rfl rfl rfl rfl fun g2 => ?_
                      refine a_new hT hZ 23 rfl rfl rfl rfl fun g3 => ?_
                      exact a_next hT (g2, g3) [20, 21, 22, 23] rfl rfl trivial ⟨rfl, rfl, rfl, rfl, rfl, rfl, rfl, trivial⟩ rfl ⟨⟨rfl, rfl, ⟨rfl, rfl, rfl, rfl, rfl, rfl, rfl, trivial⟩⟩, ⟨rfl, rfl, ⟨rfl, rfl, rfl, rfl, rfl, rfl, rfl, trivial⟩⟩, ⟨rfl, rfl, ⟨rfl, rfl, trivial⟩⟩, ⟨rfl, rfl, ⟨rfl, rfl, trivial⟩⟩, trivial⟩
                    · refine a_new hT hZ 23 rfl rfl rfl rfl fun g3 => ?_
                      refine a_new hT hZ 22 rfl rfl rfl rfl fun g2 => ?_
                      exact a_next hT (g2, g3) [20, 21, 22, 23] rfl rfl trivial ⟨rfl, rfl, rfl, rfl, rfl, rfl, rfl, trivial⟩ rfl ⟨⟨rfl, rfl, ⟨rfl, rfl, rfl, rfl, rfl, rfl, rfl, trivial⟩⟩, ⟨rfl, rfl, ⟨rfl, rfl, rfl, rfl, rfl, rfl, rfl, trivial⟩⟩, ⟨rfl, rfl, ⟨rfl, rfl, trivial⟩⟩, ⟨rfl, rfl, ⟨rfl, rfl, trivial⟩⟩, trivial⟩
                  rintro ⟨g2, g3⟩ _
                  refine a_g hT rfl rfl rfl (fun h7 => ?_) (fun h7 => ?_)
                  · have h7 := bne_iff_ne.1 h7
                    refine a_t hT rfl rfl rfl ?_
                    refine a_ret hT [] rfl rfl rfl rfl rfl rfl ?_
                    exact b_eq (by rw [← i3]; unfold sameFs sameF; simp_all)
                  · simp at h7
                    refine a_if hT rfl rfl (fun h8 => ?_) (fun h8 => ?_)
                    · have h8 := bne_iff_ne.1 h8
                      have h9 : vs.length ≠ vs'.length := by intro e; rw [hlv, hlv'] at h8; exact h8 (by omega)
                      refine a_ret hT [] rfl rfl rfl rfl rfl rfl ?_
                      exact b_eq (by rw [← i3]; unfold sameFs sameF; simp [h9])
                    · simp at h8
                      have h9 : vs.length = vs'.length := by rw [hlv, hlv'] at h8; omega
                      have hFs : (sameVs vs vs' && sameFs (fs.drop (i + 1)) (fs'.drop (i + 1))) = sameFs fs fs' := by rw [← i3]; conv => rhs; unfold sameFs sameF; simp [h7, h9]
                      rw [← hFs]
                      refine a_loop hT [2, 3, 5, 6, 7, 60, 61, 90, 91] (fun j : Nat => [.v (.pointer (some ⟨g, 0, none⟩)) 20, .v (.pointer (some ⟨g1, 0, none⟩)) 21, .v (kI i) 0, .v (.pointer (some ⟨g2, 0, none⟩)) 22, .v (.pointer (some ⟨g3, 0, none⟩)) 23, .v (kI fs.length) 0, .v (kI i) 0, .v (kI vs.length) 0, .v (kI j) 0]) (fun _ => [(20, .blk g 25 [.v (kI k) 0, .v (kI n) 0, .v (kU u) 0, .v (Value.bool b) 0, .v (Value.string s) 0, .v (kI t) 0, .d (A.Dat.sl 2 (nfsD fs))]), (21, .blk g1 25 [.v (kI k') 0, .v (kI n') 0, .v (kU u') 0, .v (Value.bool b') 0, .v (Value.string s') 0, .v (kI t') 0, .d (A.Dat.sl 2 (nfsD fs'))]), (22, .blk g2 43 [.v (kI num) 0, .d (A.Dat.sl 7 (ndsD vs))]), (23, .blk g3 43 [.v (kI num') 0, .d (A.Dat.sl 7 (ndsD vs'))])]) (fun j => j ≤ vs.length ∧ sameVs (vs.drop j) (vs'.drop j) = sameVs vs vs') (fun j => vs.length - j) 0 [20, 21, 22, 23] rfl rfl ⟨Nat.zero_le _, rfl⟩ ⟨rfl, rfl, rfl, rfl, rfl, rfl, rfl, by rw [← hlv]; rfl, rfl, trivial⟩ rfl ⟨⟨rfl, rfl, ⟨rfl, rfl, rfl, rfl, rfl, rfl, rfl, trivial⟩⟩, ⟨rfl, rfl, ⟨rfl, rfl, rfl, rfl, rfl, rfl, rfl, trivial⟩⟩, ⟨rfl, rfl, ⟨rfl, rfl, trivial⟩⟩, ⟨rfl, rfl, ⟨rfl, rfl, trivial⟩⟩, trivial⟩ ?_
                      rintro j ⟨j2, j3⟩
                      have hw2 := wN j (by omega)
                      rcases Nat.lt_or_ge j vs.length with hjl | hjl
                      · have hjl' : j < vs'.length := by omega
                        have hat2 : (ndsD vs)[(j : Int).toNat]? = some (ndD vs[j]) := by rw [ndsD_map]; simp [hjl]
                        have hat2' : (ndsD vs')[(j : Int).toNat]? = some (ndD vs'[j]) := by rw [ndsD_map]; simp [hjl']
                        have hy := ih num vs vs[j] hmem (List.getElem_mem hjl) (y := vs'[j])
                        rw [drop_at hjl, drop_at hjl'] at j3
                        generalize vs[j] = y at hat2 hy j3
                        generalize vs'[j] = y' at hat2' hy j3
                        have j6 : (sameN y y' && sameVs (vs.drop (j + 1)) (vs'.drop (j + 1))) = sameVs vs vs' := by rw [← j3]; conv => rhs; unfold sameVs
                        obtain ⟨yk, yn, yu, yb, ys, yt, yf⟩ := y
                        obtain ⟨zk, zn, zu, zb, zs, zt, zf⟩ := y'
                        generalize sameN (.mk yk yn yu yb ys yt yf) (.mk zk zn zu zb zs zt zf) = r at hy j6
                        refine a_t hT rfl rfl (decide_eq_true (by show (j : Int) < (vs.length : Int); omega)) ?_
                        refine a_drawX hT [] 10 [(0, false), (1, false), (2, false), (3, false), (4, false), (5, false), (6, false), (7, false), (8, false), (9, false), (10, true)] rfl rfl (by kernel_rfl) (by kernel_rfl) rfl ?_
                        refine a_ix hT _ rfl rfl rfl rfl rfl rfl (by first | omega | assumption) (by first | assumption | rfl) ?_
                        refine a_ix hT _ rfl rfl rfl rfl rfl rfl (by first | omega | assumption) (by first | assumption | rfl) ?_
                        refine a_call hT rfl rfl rfl (by kernel_rfl) hy [] [] rfl rfl ?_
                        rintro _ _ ⟨rfl, rfl⟩
                        refine a_rest hT [(11, true)] rfl rfl (by kernel_rfl) ?_
                        refine a_if hT rfl rfl (fun h10 => ?_) (fun h10 => ?_)
                        · simp at h10
                          refine a_ret hT [] rfl rfl rfl rfl rfl rfl ?_
                          exact b_eq (by rw [← j6, h10]; rfl)
                        · simp at h10
                          rw [h10, Bool.true_and] at j6
                          exact a_next hT (j + 1) [20, 21, 22, 23] rfl rfl ⟨⟨by show j + 1 ≤ vs.length; omega, j6⟩, by show vs.length - (j + 1) < vs.length - j; omega⟩ ⟨rfl, rfl, rfl, rfl, rfl, rfl, rfl, rfl, by show Value.int .i64 _ = Value.int .i64 _; rw [hw2], trivial⟩ rfl ⟨⟨rfl, rfl, ⟨rfl, rfl, rfl, rfl, rfl, rfl, rfl, trivial⟩⟩, ⟨rfl, rfl, ⟨rfl, rfl, rfl, rfl, rfl, rfl, rfl, trivial⟩⟩, ⟨rfl, rfl, ⟨rfl, rfl, trivial⟩⟩, ⟨rfl, rfl, ⟨rfl, rfl, trivial⟩⟩, trivial⟩
                      · refine a_f hT rfl rfl (decide_eq_false (by show ¬ (j : Int) < (vs.length : Int); omega)) ?_
                        rw [List.drop_eq_nil_of_le hjl] at j3
                        have hv1 : sameVs vs vs' = true := by rw [← j3]; unfold sameVs; rfl
                        exact a_next hT (i + 1) [20, 21] rfl rfl ⟨⟨by show i + 1 ≤ fs.length; omega, by rw [hv1, Bool.true_and]⟩, by show fs.length - (i + 1) < fs.length - i; omega⟩ ⟨rfl, rfl, rfl, by show Value.int .i64 _ = Value.int .i64 _; rw [hw], trivial⟩ rfl ⟨⟨rfl, rfl, ⟨rfl, rfl, rfl, rfl, rfl, rfl, rfl, trivial⟩⟩, ⟨rfl, rfl, ⟨rfl, rfl, rfl, rfl, rfl, rfl, rfl, trivial⟩⟩, trivial⟩
                · refine a_f hT rfl rfl (decide_eq_false (by show ¬ (i : Int) < (fs.length : Int); omega)) ?_
                  refine a_ret hT [] rfl rfl rfl rfl rfl rfl ?_
                  rw [List.drop_eq_nil_of_le hil] at i3
                  exact b_eq (by rw [← i3]; unfold sameFs; rfl)
end Go.Proofs.YtjcolfogmmjaoaaDoor
end

section
/- Layer 9: Small, Clean, Get. -/
set_option linter.unusedVariables false
set_option linter.unusedSimpArgs false
set_option maxRecDepth 100000
set_option maxHeartbeats 1000000
namespace Go.Proofs.YtjcolfogmmjaoaaDoor
open V A
theorem wrap32b (n : Int) : -2147483648 ≤ IntKind.i32.wrap n ∧ IntKind.i32.wrap n < 2147483648 := by
  unfold IntKind.wrap
  simp [IntKind.bits, IntKind.signed]
  split <;> omega
mutual
theorem okV_theirs : ∀ (x : ND), OkN x → OkV (theirsP x)
  | .mk k n u b s t fs, h => by
    cases h with
    | mk hl hvl hv =>
    have h32 := wrap32b n
    unfold theirsP
    split
    · exact .int _
    split
    · exact .uint _
    split
    · exact .bool _
    split
    · exact .text _
    split
    · exact .bytes _
    split
    · exact .enum _ h32.1 h32.2
    split
    · refine .msg (by rw [theirsFs_map, List.length_map]; exact hl) (fun num vs hm => ?_) (fun num vs x hm hx => ?_)
      · rw [theirsFs_map] at hm
        obtain ⟨f, hf, he⟩ := List.mem_map.1 hm
        obtain ⟨num', vs'⟩ := f
        unfold theirsF at he
        cases he
        rw [theirsVs_map, List.length_map]
        exact hvl _ _ hf
      · exact okV_fs fs hv num vs x hm hx
    · exact .none
theorem okV_fs : ∀ (fs : List NF), (∀ num vs x, NF.mk num vs ∈ fs → x ∈ vs → OkN x) → ∀ num vs x, VF.mk num vs ∈ theirsFs fs → x ∈ vs → OkV x
  | [], hv, num, vs, x, hm, hx => by unfold theirsFs at hm; simp at hm
  | .mk n' vs' :: fs, hv, num, vs, x, hm, hx => by
    unfold theirsFs at hm
    rcases List.mem_cons.1 hm with he | hm
    · unfold theirsF at he
      cases he
      exact okV_vs vs' (fun x hx => hv n' vs' x (by simp) hx) x hx
    · exact okV_fs fs (fun num vs x hm hx => hv num vs x (by simp [hm]) hx) num vs x hm hx
theorem okV_vs : ∀ (vs : List ND), (∀ x ∈ vs, OkN x) → ∀ x ∈ theirsVs vs, OkV x
  | [], hv, x, hx => by unfold theirsVs at hx; simp at hx
  | y :: vs, hv, x, hx => by
    unfold theirsVs at hx
    rcases List.mem_cons.1 hx with rfl | hx
    · exact okV_theirs y (hv y (by simp))
    · exact okV_vs vs (fun x hx => hv x (by simp [hx])) x hx
end
theorem Small_spec {x : ND} (hx : BdN x) : FSpec Tryd.prog 7 [ndA x] [] fun a cs => a = bA (decide (0 ≤ smallP x 0 400)) ∧ cs = [] := by
  have hH := small_spec hx (d := 0) (l := 400) (by decide) (by decide) (by decide) (by decide)
  obtain ⟨k, n, u, b, s, t, fs⟩ := x
  refine a_enter hT [ndA (.mk k n u b s t fs)] [] Tryd.func7 rfl rfl rfl ⟨Fit.refl _, trivial⟩ fun c' => ?_
  refine a_box hT 20 rfl rfl rfl rfl fun g => ?_
  refine a_call hT rfl rfl rfl (by kernel_rfl) hH [] [] rfl rfl ?_
  rintro _ _ ⟨rfl, rfl⟩
  refine a_ret hT [] rfl rfl rfl rfl rfl rfl ?_
  first | exact ⟨rfl, rfl⟩ | rfl
theorem Clean_spec {x : ND} (hx : OkN x) : FSpec Tryd.prog 12 [ndA x] [] fun a cs => a = ndA (oursP (theirsP x)) ∧ cs = [] := by
  have hH := Theirs_spec hx
  have hH2 := (Ours_spec (okV_theirs x hx)).ofNd
  generalize oursP (theirsP x) = z at hH2
  obtain ⟨k, n, u, b, s, t, fs⟩ := x
  obtain ⟨zk, zn, zu, zb, zs, zt, zf⟩ := z
  refine a_enter hT [ndA (.mk k n u b s t fs)] [] Tryd.func12 rfl rfl rfl ⟨Fit.refl _, trivial⟩ fun c' => ?_
  refine a_box hT 20 rfl rfl rfl rfl fun g => ?_
  refine a_new hT hZ 21 rfl rfl rfl rfl fun g1 => ?_
  refine a_call hT rfl rfl rfl (by kernel_rfl) hH [] [] rfl rfl ?_
  rintro _ _ ⟨rfl, rfl⟩
  refine a_call hT rfl rfl rfl (by kernel_rfl) hH2 [] [] rfl rfl ?_
  rintro _ _ ⟨rfl, rfl⟩
  refine a_ret hT [] rfl rfl rfl rfl rfl rfl ?_
  first | exact ⟨rfl, rfl⟩ | rfl
theorem elV : elemOk Tryd.prog 34 1 = true := by kernel_rfl
theorem cloneV {l : List VL} (hl : l.length ≤ lim) : FSpec Tryd.prog 24 [.d (.sl 1 (vlsD l))] [] fun a cs => a = .d (.sl 1 (vlsD l)) ∧ cs = [] := by
  have : FSpec Tryd.prog 24 [.d (.sl 1 (vlsD l))] [] fun a cs => ∃ x, a = .row x 1 ∧ cs = [.row x 34 1 (vlsD l)] := by
    refine a_enter hT [.d (.sl 1 (vlsD l))] [] Tryd.func24 rfl rfl rfl ⟨rfl, trivial⟩ fun c => ?_
    refine a_isnil hT rfl rfl rfl rfl rfl rfl fun b hb => ?_
    refine a_if hT rfl rfl (fun h => ?_) (fun h => ?_)
    · refine a_run hT 4 rfl rfl ?_
      refine a_nilrow 2 1 34 1 rfl rfl ?_
      refine a_ret hT [1] rfl rfl rfl rfl rfl rfl ⟨_, rfl, ?_⟩
      rw [hb h]
    · refine a_lit hT 1 rfl rfl rfl rfl elV rfl rfl rfl rfl fun x => ?_
      refine a_app hT 1 (vlsD l) rfl rfl rfl rfl elV rfl rfl rfl rfl rfl rfl (by rw [vlsD_map]; simpa using hl) fun x => ?_
      refine a_ret hT [1] rfl rfl rfl rfl rfl rfl ⟨x, rfl, rfl⟩
  exact this.freeze
def getFs : List VF → Int → List VL
  | [], _ => []
  | .mk n vs :: fs, k => if n = k then vs else getFs fs k
def getP : VL → Int → List VL
  | .msg _ fs _, k => getFs fs k
  | _, _ => []
theorem Get_spec {v : VL} {k : Int} (hv : OkV v) : FSpec Tryd.prog 13 [nd (vlD v), .v (kI k) 0] [] fun a cs => a = .d (.sl 1 (vlsD (getP v k))) ∧ cs = [] := by
  refine FSpec.le ?_
  cases hv with
  | none =>
    refine a_enter hT [nd (vlD .none), .v (kI k) 0] [] Tryd.func13 rfl rfl rfl ⟨Fit.refl _, rfl, trivial⟩ fun c' => ?_
    refine a_assertN hT (.agg #[.int .i64 0, .slice none 0 0, .string ByteArray.empty]) rfl rfl rfl rfl rfl (by kernel_rfl) rfl ?_
    refine a_new hT hZ 20 rfl rfl rfl rfl fun g => ?_
    refine a_loop hT [1, 15, 16, 17] (fun _ : Unit => [.v (kI k) 0, .v (.slice none 0 0) 0, .v (kI 0) 0, .v (kI 0) 0]) (fun _ => []) (fun _ => True) (fun _ => 0) () [] rfl rfl trivial ⟨rfl, rfl, rfl, rfl, trivial⟩ rfl trivial ?_
    rintro _ _
    refine a_f hT rfl rfl rfl ?_
    refine a_ret hT [] rfl rfl rfl rfl rfl rfl ?_
    exact ⟨_, le_nil, rfl, rfl⟩
  | int n =>
    refine a_enter hT [nd (vlD (.int n)), .v (kI k) 0] [] Tryd.func13 rfl rfl rfl ⟨Fit.refl _, rfl, trivial⟩ fun c' => ?_
    refine a_assertN hT (.agg #[.int .i64 0, .slice none 0 0, .string ByteArray.empty]) rfl rfl rfl rfl rfl (by kernel_rfl) rfl ?_
    refine a_new hT hZ 20 rfl rfl rfl rfl fun g => ?_
    refine a_loop hT [1, 15, 16, 17] (fun _ : Unit => [.v (kI k) 0, .v (.slice none 0 0) 0, .v (kI 0) 0, .v (kI 0) 0]) (fun _ => []) (fun _ => True) (fun _ => 0) () [] rfl rfl trivial ⟨rfl, rfl, rfl, rfl, trivial⟩ rfl trivial ?_
    rintro _ _
    refine a_f hT rfl rfl rfl ?_
    refine a_ret hT [] rfl rfl rfl rfl rfl rfl ?_
    exact ⟨_, le_nil, rfl, rfl⟩
  | uint n =>
    refine a_enter hT [nd (vlD (.uint n)), .v (kI k) 0] [] Tryd.func13 rfl rfl rfl ⟨Fit.refl _, rfl, trivial⟩ fun c' => ?_
    refine a_assertN hT (.agg #[.int .i64 0, .slice none 0 0, .string ByteArray.empty]) rfl rfl rfl rfl rfl (by kernel_rfl) rfl ?_
    refine a_new hT hZ 20 rfl rfl rfl rfl fun g => ?_
    refine a_loop hT [1, 15, 16, 17] (fun _ : Unit => [.v (kI k) 0, .v (.slice none 0 0) 0, .v (kI 0) 0, .v (kI 0) 0]) (fun _ => []) (fun _ => True) (fun _ => 0) () [] rfl rfl trivial ⟨rfl, rfl, rfl, rfl, trivial⟩ rfl trivial ?_
    rintro _ _
    refine a_f hT rfl rfl rfl ?_
    refine a_ret hT [] rfl rfl rfl rfl rfl rfl ?_
    exact ⟨_, le_nil, rfl, rfl⟩
  | bool b =>
    refine a_enter hT [nd (vlD (.bool b)), .v (kI k) 0] [] Tryd.func13 rfl rfl rfl ⟨Fit.refl _, rfl, trivial⟩ fun c' => ?_
    refine a_assertN hT (.agg #[.int .i64 0, .slice none 0 0, .string ByteArray.empty]) rfl rfl rfl rfl rfl (by kernel_rfl) rfl ?_
    refine a_new hT hZ 20 rfl rfl rfl rfl fun g => ?_
    refine a_loop hT [1, 15, 16, 17] (fun _ : Unit => [.v (kI k) 0, .v (.slice none 0 0) 0, .v (kI 0) 0, .v (kI 0) 0]) (fun _ => []) (fun _ => True) (fun _ => 0) () [] rfl rfl trivial ⟨rfl, rfl, rfl, rfl, trivial⟩ rfl trivial ?_
    rintro _ _
    refine a_f hT rfl rfl rfl ?_
    refine a_ret hT [] rfl rfl rfl rfl rfl rfl ?_
    exact ⟨_, le_nil, rfl, rfl⟩
  | text s =>
    refine a_enter hT [nd (vlD (.text s)), .v (kI k) 0] [] Tryd.func13 rfl rfl rfl ⟨Fit.refl _, rfl, trivial⟩ fun c' => ?_
    refine a_assertN hT (.agg #[.int .i64 0, .slice none 0 0, .string ByteArray.empty]) rfl rfl rfl rfl rfl (by kernel_rfl) rfl ?_
    refine a_new hT hZ 20 rfl rfl rfl rfl fun g => ?_
    refine a_loop hT [1, 15, 16, 17] (fun _ : Unit => [.v (kI k) 0, .v (.slice none 0 0) 0, .v (kI 0) 0, .v (kI 0) 0]) (fun _ => []) (fun _ => True) (fun _ => 0) () [] rfl rfl trivial ⟨rfl, rfl, rfl, rfl, trivial⟩ rfl trivial ?_
    rintro _ _
    refine a_f hT rfl rfl rfl ?_
    refine a_ret hT [] rfl rfl rfl rfl rfl rfl ?_
    exact ⟨_, le_nil, rfl, rfl⟩
  | bytes s =>
    refine a_enter hT [nd (vlD (.bytes s)), .v (kI k) 0] [] Tryd.func13 rfl rfl rfl ⟨Fit.refl _, rfl, trivial⟩ fun c' => ?_
    refine a_assertN hT (.agg #[.int .i64 0, .slice none 0 0, .string ByteArray.empty]) rfl rfl rfl rfl rfl (by kernel_rfl) rfl ?_
    refine a_new hT hZ 20 rfl rfl rfl rfl fun g => ?_
    refine a_loop hT [1, 15, 16, 17] (fun _ : Unit => [.v (kI k) 0, .v (.slice none 0 0) 0, .v (kI 0) 0, .v (kI 0) 0]) (fun _ => []) (fun _ => True) (fun _ => 0) () [] rfl rfl trivial ⟨rfl, rfl, rfl, rfl, trivial⟩ rfl trivial ?_
    rintro _ _
    refine a_f hT rfl rfl rfl ?_
    refine a_ret hT [] rfl rfl rfl rfl rfl rfl ?_
    exact ⟨_, le_nil, rfl, rfl⟩
  | enum n h1 h2 =>
    refine a_enter hT [nd (vlD (.enum n)), .v (kI k) 0] [] Tryd.func13 rfl rfl rfl ⟨Fit.refl _, rfl, trivial⟩ fun c' => ?_
    refine a_assertN hT (.agg #[.int .i64 0, .slice none 0 0, .string ByteArray.empty]) rfl rfl rfl rfl rfl (by kernel_rfl) rfl ?_
    refine a_new hT hZ 20 rfl rfl rfl rfl fun g => ?_
    refine a_loop hT [1, 15, 16, 17] (fun _ : Unit => [.v (kI k) 0, .v (.slice none 0 0) 0, .v (kI 0) 0, .v (kI 0) 0]) (fun _ => []) (fun _ => True) (fun _ => 0) () [] rfl rfl trivial ⟨rfl, rfl, rfl, rfl, trivial⟩ rfl trivial ?_
    rintro _ _
    refine a_f hT rfl rfl rfl ?_
    refine a_ret hT [] rfl rfl rfl rfl rfl rfl ?_
    exact ⟨_, le_nil, rfl, rfl⟩
  | @msg t fs s hl hvl hv =>
    have hlen : (vfsD fs).length = fs.length := by rw [vfsD_map, List.length_map]
    refine a_enter hT [nd (vlD (.msg t fs s)), .v (kI k) 0] [] Tryd.func13 rfl rfl rfl ⟨Fit.refl _, rfl, trivial⟩ fun c' => ?_
    refine a_new hT hZ 20 rfl rfl rfl rfl fun g => ?_
    refine a_loop hT [1, 15, 16, 17] (fun i : Nat => [.v (kI k) 0, .d (.sl 2 (vfsD fs)), .v (kI fs.length) 0, .v (kI i) 0]) (fun _ => []) (fun i => i ≤ fs.length ∧ getFs (fs.drop i) k = getFs fs k) (fun i => fs.length - i) 0 [] rfl rfl ⟨Nat.zero_le _, rfl⟩ ⟨rfl, rfl, by rw [← hlen]; rfl, rfl, trivial⟩ rfl trivial ?_
    rintro i ⟨i2, i3⟩
    have hw := wN i (by omega)
    rcases Nat.lt_or_ge i fs.length with hil | hil
    · have hat : (vfsD fs)[(i : Int).toNat]? = some (vfD fs[i]) := by rw [vfsD_map]; simp [hil]
      have hmem := List.getElem_mem hil
      rw [drop_at hil] at i3
      generalize fs[i] = f at hat hmem i3
      obtain ⟨num, vs⟩ := f
      have hvs := hvl num vs hmem
      have hc := cloneV (l := vs) (by unfold lim; omega)
      have i4 : (if num = k then vs else getFs (fs.drop (i + 1)) k) = getFs fs k := by rw [← i3]; conv => rhs; unfold getFs
      refine a_t hT rfl rfl (decide_eq_true (by show (i : Int) < (fs.length : Int); omega)) ?_
      refine a_ix hT _ rfl rfl rfl rfl rfl rfl (by first | omega | assumption) (by first | assumption | rfl) ?_
      refine a_new hT hZ 20 rfl rfl rfl rfl fun g1 => ?_
      refine a_if hT rfl rfl (fun h => ?_) (fun h => ?_)
      · have h := eq_of_beq h
        refine a_call hT rfl rfl rfl (by kernel_rfl) hc [] [] rfl rfl ?_
        rintro _ _ ⟨rfl, rfl⟩
        refine a_ret hT [] rfl rfl rfl rfl rfl rfl ?_
        rw [if_pos h] at i4
        exact ⟨_, Le.refl _, by show _ = AV.d (.sl 1 (vlsD (getFs fs k))); rw [← i4]; rfl, rfl⟩
      · have h := ne_of_beq_false h
        rw [if_neg h] at i4
        exact a_next hT (i + 1) [] rfl rfl ⟨⟨by show i + 1 ≤ fs.length; omega, i4⟩, by show fs.length - (i + 1) < fs.length - i; omega⟩ ⟨rfl, rfl, rfl, by show Value.int .i64 _ = Value.int .i64 _; rw [hw], trivial⟩ rfl trivial
    · refine a_f hT rfl rfl (decide_eq_false (by show ¬ (i : Int) < (fs.length : Int); omega)) ?_
      rw [List.drop_eq_nil_of_le hil] at i3
      refine a_ret hT [] rfl rfl rfl rfl rfl rfl ?_
      exact ⟨_, le_nil (k := 1), by show _ = AV.d (.sl 1 (vlsD (getFs fs k))); rw [← i3]; rfl, rfl⟩
end Go.Proofs.YtjcolfogmmjaoaaDoor
end
