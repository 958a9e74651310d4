import Derived.Test.YtjcolfogmmjaoaaGreatDoorQDecodeUnknown9
import Derived.Test.YtjcolfogmmjaoaaGreatDoorQDecodeUnknown7
import Derived.Test.YtjcolfogmmjaoaaGreatDoorQDecodeUnknown8
section
set_option linter.unusedVariables false
set_option linter.unusedSimpArgs false
set_option maxRecDepth 100000
set_option maxHeartbeats 1000000
namespace Go.Proofs.YtjcolfogmmjaoaaGreatDoor
open V A
mutual
def sameN : ND → ND → Bool
  | .mk k n u b s t fs, .mk k' n' u' b' s' t' fs' => decide (k = k') && (decide (n = n') && (decide (u = u') && (b == b' && (decide (s = s') && (decide (t = t') && (decide (fs.length = fs'.length) && sameFs fs fs'))))))
def sameF : NF → NF → Bool
  | .mk n vs, .mk n' vs' => decide (n = n') && (decide (vs.length = vs'.length) && sameVs vs vs')
def sameFs : List NF → List NF → Bool
  | f :: fs, f' :: fs' => sameF f f' && sameFs fs fs'
  | _, _ => true
def sameVs : List ND → List ND → Bool
  | x :: xs, y :: ys => sameN x y && sameVs xs ys
  | _, _ => true
end
mutual
theorem sameN_refl : ∀ x : ND, sameN x x = true
  | .mk k n u b s t fs => by unfold sameN; simp [sameFs_refl fs]
theorem sameF_refl : ∀ f : NF, sameF f f = true
  | .mk n vs => by unfold sameF; simp [sameVs_refl vs]
theorem sameFs_refl : ∀ fs : List NF, sameFs fs fs = true
  | [] => by unfold sameFs; rfl
  | f :: fs => by unfold sameFs; simp [sameF_refl f, sameFs_refl fs]
theorem sameVs_refl : ∀ xs : List ND, sameVs xs xs = true
  | [] => by unfold sameVs; rfl
  | x :: xs => by unfold sameVs; simp [sameN_refl x, sameVs_refl xs]
end
theorem toL_eq (s t : ByteArray) : s.toList = t.toList ↔ s = t := by
  have := ba_list s t
  rw [Bool.eq_iff_iff] at this
  simpa using this
theorem Same_spec : ∀ {x : ND}, BdN x → ∀ {y : ND}, FSpec Tryz.prog 17 [ndA x, ndA y] [] fun a cs => a = bA (sameN x y) ∧ cs = [] := by
  intro x hok
  induction hok with
  | @mk k n u b s t fs hs hl hvl hv ih =>
  intro y
  obtain ⟨k', n', u', b', s', t', fs'⟩ := y
  have hrn : reachN = 140737488351232 := rfl
  have hlen : (nfsD fs).length = fs.length := by rw [nfsD_map, List.length_map]
  have hlen' : (nfsD fs').length = fs'.length := by rw [nfsD_map, List.length_map]
  refine a_enter hT [ndA (.mk k n u b s t fs), ndA (.mk k' n' u' b' s' t' fs')] [] Tryz.func17 rfl rfl rfl ⟨Fit.refl _, Fit.refl _, trivial⟩ fun c' => ?_
  refine a_box hT 20 rfl rfl rfl rfl fun g => ?_
  refine a_box hT 21 rfl rfl rfl rfl fun g1 => ?_
  refine a_g hT rfl rfl rfl (fun h => ?_) (fun h => ?_)
  · have h := bne_iff_ne.1 h
    refine a_gt hT rfl rfl rfl rfl ?_
    refine a_gt hT rfl rfl rfl rfl ?_
    refine a_gt hT rfl rfl rfl rfl ?_
    refine a_gt hT rfl rfl rfl rfl ?_
    refine a_gt hT rfl rfl rfl rfl ?_
    refine a_t hT rfl rfl rfl ?_
    refine a_ret hT [] rfl rfl rfl rfl rfl rfl ?_
    exact b_eq (by unfold sameN; first | (simp_all [toL_eq]; done) | (simp_all [toL_eq]; intro _; omega))
  · simp at h
    refine a_g hT rfl rfl rfl (fun h1 => ?_) (fun h1 => ?_)
    · have h1 := bne_iff_ne.1 h1
      refine a_gt hT rfl rfl rfl rfl ?_
      refine a_gt hT rfl rfl rfl rfl ?_
      refine a_gt hT rfl rfl rfl rfl ?_
      refine a_gt hT rfl rfl rfl rfl ?_
      refine a_t hT rfl rfl rfl ?_
      refine a_ret hT [] rfl rfl rfl rfl rfl rfl ?_
      exact b_eq (by unfold sameN; first | (simp_all [toL_eq]; done) | (simp_all [toL_eq]; intro _; omega))
    · simp at h1
      refine a_g hT rfl rfl rfl (fun h2 => ?_) (fun h2 => ?_)
      · have h2 := bne_iff_ne.1 h2
        refine a_gt hT rfl rfl rfl rfl ?_
        refine a_gt hT rfl rfl rfl rfl ?_
        refine a_gt hT rfl rfl rfl rfl ?_
        refine a_t hT rfl rfl rfl ?_
        refine a_ret hT [] rfl rfl rfl rfl rfl rfl ?_
        exact b_eq (by unfold sameN; first | (simp_all [toL_eq]; done) | (simp_all [toL_eq]; intro _; omega))
      · simp at h2
        refine a_g hT rfl rfl rfl (fun h3 => ?_) (fun h3 => ?_)
        · simp at h3
          refine a_gt hT rfl rfl rfl rfl ?_
          refine a_gt hT rfl rfl rfl rfl ?_
          refine a_t hT rfl rfl rfl ?_
          refine a_ret hT [] rfl rfl rfl rfl rfl rfl ?_
          exact b_eq (by unfold sameN; first | (simp_all [toL_eq]; done) | (simp_all [toL_eq]; intro _; omega))
        · simp at h3
          refine a_g hT rfl rfl rfl (fun h4 => ?_) (fun h4 => ?_)
          · simp at h4
            refine a_gt hT rfl rfl rfl rfl ?_
            refine a_t hT rfl rfl rfl ?_
            refine a_ret hT [] rfl rfl rfl rfl rfl rfl ?_
            exact b_eq (by unfold sameN; first | (simp_all [toL_eq]; done) | (simp_all [toL_eq]; intro _; omega))
          · simp at h4
            refine a_g hT rfl rfl rfl (fun h5 => ?_) (fun h5 => ?_)
            · have h5 := bne_iff_ne.1 h5
              refine a_t hT rfl rfl rfl ?_
              refine a_ret hT [] rfl rfl rfl rfl rfl rfl ?_
              exact b_eq (by unfold sameN; first | (simp_all [toL_eq]; done) | (simp_all [toL_eq]; intro _; omega))
            · simp at h5
              refine a_if hT rfl rfl (fun h6 => ?_) (fun h6 => ?_)
              · have h6 := bne_iff_ne.1 h6
                refine a_ret hT [] rfl rfl rfl rfl rfl rfl ?_
                exact b_eq (by unfold sameN; first | (simp_all [toL_eq]; done) | (simp_all [toL_eq]; intro _; omega))
              · simp at h6
                have hP : sameN (.mk k n u b s t fs) (.mk k' n' u' b' s' t' fs') = sameFs fs fs' := by unfold sameN; simp_all [toL_eq]; intro _; omega
                have hll : fs.length = fs'.length := by omega
                rw [hP]
                refine a_loop hT [2, 3, 60, 61] (fun i : Nat => [.v (.pointer (some ⟨g, 0, none⟩)) 20, .v (.pointer (some ⟨g1, 0, none⟩)) 21, .v (kI fs.length) 0, .v (kI i) 0]) (fun _ => [(20, .blk g 38 [.v (kI k) 0, .v (kI n) 0, .v (kU u) 0, .v (Value.bool b) 0, .v (Value.string s) 0, .v (kI t) 0, .d (A.Dat.sl 2 (nfsD fs))]), (21, .blk g1 38 [.v (kI k') 0, .v (kI n') 0, .v (kU u') 0, .v (Value.bool b') 0, .v (Value.string s') 0, .v (kI t') 0, .d (A.Dat.sl 2 (nfsD fs'))])]) (fun i => i ≤ fs.length ∧ sameFs (fs.drop i) (fs'.drop i) = sameFs fs fs') (fun i => fs.length - i) 0 [20, 21] rfl rfl ⟨Nat.zero_le _, rfl⟩ ⟨rfl, rfl, by rw [← hlen]; rfl, rfl, trivial⟩ rfl ⟨⟨rfl, rfl, ⟨rfl, rfl, rfl, rfl, rfl, rfl, rfl, trivial⟩⟩, ⟨rfl, rfl, ⟨rfl, rfl, rfl, rfl, rfl, rfl, rfl, trivial⟩⟩, trivial⟩ ?_
                rintro i ⟨i2, i3⟩
                have hw := wN i (by omega)
                rcases Nat.lt_or_ge i fs.length with hil | hil
                · have hil' : i < fs'.length := by omega
                  have hat : (nfsD fs)[(i : Int).toNat]? = some (nfD fs[i]) := by rw [nfsD_map]; simp [hil]
                  have hat' : (nfsD fs')[(i : Int).toNat]? = some (nfD fs'[i]) := by rw [nfsD_map]; simp [hil']
                  have hmem := List.getElem_mem hil
                  rw [drop_at hil, drop_at hil'] at i3
                  generalize fs[i] = f at hat hmem i3
                  generalize fs'[i] = f' at hat' i3
                  obtain ⟨num, vs⟩ := f
                  obtain ⟨num', vs'⟩ := f'
                  have hvs := hvl num vs hmem
                  have hlv : (ndsD vs).length = vs.length := by rw [ndsD_map, List.length_map]
                  have hlv' : (ndsD vs').length = vs'.length := by rw [ndsD_map, List.length_map]
                  refine a_t hT rfl rfl (decide_eq_true (by show (i : Int) < (fs.length : Int); omega)) ?_
                  refine a_treeN hT [2, 3, 5, 6, 7, 60, 61] (fun v : Nat × Nat => [.v (.pointer (some ⟨g, 0, none⟩)) 20, .v (.pointer (some ⟨g1, 0, none⟩)) 21, .v (kI i) 0, .v (.pointer (some ⟨v.1, 0, none⟩)) 22, .v (.pointer (some ⟨v.2, 0, none⟩)) 23, .v (kI fs.length) 0, .v (kI i) 0]) (fun v => [(20, .blk g 38 [.v (kI k) 0, .v (kI n) 0, .v (kU u) 0, .v (Value.bool b) 0, .v (Value.string s) 0, .v (kI t) 0, .d (A.Dat.sl 2 (nfsD fs))]), (21, .blk g1 38 [.v (kI k') 0, .v (kI n') 0, .v (kU u') 0, .v (Value.bool b') 0, .v (Value.string s') 0, .v (kI t') 0, .d (A.Dat.sl 2 (nfsD fs'))]), (22, .blk v.1 79 [.v (kI num) 0, .d (A.Dat.sl 7 (ndsD vs))]), (23, .blk v.2 79 [.v (kI num') 0, .d (A.Dat.sl 7 (ndsD vs'))])]) (fun _ => True) [] 14 [(0, false), (1, false), (2, false), (3, false), (4, false), (5, false), (6, false), (7, false), (8, false), (9, false)] rfl rfl (by kernel_rfl) (by kernel_rfl) rfl ?_ ?_
                  · refine a_ix hT _ rfl rfl rfl rfl rfl rfl (by first | omega | assumption) (by first | assumption | rfl) ?_
                    refine a_ix hT _ rfl rfl rfl rfl rfl rfl (by first | omega | assumption) (by first | assumption | rfl) ?_
                    refine a_alt hT [([(10, true), (11, true), (12, true), (13, true)], true), ([(11, true), (10, true), (12, true), (13, true)], true)] rfl rfl (by kernel_rfl) ⟨?_, ?_, trivial⟩
                    · refine a_new hT hZ 22 rfl rfl rfl rfl fun g2 => ?_
                      refine a_new hT hZ 23 rfl rfl rfl rfl fun g3 => ?_
                      exact a_next hT (g2, g3) [20, 21, 22, 23] rfl rfl trivial ⟨rfl, rfl, rfl, rfl, rfl, rfl, rfl, trivial⟩ rfl ⟨⟨rfl, rfl, ⟨rfl, rfl, rfl, rfl, rfl, rfl, rfl, trivial⟩⟩, ⟨rfl, rfl, ⟨rfl, rfl, rfl, rfl, rfl, rfl, rfl, trivial⟩⟩, ⟨rfl, rfl, ⟨rfl, rfl, trivial⟩⟩, ⟨rfl, rfl, ⟨rfl, rfl, trivial⟩⟩, trivial⟩
                    · refine a_new hT hZ 23 rfl rfl rfl rfl fun g3 => ?_
                      refine a_new hT hZ 22 rfl rfl rfl rfl fun g2 => ?_
                      exact a_next hT (g2, g3) [20, 21, 22, 23] rfl rfl trivial ⟨rfl, rfl, rfl, rfl, rfl, rfl, rfl, trivial⟩ rfl ⟨⟨rfl, rfl, ⟨rfl, rfl, rfl, rfl, rfl, rfl, rfl, trivial⟩⟩, ⟨rfl, rfl, ⟨rfl, rfl, rfl, rfl, rfl, rfl, rfl, trivial⟩⟩, ⟨rfl, rfl, ⟨rfl, rfl, trivial⟩⟩, ⟨rfl, rfl, ⟨rfl, rfl, trivial⟩⟩, trivial⟩
                  rintro ⟨g2, g3⟩ _
                  refine a_g hT rfl rfl rfl (fun h7 => ?_) (fun h7 => ?_)
                  · have h7 := bne_iff_ne.1 h7
                    refine a_t hT rfl rfl rfl ?_
                    refine a_ret hT [] rfl rfl rfl rfl rfl rfl ?_
                    exact b_eq (by rw [← i3]; unfold sameFs sameF; simp_all)
                  · simp at h7
                    refine a_if hT rfl rfl (fun h8 => ?_) (fun h8 => ?_)
                    · have h8 := bne_iff_ne.1 h8
                      have h9 : vs.length ≠ vs'.length := by intro e; rw [hlv, hlv'] at h8; exact h8 (by omega)
                      refine a_ret hT [] rfl rfl rfl rfl rfl rfl ?_
                      exact b_eq (by rw [← i3]; unfold sameFs sameF; simp [h9])
                    · simp at h8
                      have h9 : vs.length = vs'.length := by rw [hlv, hlv'] at h8; omega
                      have hFs : (sameVs vs vs' && sameFs (fs.drop (i + 1)) (fs'.drop (i + 1))) = sameFs fs fs' := by rw [← i3]; conv => rhs; unfold sameFs sameF; simp [h7, h9]
                      rw [← hFs]
                      refine a_loop hT [2, 3, 5, 6, 7, 60, 61, 90, 91] (fun j : Nat => [.v (.pointer (some ⟨g, 0, none⟩)) 20, .v (.pointer (some ⟨g1, 0, none⟩)) 21, .v (kI i) 0, .v (.pointer (some ⟨g2, 0, none⟩)) 22, .v (.pointer (some ⟨g3, 0, none⟩)) 23, .v (kI fs.length) 0, .v (kI i) 0, .v (kI vs.length) 0, .v (kI j) 0]) (fun _ => [(20, .blk g 38 [.v (kI k) 0, .v (kI n) 0, .v (kU u) 0, .v (Value.bool b) 0, .v (Value.string s) 0, .v (kI t) 0, .d (A.Dat.sl 2 (nfsD fs))]), (21, .blk g1 38 [.v (kI k') 0, .v (kI n') 0, .v (kU u') 0, .v (Value.bool b') 0, .v (Value.string s') 0, .v (kI t') 0, .d (A.Dat.sl 2 (nfsD fs'))]), (22, .blk g2 79 [.v (kI num) 0, .d (A.Dat.sl 7 (ndsD vs))]), (23, .blk g3 79 [.v (kI num') 0, .d (A.Dat.sl 7 (ndsD vs'))])]) (fun j => j ≤ vs.length ∧ sameVs (vs.drop j) (vs'.drop j) = sameVs vs vs') (fun j => vs.length - j) 0 [20, 21, 22, 23] rfl rfl ⟨Nat.zero_le _, rfl⟩ ⟨rfl, rfl, rfl, rfl, rfl, rfl, rfl, by rw [← hlv]; rfl, rfl, trivial⟩ rfl ⟨⟨rfl, rfl, ⟨rfl, rfl, rfl, rfl, rfl, rfl, rfl, trivial⟩⟩, ⟨rfl, rfl, ⟨rfl, rfl, rfl, rfl, rfl, rfl, rfl, trivial⟩⟩, ⟨rfl, rfl, ⟨rfl, rfl, trivial⟩⟩, ⟨rfl, rfl, ⟨rfl, rfl, trivial⟩⟩, trivial⟩ ?_
                      rintro j ⟨j2, j3⟩
                      have hw2 := wN j (by omega)
                      rcases Nat.lt_or_ge j vs.length with hjl | hjl
                      · have hjl' : j < vs'.length := by omega
                        have hat2 : (ndsD vs)[(j : Int).toNat]? = some (ndD vs[j]) := by rw [ndsD_map]; simp [hjl]
                        have hat2' : (ndsD vs')[(j : Int).toNat]? = some (ndD vs'[j]) := by rw [ndsD_map]; simp [hjl']
                        have hy := ih num vs vs[j] hmem (List.getElem_mem hjl) (y := vs'[j])
                        rw [drop_at hjl, drop_at hjl'] at j3
                        generalize vs[j] = y at hat2 hy j3
                        generalize vs'[j] = y' at hat2' hy j3
                        have j6 : (sameN y y' && sameVs (vs.drop (j + 1)) (vs'.drop (j + 1))) = sameVs vs vs' := by rw [← j3]; conv => rhs; unfold sameVs
                        obtain ⟨yk, yn, yu, yb, ys, yt, yf⟩ := y
                        obtain ⟨zk, zn, zu, zb, zs, zt, zf⟩ := y'
                        generalize sameN (.mk yk yn yu yb ys yt yf) (.mk zk zn zu zb zs zt zf) = r at hy j6
                        refine a_t hT rfl rfl (decide_eq_true (by show (j : Int) < (vs.length : Int); omega)) ?_
                        refine a_drawX hT [] 10 [(0, false), (1, false), (2, false), (3, false), (4, false), (5, false), (6, false), (7, false), (8, false), (9, false), (10, true)] rfl rfl (by kernel_rfl) (by kernel_rfl) rfl ?_
                        refine a_ix hT _ rfl rfl rfl rfl rfl rfl (by first | omega | assumption) (by first | assumption | rfl) ?_
                        refine a_ix hT _ rfl rfl rfl rfl rfl rfl (by first | omega | assumption) (by first | assumption | rfl) ?_
                        refine a_call hT rfl rfl rfl (by kernel_rfl) hy [] [] rfl rfl ?_
                        rintro _ _ ⟨rfl, rfl⟩
                        refine a_rest hT [(11, true)] rfl rfl (by kernel_rfl) ?_
                        refine a_if hT rfl rfl (fun h10 => ?_) (fun h10 => ?_)
                        · simp at h10
                          refine a_ret hT [] rfl rfl rfl rfl rfl rfl ?_
                          exact b_eq (by rw [← j6, h10]; rfl)
                        · simp at h10
                          rw [h10, Bool.true_and] at j6
                          exact a_next hT (j + 1) [20, 21, 22, 23] rfl rfl ⟨⟨by show j + 1 ≤ vs.length; omega, j6⟩, by show vs.length - (j + 1) < vs.length - j; omega⟩ ⟨rfl, rfl, rfl, rfl, rfl, rfl, rfl, rfl, by show Value.int .i64 _ = Value.int .i64 _; rw [hw2], trivial⟩ rfl ⟨⟨rfl, rfl, ⟨rfl, rfl, rfl, rfl, rfl, rfl, rfl, trivial⟩⟩, ⟨rfl, rfl, ⟨rfl, rfl, rfl, rfl, rfl, rfl, rfl, trivial⟩⟩, ⟨rfl, rfl, ⟨rfl, rfl, trivial⟩⟩, ⟨rfl, rfl, ⟨rfl, rfl, trivial⟩⟩, trivial⟩
                      · refine a_f hT rfl rfl (decide_eq_false (by show ¬ (j : Int) < (vs.length : Int); omega)) ?_
                        rw [List.drop_eq_nil_of_le hjl] at j3
                        have hv1 : sameVs vs vs' = true := by rw [← j3]; unfold sameVs; rfl
                        exact a_next hT (i + 1) [20, 21] rfl rfl ⟨⟨by show i + 1 ≤ fs.length; omega, by rw [hv1, Bool.true_and]⟩, by show fs.length - (i + 1) < fs.length - i; omega⟩ ⟨rfl, rfl, rfl, by show Value.int .i64 _ = Value.int .i64 _; rw [hw], trivial⟩ rfl ⟨⟨rfl, rfl, ⟨rfl, rfl, rfl, rfl, rfl, rfl, rfl, trivial⟩⟩, ⟨rfl, rfl, ⟨rfl, rfl, rfl, rfl, rfl, rfl, rfl, trivial⟩⟩, trivial⟩
                · refine a_f hT rfl rfl (decide_eq_false (by show ¬ (i : Int) < (fs.length : Int); omega)) ?_
                  refine a_ret hT [] rfl rfl rfl rfl rfl rfl ?_
                  rw [List.drop_eq_nil_of_le hil] at i3
                  exact b_eq (by rw [← i3]; unfold sameFs; rfl)
end Go.Proofs.YtjcolfogmmjaoaaGreatDoor
end

section
set_option linter.unusedVariables false
set_option linter.unusedSimpArgs false
set_option maxRecDepth 100000
set_option maxHeartbeats 1000000
namespace Go.Proofs.YtjcolfogmmjaoaaGreatDoor
open V A
theorem wrap32b (n : Int) : -2147483648 ≤ IntKind.i32.wrap n ∧ IntKind.i32.wrap n < 2147483648 := by
  unfold IntKind.wrap
  simp [IntKind.bits, IntKind.signed]
  split <;> omega
theorem elV : elemOk Tryz.prog 31 1 = true := by kernel_rfl
end Go.Proofs.YtjcolfogmmjaoaaGreatDoor
end

section
set_option linter.unusedVariables false
set_option linter.unusedSimpArgs false
set_option maxRecDepth 100000
set_option maxHeartbeats 1000000
namespace Go.Proofs.YtjcolfogmmjaoaaGreatDoor
open V A
theorem FIndexFunc_spec {l : List FDP} {p : FDP → Bool} {f : FuncId} {cap : List AV} (hl : l.length < 4611686018427387904) (hb : callOk Tryz.prog f = true) (hf : ∀ x ∈ l, FSpec Tryz.prog f (.agg ((eF x).map nd) :: cap) [] fun a cs => a = bA (p x) ∧ cs = []) :
    FSpec Tryz.prog 119 [.d (.sl 5 (l.map eF)), .fn f cap] [] fun a cs => a = .v (kI (idxF p l 0)) 0 ∧ cs = [] := by
  refine a_enter hT [.d (.sl 5 (l.map eF)), .fn f cap] [] Tryz.func119 rfl rfl rfl ⟨rfl, Fit.refl _, trivial⟩ fun c' => ?_
  have hlen : (l.map eF).length = l.length := List.length_map _
  refine a_loop hT [0, 1, 7, 8] (fun i : Nat => [.d (.sl 5 (l.map eF)), .fn f cap, .v (kI l.length) 0, .v (kI i) 0]) (fun _ => []) (fun i => idxF p (l.drop i) i = idxF p l 0 ∧ i ≤ l.length) (fun i => l.length - i) 0 [] rfl rfl ⟨rfl, Nat.zero_le _⟩ ⟨rfl, Fit.refl _, by rw [← hlen]; rfl, rfl, trivial⟩ rfl trivial ?_
  rintro i ⟨i1, i2⟩
  have hw := wN i (by omega)
  rcases Nat.lt_or_ge i l.length with hil | hil
  · have hat : (l.map eF)[(i : Int).toNat]? = some (eF l[i]) := by simp [hil]
    refine a_if hT rfl rfl (fun h1 => ?_) (fun h1 => ?_)
    · have h1 := of_decide_eq_true h1
      refine a_ix hT _ rfl rfl rfl rfl rfl rfl (by first | omega | assumption) (by first | assumption | rfl) ?_
      refine a_callv hT rfl rfl rfl rfl hb (hf l[i] (List.getElem_mem hil)) [] [] rfl rfl ?_
      rintro _ _ ⟨rfl, rfl⟩
      refine a_if hT rfl rfl (fun h => ?_) (fun h => ?_)
      · refine a_ret hT [] rfl rfl rfl rfl rfl rfl ?_
        exact ⟨by rw [← i1, idxF_yes hil (by assumption)]; rfl, rfl⟩
      · exact a_next hT (i + 1) [] rfl rfl ⟨⟨by rw [← i1, idxF_no hil (by assumption)], by omega⟩, by omega⟩ ⟨rfl, Fit.refl _, rfl, by show Value.int .i64 _ = Value.int .i64 _; rw [hw], trivial⟩ rfl trivial
    · have h1 := of_decide_eq_false h1
      (exfalso; first | omega | contradiction)
  · have hnil : l.drop i = [] := List.drop_eq_nil_of_le hil
    refine a_if hT rfl rfl (fun h1 => ?_) (fun h1 => ?_)
    · have h1 := of_decide_eq_true h1
      (exfalso; first | omega | contradiction)
    · have h1 := of_decide_eq_false h1
      refine a_ret hT [] rfl rfl rfl rfl rfl rfl ?_
      exact ⟨by rw [← i1, hnil]; rfl, rfl⟩
def wireK (k : Int) : Int := if k = 7 then 5 else if k = 8 then 1 else if k = 5 ∨ k = 6 ∨ k = 10 then 2 else 0
theorem Wire_spec {k : Int} : FSpec Tryz.prog 121 [.v (kI k) 0] [] fun a cs => a = .v (kI (wireK k)) 0 ∧ cs = [] := by
  refine a_enter hT [.v (kI k) 0] [] Tryz.func121 rfl rfl rfl ⟨rfl, trivial⟩ fun c' => ?_
  refine a_if hT rfl rfl (fun h => ?_) (fun h => ?_)
  · have h := eq_of_beq h
    refine a_ret hT [] rfl rfl rfl rfl rfl rfl ?_
    exact ⟨by simp_all [wireK]; rfl, rfl⟩
  · have h := ne_of_beq_false h
    refine a_if hT rfl rfl (fun h1 => ?_) (fun h1 => ?_)
    · have h1 := eq_of_beq h1
      refine a_ret hT [] rfl rfl rfl rfl rfl rfl ?_
      exact ⟨by simp_all [wireK]; rfl, rfl⟩
    · have h1 := ne_of_beq_false h1
      refine a_if hT rfl rfl (fun h2 => ?_) (fun h2 => ?_)
      · have h2 := eq_of_beq h2
        refine a_if hT rfl rfl (fun h3 => ?_) (fun h3 => ?_)
        · have h3 := eq_of_beq h3
          refine a_ret hT [] rfl rfl rfl rfl rfl rfl ?_
          exact ⟨by simp_all [wireK]; rfl, rfl⟩
        · have h3 := ne_of_beq_false h3
          (exfalso; first | omega | contradiction)
      · have h2 := ne_of_beq_false h2
        refine a_if hT rfl rfl (fun h3 => ?_) (fun h3 => ?_)
        · have h3 := eq_of_beq h3
          refine a_if hT rfl rfl (fun h4 => ?_) (fun h4 => ?_)
          · have h4 := eq_of_beq h4
            refine a_ret hT [] rfl rfl rfl rfl rfl rfl ?_
            exact ⟨by simp_all [wireK]; rfl, rfl⟩
          · have h4 := ne_of_beq_false h4
            (exfalso; first | omega | contradiction)
        · have h3 := ne_of_beq_false h3
          refine a_if hT rfl rfl (fun h4 => ?_) (fun h4 => ?_)
          · have h4 := eq_of_beq h4
            refine a_ret hT [] rfl rfl rfl rfl rfl rfl ?_
            exact ⟨by simp_all [wireK]; rfl, rfl⟩
          · have h4 := ne_of_beq_false h4
            refine a_ret hT [] rfl rfl rfl rfl rfl rfl ?_
            exact ⟨by simp_all [wireK]; rfl, rfl⟩
def packedK (k : Int) : Bool := decide (wireK k ≠ 2)
theorem Packed_spec {k : Int} : FSpec Tryz.prog 89 [.v (kI k) 0] [] fun a cs => a = bA (packedK k) ∧ cs = [] := by
  have hW := Wire_spec (k := k)
  refine a_enter hT [.v (kI k) 0] [] Tryz.func89 rfl rfl rfl ⟨rfl, trivial⟩ fun c' => ?_
  refine a_call hT rfl rfl rfl (by kernel_rfl) hW [] [] rfl rfl ?_
  rintro _ _ ⟨rfl, rfl⟩
  refine a_ret hT [] rfl rfl rfl rfl rfl rfl ?_
  exact b_eq (by simp [packedK, bne, BEq.beq])
theorem Known1_spec {f : FDP} {num : Int} : FSpec Tryz.prog 120 [.agg ((eF f).map nd), .d (.p [.v (kI num)])] [] fun a cs => a = bA (decide (f.num = num)) ∧ cs = [] := by
  refine a_enter hT [.agg ((eF f).map nd), .d (.p [.v (kI num)])] [] Tryz.func120 rfl rfl rfl ⟨Fit.refl _, Fit.refl _, trivial⟩ fun c' => ?_
  refine a_box hT 20 rfl rfl rfl rfl fun g => ?_
  refine a_ret hT [] rfl rfl rfl rfl rfl rfl ?_
  exact b_eq (by simp [BEq.beq])
theorem idxF_at {α : Type} {p : α → Bool} : ∀ {l : List α} {i : Nat}, 0 ≤ idxF p l i → ∃ j x, idxF p l i = ((i + j : Nat) : Int) ∧ l[j]? = some x ∧ p x = true ∧ l.find? p = some x
  | [], i, h => by simp [idxF] at h
  | x :: l, i, h => by
    unfold idxF at h ⊢
    cases hp : p x with
    | true => exact ⟨0, x, by simp [hp], rfl, hp, by simp [hp]⟩
    | false =>
      rw [hp] at h
      simp only [Bool.false_eq_true, if_false] at h ⊢
      obtain ⟨j, y, h1, h2, h3, h4⟩ := idxF_at h
      exact ⟨j + 1, y, by rw [h1]; omega, by simpa using h2, h3, by simp [hp, h4]⟩
theorem idxF_none {α : Type} {p : α → Bool} : ∀ {l : List α} {i : Nat}, ¬ 0 ≤ idxF p l i → l.find? p = none ∧ idxF p l i = -1
  | [], i, h => by simp [idxF]
  | x :: l, i, h => by
    unfold idxF at h ⊢
    cases hp : p x with
    | true => rw [hp] at h; simp at h
    | false =>
      rw [hp] at h
      simp only [Bool.false_eq_true, if_false] at h ⊢
      have := idxF_none h
      simp [hp, this]
def knownP (d : MDP) (num typ : Int) : Bool := match d.fs.find? (fun f => decide (f.num = num)) with
  | none => false
  | some f => decide (typ = wireK f.kind) || (f.rep && (packedK f.kind && decide (typ = 2)))
theorem Known_spec {d : MDP} {num typ : Int} (hl : d.fs.length ≤ 1000) : FSpec Tryz.prog 75 [.agg ((eM d).map nd), .v (kI num) 0, .v (kI typ) 0] [] fun a cs => a = bA (knownP d num typ) ∧ cs = [] := by
  have hI := FIndexFunc_spec (l := d.fs) (p := fun f => decide (f.num = num)) (f := 120) (cap := [.d (.p [.v (kI num)])]) (by omega) (by kernel_rfl) (fun f _ => Known1_spec)
  have hk : knownP d num typ = knownP d num typ := rfl
  conv at hk => rhs; unfold knownP
  generalize knownP d num typ = K at hk ⊢
  have hlen : (d.fs.map eF).length = d.fs.length := List.length_map _
  refine a_enter hT [.agg ((eM d).map nd), .v (kI num) 0, .v (kI typ) 0] [] Tryz.func75 rfl rfl rfl ⟨Fit.refl _, rfl, rfl, trivial⟩ fun c' => ?_
  refine a_box hT 20 rfl rfl rfl rfl fun g1 => ?_
  refine a_box hT 21 rfl rfl rfl rfl fun g2 => ?_
  refine a_freezeK 4 21 rfl rfl rfl rfl rfl ?_
  by_cases h0 : 0 ≤ idxF (fun f : FDP => decide (f.num = num)) d.fs 0
  · obtain ⟨j, f, h1, h2, h3, h4⟩ := idxF_at h0
    rw [h1] at hI
    rw [Nat.zero_add] at hI
    rw [h4] at hk
    have hj := (List.getElem?_eq_some_iff.1 h2).1
    have hat : (d.fs.map eF)[((j : Nat) : Int).toNat]? = some (eF f) := by simp [h2]
    have hW := Wire_spec (k := f.kind)
    have hP := Packed_spec (k := f.kind)
    dsimp only at hk
    generalize packedK f.kind = pk at hP hk
    generalize wireK f.kind = wk at hW hk
    refine a_call hT rfl rfl rfl (by kernel_rfl) hI [] [] rfl rfl ?_
    rintro _ _ ⟨rfl, rfl⟩
    refine a_f hT rfl rfl (decide_eq_false (by show ¬ ((j : Int) < 0); omega)) ?_
    refine a_ix hT _ rfl rfl rfl rfl rfl rfl (by first | omega | assumption) (by first | assumption | rfl) ?_
    refine a_new hT hZ 21 rfl rfl rfl rfl fun g => ?_
    refine a_call hT rfl rfl rfl (by kernel_rfl) hW [] [] rfl rfl ?_
    rintro _ _ ⟨rfl, rfl⟩
    refine a_g hT rfl rfl rfl (fun h => ?_) (fun h => ?_)
    · have h := eq_of_beq h
      refine a_ret hT [] rfl rfl rfl rfl rfl rfl ?_
      exact b_eq (by simp_all)
    · have h := ne_of_beq_false h
      refine a_g hT rfl rfl rfl (fun h5 => ?_) (fun h5 => ?_)
      · refine a_call hT rfl rfl rfl (by kernel_rfl) hP [] [] rfl rfl ?_
        rintro _ _ ⟨rfl, rfl⟩
        refine a_g hT rfl rfl rfl (fun h6 => ?_) (fun h6 => ?_)
        · refine a_ret hT [] rfl rfl rfl rfl rfl rfl ?_
          exact b_eq (by simp_all)
        · refine a_ret hT [] rfl rfl rfl rfl rfl rfl ?_
          exact b_eq (by simp_all)
      · refine a_gf hT rfl rfl rfl rfl ?_
        refine a_ret hT [] rfl rfl rfl rfl rfl rfl ?_
        exact b_eq (by simp_all)
  · have h1 := idxF_none h0
    rw [h1.2] at hI
    rw [h1.1] at hk
    subst hk
    refine a_call hT rfl rfl rfl (by kernel_rfl) hI [] [] rfl rfl ?_
    rintro _ _ ⟨rfl, rfl⟩
    refine a_t hT rfl rfl rfl ?_
    refine a_ret hT [] rfl rfl rfl rfl rfl rfl ?_
    first | exact ⟨rfl, rfl⟩ | rfl
end Go.Proofs.YtjcolfogmmjaoaaGreatDoor
end

section
set_option linter.unusedVariables false
set_option linter.unusedSimpArgs false
set_option maxRecDepth 100000
set_option maxHeartbeats 1000000
namespace Go.Proofs.YtjcolfogmmjaoaaGreatDoor
open V A
def zagP (n : Nat) : Int := IntKind.wrap IntKind.i64 ↑(BitVec.toNat (BitVec.ofInt (IntKind.bits IntKind.i64) (IntKind.wrap IntKind.i64 (Int.fdiv (n : Int) (2 ^ min (Int.toNat 1) (IntKind.bits IntKind.u64)))) ^^^ BitVec.ofInt (IntKind.bits IntKind.i64) (IntKind.wrap IntKind.i64 (0 - IntKind.wrap IntKind.i64 (IntKind.wrap IntKind.u64 ↑(BitVec.toNat (BitVec.ofInt (IntKind.bits IntKind.u64) (n : Int) &&& BitVec.ofInt (IntKind.bits IntKind.u64) 1)))))))
theorem natbne (n : Nat) : (((n : Nat) : Int) != 0) = (n != 0) := by rw [Bool.eq_iff_iff]; simp
theorem Zag_spec {n : Nat} : FSpec Tryz.prog 150 [.v (kU n) 0] [] fun a cs => a = .v (.int .i64 (zagP n)) 0 ∧ cs = [] := by
  refine a_enter hT [.v (kU n) 0] [] Tryz.func150 rfl rfl rfl ⟨rfl, trivial⟩ fun c' => ?_
  refine a_bin hT _ rfl rfl rfl (by decide) rfl rfl (fun w => (bin_shr (by omega) w)) ?_
  refine a_bin hT _ rfl rfl rfl (by decide) rfl rfl (fun w => (bin_and w)) ?_
  refine a_bin hT _ rfl rfl rfl (by decide) rfl rfl (fun w => (bin_xor w)) ?_
  refine a_ret hT [] rfl rfl rfl rfl rfl rfl ?_
  exact ⟨rfl, rfl⟩
def numP (kind : Int) (n : Nat) : VL := if kind = 1 then .int (IntKind.i64.wrap n) else if kind = 3 then .int (zagP n) else if kind = 4 then .bool (n != 0) else if kind = 9 then .enum (IntKind.i32.wrap (IntKind.u32.wrap n)) else .uint n
theorem number_spec {kind : Int} {n : Nat} : FSpec Tryz.prog 124 [.v (kI kind) 0, .v (kU n) 0] [] fun a cs => a = .d (vlD (numP kind n)) ∧ cs = [] := by
  refine FSpec.le ?_
  have hZ1 := Zag_spec (n := n)
  refine a_enter hT [.v (kI kind) 0, .v (kU n) 0] [] Tryz.func124 rfl rfl rfl ⟨rfl, rfl, trivial⟩ fun c' => ?_
  refine a_if hT rfl rfl (fun h => ?_) (fun h => ?_)
  · have h := eq_of_beq h
    refine a_ret hT [] rfl rfl rfl rfl rfl rfl ?_
    exact ⟨_, le_ifcV rfl, by unfold numP; simp_all [vlD, kI, natbne], rfl⟩
  · have h := ne_of_beq_false h
    refine a_if hT rfl rfl (fun h1 => ?_) (fun h1 => ?_)
    · have h1 := eq_of_beq h1
      refine a_call hT rfl rfl rfl (by kernel_rfl) hZ1 [] [] rfl rfl ?_
      rintro _ _ ⟨rfl, rfl⟩
      refine a_ret hT [] rfl rfl rfl rfl rfl rfl ?_
      exact ⟨_, le_ifcV rfl, by unfold numP; simp_all [vlD, kI, natbne], rfl⟩
    · have h1 := ne_of_beq_false h1
      refine a_if hT rfl rfl (fun h2 => ?_) (fun h2 => ?_)
      · have h2 := eq_of_beq h2
        refine a_ret hT [] rfl rfl rfl rfl rfl rfl ?_
        exact ⟨_, le_ifcV rfl, by unfold numP; simp_all [vlD, kI, natbne], rfl⟩
      · have h2 := ne_of_beq_false h2
        refine a_if hT rfl rfl (fun h3 => ?_) (fun h3 => ?_)
        · have h3 := eq_of_beq h3
          refine a_ret hT [] rfl rfl rfl rfl rfl rfl ?_
          exact ⟨_, le_ifcV rfl, by unfold numP; simp_all [vlD, kI, natbne], rfl⟩
        · have h3 := ne_of_beq_false h3
          refine a_ret hT [] rfl rfl rfl rfl rfl rfl ?_
          exact ⟨_, le_ifcV rfl, by unfold numP; simp_all [vlD, kI, natbne], rfl⟩
def zeroV : VL → Bool
  | .int n => n == 0
  | .uint n => n == 0
  | .bool b => b == false
  | .text s => s == .empty
  | .bytes s => s == .empty
  | .enum n => n == 0
  | _ => false
theorem Zero_spec {v : VL} : FSpec Tryz.prog 78 [nd (vlD v)] [] fun a cs => a = bA (zeroV v) ∧ cs = [] := by
  cases v with
  | none =>
    refine a_enter hT [nd (vlD .none)] [] Tryz.func78 rfl rfl rfl ⟨Fit.refl _, trivial⟩ fun c' => ?_
    refine a_ieqN hT rfl rfl rfl rfl rfl (by kernel_rfl) rfl ?_
    refine a_gf hT rfl rfl rfl rfl ?_
    refine a_ieqN hT rfl rfl rfl rfl rfl (by kernel_rfl) rfl ?_
    refine a_gf hT rfl rfl rfl rfl ?_
    refine a_ieqN hT rfl rfl rfl rfl rfl (by kernel_rfl) rfl ?_
    refine a_gf hT rfl rfl rfl rfl ?_
    refine a_ieqN hT rfl rfl rfl rfl rfl (by kernel_rfl) rfl ?_
    refine a_gf hT rfl rfl rfl rfl ?_
    refine a_ieqN hT rfl rfl rfl rfl rfl (by kernel_rfl) rfl ?_
    refine a_gf hT rfl rfl rfl rfl ?_
    refine a_ieqN hT rfl rfl rfl rfl rfl (by kernel_rfl) rfl ?_
    refine a_ret hT [] rfl rfl rfl rfl rfl rfl ?_
    first | exact ⟨rfl, rfl⟩ | rfl
  | msg t fs s =>
    refine a_enter hT [nd (vlD (.msg t fs s))] [] Tryz.func78 rfl rfl rfl ⟨Fit.refl _, trivial⟩ fun c' => ?_
    refine a_ieqN hT rfl rfl rfl rfl rfl (by kernel_rfl) rfl ?_
    refine a_gf hT rfl rfl rfl rfl ?_
    refine a_ieqN hT rfl rfl rfl rfl rfl (by kernel_rfl) rfl ?_
    refine a_gf hT rfl rfl rfl rfl ?_
    refine a_ieqN hT rfl rfl rfl rfl rfl (by kernel_rfl) rfl ?_
    refine a_gf hT rfl rfl rfl rfl ?_
    refine a_ieqN hT rfl rfl rfl rfl rfl (by kernel_rfl) rfl ?_
    refine a_gf hT rfl rfl rfl rfl ?_
    refine a_ieqN hT rfl rfl rfl rfl rfl (by kernel_rfl) rfl ?_
    refine a_gf hT rfl rfl rfl rfl ?_
    refine a_ieqN hT rfl rfl rfl rfl rfl (by kernel_rfl) rfl ?_
    refine a_ret hT [] rfl rfl rfl rfl rfl rfl ?_
    first | exact ⟨rfl, rfl⟩ | rfl
  | int n =>
    refine a_enter hT [nd (vlD (.int n))] [] Tryz.func78 rfl rfl rfl ⟨Fit.refl _, trivial⟩ fun c' => ?_
    refine a_ieq hT (n == 0) rfl rfl rfl rfl rfl (by kernel_rfl) (by kernel_rfl) rfl ?_
    cases hz : (n == 0)
    · refine a_gf hT rfl rfl rfl rfl ?_
      refine a_ieqN hT rfl rfl rfl rfl rfl (by kernel_rfl) rfl ?_
      refine a_gf hT rfl rfl rfl rfl ?_
      refine a_ieqN hT rfl rfl rfl rfl rfl (by kernel_rfl) rfl ?_
      refine a_gf hT rfl rfl rfl rfl ?_
      refine a_ieqN hT rfl rfl rfl rfl rfl (by kernel_rfl) rfl ?_
      refine a_gf hT rfl rfl rfl rfl ?_
      refine a_ieqN hT rfl rfl rfl rfl rfl (by kernel_rfl) rfl ?_
      refine a_gf hT rfl rfl rfl rfl ?_
      refine a_ieqN hT rfl rfl rfl rfl rfl (by kernel_rfl) rfl ?_
      refine a_ret hT [] rfl rfl rfl rfl rfl rfl ?_
      exact ⟨congrArg (fun q => AV.v (.bool q) 0) hz.symm, rfl⟩
    · refine a_gt hT rfl rfl rfl rfl ?_
      refine a_gt hT rfl rfl rfl rfl ?_
      refine a_gt hT rfl rfl rfl rfl ?_
      refine a_gt hT rfl rfl rfl rfl ?_
      refine a_gt hT rfl rfl rfl rfl ?_
      refine a_ret hT [] rfl rfl rfl rfl rfl rfl ?_
      exact ⟨congrArg (fun q => AV.v (.bool q) 0) hz.symm, rfl⟩
  | uint u =>
    refine a_enter hT [nd (vlD (.uint u))] [] Tryz.func78 rfl rfl rfl ⟨Fit.refl _, trivial⟩ fun c' => ?_
    refine a_ieqN hT rfl rfl rfl rfl rfl (by kernel_rfl) rfl ?_
    refine a_gf hT rfl rfl rfl rfl ?_
    refine a_ieq hT (u == 0) rfl rfl rfl rfl rfl (by kernel_rfl) (by kernel_rfl) rfl ?_
    cases hz : (u == 0)
    · refine a_gf hT rfl rfl rfl rfl ?_
      refine a_ieqN hT rfl rfl rfl rfl rfl (by kernel_rfl) rfl ?_
      refine a_gf hT rfl rfl rfl rfl ?_
      refine a_ieqN hT rfl rfl rfl rfl rfl (by kernel_rfl) rfl ?_
      refine a_gf hT rfl rfl rfl rfl ?_
      refine a_ieqN hT rfl rfl rfl rfl rfl (by kernel_rfl) rfl ?_
      refine a_gf hT rfl rfl rfl rfl ?_
      refine a_ieqN hT rfl rfl rfl rfl rfl (by kernel_rfl) rfl ?_
      refine a_ret hT [] rfl rfl rfl rfl rfl rfl ?_
      exact ⟨congrArg (fun q => AV.v (.bool q) 0) hz.symm, rfl⟩
    · refine a_gt hT rfl rfl rfl rfl ?_
      refine a_gt hT rfl rfl rfl rfl ?_
      refine a_gt hT rfl rfl rfl rfl ?_
      refine a_gt hT rfl rfl rfl rfl ?_
      refine a_ret hT [] rfl rfl rfl rfl rfl rfl ?_
      exact ⟨congrArg (fun q => AV.v (.bool q) 0) hz.symm, rfl⟩
  | bool b =>
    refine a_enter hT [nd (vlD (.bool b))] [] Tryz.func78 rfl rfl rfl ⟨Fit.refl _, trivial⟩ fun c' => ?_
    refine a_ieqN hT rfl rfl rfl rfl rfl (by kernel_rfl) rfl ?_
    refine a_gf hT rfl rfl rfl rfl ?_
    refine a_ieqN hT rfl rfl rfl rfl rfl (by kernel_rfl) rfl ?_
    refine a_gf hT rfl rfl rfl rfl ?_
    refine a_ieq hT (b == false) rfl rfl rfl rfl rfl (by kernel_rfl) (by kernel_rfl) rfl ?_
    cases hz : (b == false)
    · refine a_gf hT rfl rfl rfl rfl ?_
      refine a_ieqN hT rfl rfl rfl rfl rfl (by kernel_rfl) rfl ?_
      refine a_gf hT rfl rfl rfl rfl ?_
      refine a_ieqN hT rfl rfl rfl rfl rfl (by kernel_rfl) rfl ?_
      refine a_gf hT rfl rfl rfl rfl ?_
      refine a_ieqN hT rfl rfl rfl rfl rfl (by kernel_rfl) rfl ?_
      refine a_ret hT [] rfl rfl rfl rfl rfl rfl ?_
      exact ⟨congrArg (fun q => AV.v (.bool q) 0) hz.symm, rfl⟩
    · refine a_gt hT rfl rfl rfl rfl ?_
      refine a_gt hT rfl rfl rfl rfl ?_
      refine a_gt hT rfl rfl rfl rfl ?_
      refine a_ret hT [] rfl rfl rfl rfl rfl rfl ?_
      exact ⟨congrArg (fun q => AV.v (.bool q) 0) hz.symm, rfl⟩
  | text s =>
    refine a_enter hT [nd (vlD (.text s))] [] Tryz.func78 rfl rfl rfl ⟨Fit.refl _, trivial⟩ fun c' => ?_
    refine a_ieqN hT rfl rfl rfl rfl rfl (by kernel_rfl) rfl ?_
    refine a_gf hT rfl rfl rfl rfl ?_
    refine a_ieqN hT rfl rfl rfl rfl rfl (by kernel_rfl) rfl ?_
    refine a_gf hT rfl rfl rfl rfl ?_
    refine a_ieqN hT rfl rfl rfl rfl rfl (by kernel_rfl) rfl ?_
    refine a_gf hT rfl rfl rfl rfl ?_
    refine a_ieq hT (s == .empty) rfl rfl rfl rfl rfl (by kernel_rfl) (by kernel_rfl) rfl ?_
    cases hz : (s == .empty)
    · refine a_gf hT rfl rfl rfl rfl ?_
      refine a_ieqN hT rfl rfl rfl rfl rfl (by kernel_rfl) rfl ?_
      refine a_gf hT rfl rfl rfl rfl ?_
      refine a_ieqN hT rfl rfl rfl rfl rfl (by kernel_rfl) rfl ?_
      refine a_ret hT [] rfl rfl rfl rfl rfl rfl ?_
      exact ⟨congrArg (fun q => AV.v (.bool q) 0) hz.symm, rfl⟩
    · refine a_gt hT rfl rfl rfl rfl ?_
      refine a_gt hT rfl rfl rfl rfl ?_
      refine a_ret hT [] rfl rfl rfl rfl rfl rfl ?_
      exact ⟨congrArg (fun q => AV.v (.bool q) 0) hz.symm, rfl⟩
  | bytes s =>
    refine a_enter hT [nd (vlD (.bytes s))] [] Tryz.func78 rfl rfl rfl ⟨Fit.refl _, trivial⟩ fun c' => ?_
    refine a_ieqN hT rfl rfl rfl rfl rfl (by kernel_rfl) rfl ?_
    refine a_gf hT rfl rfl rfl rfl ?_
    refine a_ieqN hT rfl rfl rfl rfl rfl (by kernel_rfl) rfl ?_
    refine a_gf hT rfl rfl rfl rfl ?_
    refine a_ieqN hT rfl rfl rfl rfl rfl (by kernel_rfl) rfl ?_
    refine a_gf hT rfl rfl rfl rfl ?_
    refine a_ieqN hT rfl rfl rfl rfl rfl (by kernel_rfl) rfl ?_
    refine a_gf hT rfl rfl rfl rfl ?_
    refine a_ieq hT (s == .empty) rfl rfl rfl rfl rfl (by kernel_rfl) (by kernel_rfl) rfl ?_
    cases hz : (s == .empty)
    · refine a_gf hT rfl rfl rfl rfl ?_
      refine a_ieqN hT rfl rfl rfl rfl rfl (by kernel_rfl) rfl ?_
      refine a_ret hT [] rfl rfl rfl rfl rfl rfl ?_
      exact ⟨congrArg (fun q => AV.v (.bool q) 0) hz.symm, rfl⟩
    · refine a_gt hT rfl rfl rfl rfl ?_
      refine a_ret hT [] rfl rfl rfl rfl rfl rfl ?_
      exact ⟨congrArg (fun q => AV.v (.bool q) 0) hz.symm, rfl⟩
  | enum n =>
    refine a_enter hT [nd (vlD (.enum n))] [] Tryz.func78 rfl rfl rfl ⟨Fit.refl _, trivial⟩ fun c' => ?_
    refine a_ieqN hT rfl rfl rfl rfl rfl (by kernel_rfl) rfl ?_
    refine a_gf hT rfl rfl rfl rfl ?_
    refine a_ieqN hT rfl rfl rfl rfl rfl (by kernel_rfl) rfl ?_
    refine a_gf hT rfl rfl rfl rfl ?_
    refine a_ieqN hT rfl rfl rfl rfl rfl (by kernel_rfl) rfl ?_
    refine a_gf hT rfl rfl rfl rfl ?_
    refine a_ieqN hT rfl rfl rfl rfl rfl (by kernel_rfl) rfl ?_
    refine a_gf hT rfl rfl rfl rfl ?_
    refine a_ieqN hT rfl rfl rfl rfl rfl (by kernel_rfl) rfl ?_
    refine a_gf hT rfl rfl rfl rfl ?_
    refine a_ieq hT (n == 0) rfl rfl rfl rfl rfl (by kernel_rfl) (by kernel_rfl) rfl ?_
    refine a_ret hT [] rfl rfl rfl rfl rfl rfl ?_
    first | exact ⟨rfl, rfl⟩ | rfl
end Go.Proofs.YtjcolfogmmjaoaaGreatDoor
end

section
set_option linter.unusedVariables false
set_option linter.unusedSimpArgs false
set_option maxRecDepth 100000
set_option maxHeartbeats 1000000
namespace Go.Proofs.YtjcolfogmmjaoaaGreatDoor
open V A
def takeK (wk : Int) (bs : List UInt8) : Nat × Nat × Nat := if wk = 0 then takeP bs 0 0 else if wk = 5 then ((take32P bs).1, 4, (take32P bs).2) else ((take64P bs).1, 8, (take64P bs).2)
theorem takeK_ok (wk : Int) (bs : List UInt8) : ((takeK wk bs).2.2 = 0 → 1 ≤ (takeK wk bs).2.1 ∧ (takeK wk bs).2.1 ≤ bs.length) ∧ (takeK wk bs).1 < 18446744073709551616 := by
  have h1 := takeP_ok bs 0 0 (by decide) (by decide)
  have h2 := take32_ok bs
  have h3 := take64_ok bs
  unfold takeK
  split
  · exact ⟨fun h => by have := h1.1 h; omega, h1.2.1⟩
  split
  · exact ⟨fun h => ⟨by dsimp only; omega, h2.2.1 h⟩, by dsimp only; omega⟩
  · exact ⟨fun h => ⟨by dsimp only; omega, h3.2.1 h⟩, h3.1⟩
def upP (kind : Int) : Nat → List UInt8 → Option (List VL)
  | _, [] => some []
  | 0, _ :: _ => none
  | k + 1, b :: bs => if (takeK (wireK kind) (b :: bs)).2.2 ≠ 0 then none else (upP kind k ((b :: bs).drop (takeK (wireK kind) (b :: bs)).2.1)).map (numP kind (takeK (wireK kind) (b :: bs)).1 :: ·)
theorem upP_fuel {kind : Int} : ∀ (k : Nat) (bs : List UInt8), bs.length ≤ k → upP kind k bs = upP kind bs.length bs := by
  intro k
  induction k using Nat.strongRecOn with
  | _ k ih =>
  intro bs h
  cases bs with
  | nil => cases k <;> rfl
  | cons b bs =>
    cases k with
    | zero => simp at h
    | succ k =>
      simp only [List.length_cons]
      unfold upP
      split
      · rfl
      · rename_i he
        have he := (takeK_ok (wireK kind) (b :: bs)).1 (by simpa using he)
        generalize (takeK (wireK kind) (b :: bs)).2.1 = p at he ⊢
        generalize (takeK (wireK kind) (b :: bs)).1 = f
        have hl : ((b :: bs).drop p).length ≤ bs.length := by rw [List.length_drop]; simp only [List.length_cons]; omega
        simp only [List.length_cons] at h
        rw [ih k (by omega) _ (by omega), ih bs.length (by omega) _ hl]
def upW (kind : Int) (bs : List UInt8) : Option (List VL) := upP kind bs.length bs
theorem upW_nil (kind : Int) : upW kind [] = some [] := rfl
theorem upW_cons {kind : Int} {bs : List UInt8} (h : bs ≠ []) : upW kind bs = if (takeK (wireK kind) bs).2.2 ≠ 0 then none else (upW kind (bs.drop (takeK (wireK kind) bs).2.1)).map (numP kind (takeK (wireK kind) bs).1 :: ·) := by
  cases bs with
  | nil => exact absurd rfl h
  | cons b bs =>
    show upP kind (bs.length + 1) (b :: bs) = _
    conv => lhs; unfold upP
    split
    · rfl
    · rename_i he
      have he := (takeK_ok (wireK kind) (b :: bs)).1 (by simpa using he)
      unfold upW
      rw [upP_fuel bs.length _ (by rw [List.length_drop]; simp only [List.length_cons]; omega)]
def upA : Option (List VL) → AV
  | none => .tup [.d (.sl 1 []), .v (kI 2) 0]
  | some l => .tup [.d (.sl 1 (vlsD l)), .v (kI 0) 0]
theorem vlsD_app (l l' : List VL) : vlsD (l ++ l') = vlsD l ++ vlsD l' := by rw [vlsD_map, vlsD_map, vlsD_map, List.map_append]
theorem vlsD_len (l : List VL) : (vlsD l).length = l.length := by rw [vlsD_map, List.length_map]
theorem unpack_spec {kind : Int} {bs : List UInt8} (hl : bs.length ≤ 1000000000) : FSpec Tryz.prog 123 [.v (kI kind) 0, .d (A.bytesD bs)] [] fun a cs => a = upA (upW kind bs) ∧ cs = [] := by
  refine FSpec.le ?_
  have hlim : lim = 4294967296 := rfl
  have hW := Wire_spec (k := kind)
  refine a_enter hT [.v (kI kind) 0, .d (A.bytesD bs)] [] Tryz.func123 rfl rfl rfl ⟨rfl, Fit.refl _, trivial⟩ fun c' => ?_
  refine a_run hT 3 rfl rfl ?_
  refine a_nilrow 4 12 31 1 rfl rfl ?_
  refine a_loop hT [0, 1, 4] (fun x : List VL × List UInt8 × Value => [.v (kI kind) 0, .d (A.bytesD x.2.1), .row x.2.2 12]) (fun x => [(12, .row x.2.2 31 1 (vlsD x.1))]) (fun x => (upW kind x.2.1).map (x.1 ++ ·) = upW kind bs ∧ x.1.length + x.2.1.length ≤ bs.length) (fun x => x.2.1.length) ([], bs, .slice none 0 0) [12] rfl rfl ⟨by show (upW kind bs).map ([] ++ ·) = _; simp, by simp⟩ ⟨rfl, rfl, rfl, trivial⟩ rfl ⟨⟨rfl, rfl, rfl, rfl⟩, trivial⟩ ?_
  rintro ⟨acc, rest, v4⟩ ⟨i1, i2⟩
  dsimp only at i1 i2
  have hrl := bytesD_len rest
  rcases Nat.eq_zero_or_pos rest.length with h0 | h0
  · have : rest = [] := List.eq_nil_of_length_eq_zero h0
    subst this
    refine a_f hT rfl rfl rfl ?_
    refine a_freeze 4 12 rfl rfl rfl rfl ?_
    refine a_ret hT [] rfl rfl rfl rfl rfl rfl ?_
    exact ⟨_, Le.refl _, by rw [← i1, upW_nil]; show _ = upA (some (acc ++ [])); rw [List.append_nil]; rfl, rfl⟩
  · have hne : rest ≠ [] := fun e => by rw [e] at h0; simp at h0
    have hw := upW_cons (kind := kind) hne
    have ho := takeK_ok (wireK kind) rest
    have t1 := Take_spec (bs := rest) (by omega)
    have t2 := Take32_spec (bs := rest) (by omega)
    have t3 := Take64_spec (bs := rest) (by omega)
    refine a_t hT rfl rfl (decide_eq_true (by show ((rest.map eB).length : Int) > 0; rw [hrl]; omega)) ?_
    have hlv := vlsD_len acc
    generalize wireK kind = wk at hW hw ho
    have hu : takeK wk rest = takeK wk rest := rfl
    conv at hu => rhs; unfold takeK
    have hq : takeP rest 0 0 = takeP rest 0 0 := rfl
    generalize takeP rest 0 0 = q1 at t1 hu
    have o2 := take32_ok rest
    generalize take32P rest = q2 at t2 hu o2
    generalize take64P rest = q3 at t3 hu
    generalize takeK wk rest = r at hu hw ho
    obtain ⟨n, p, e⟩ := r
    obtain ⟨n1, p1, e1⟩ := q1
    obtain ⟨n2, e2⟩ := q2
    obtain ⟨n3, e3⟩ := q3
    dsimp only at hw ho hu o2
    have hN := number_spec (kind := kind) (n := n)
    generalize numP kind n = nv at hN hw
    by_cases k0 : wk = 0
    · rw [if_pos k0] at hu
      obtain ⟨rfl, rfl, rfl⟩ : n1 = n ∧ p1 = p ∧ e1 = e := by simpa using hu.symm
      subst k0
      refine a_call hT rfl rfl rfl (by kernel_rfl) hW [] [] rfl rfl ?_
      rintro _ _ ⟨rfl, rfl⟩
      refine a_t hT rfl rfl rfl ?_
      refine a_call hT rfl rfl rfl (by kernel_rfl) t1 [] [] rfl rfl ?_
      rintro _ _ ⟨rfl, rfl⟩
      refine a_if hT rfl rfl (fun h => ?_) (fun h => ?_)
      · have h := bne_iff_ne.1 h
        refine a_ret hT [] rfl rfl rfl rfl rfl rfl ?_
        have he : e1 ≠ 0 := fun q => h (by show (e1 : Int) = 0; omega)
        exact ⟨_, Le.tup (.cons (le_nil (k := 1)) (.cons (Le.refl _) .nil)), by rw [← i1, hw, if_pos he]; rfl, rfl⟩
      · simp at h
        refine a_draw hT [12] false [(0, false), (1, false), (2, false), (6, false), (7, false), (8, false), (3, true), (4, true), (5, true), (9, true), (10, true)] rfl rfl (by kernel_rfl) (by kernel_rfl) rfl ?_
        have he : e1 = 0 := by omega
        subst he
        have ho1 := ho.1 rfl
        rw [if_neg (show ¬ (0 : Nat) ≠ 0 by simp)] at hw
        refine a_sl hT p1 (rest.map eB).length ((rest.drop p1).map eB) rfl rfl rfl rfl rfl ⟨.i64, 0, rfl⟩ rfl (by rw [hrl]; omega) (Nat.le_refl _) (slD rest p1) ?_
        refine a_call hT rfl rfl rfl (by kernel_rfl) hN [] [] rfl rfl ?_
        rintro _ _ ⟨rfl, rfl⟩
        refine a_lit hT 20 rfl rfl rfl rfl (by kernel_rfl) rfl rfl rfl rfl fun x20 => ?_
        refine a_app hT 12 _ rfl rfl rfl rfl (by kernel_rfl) rfl rfl rfl rfl rfl rfl (by first | (simp; done) | (simp; omega) | (simp; unfold lim; omega) | (simp; assumption)) fun v => ?_
        exact a_next hT (acc ++ [nv], rest.drop p1, v) [12] rfl rfl ⟨⟨by rw [← i1, hw]; show (upW kind (rest.drop p1)).map _ = _; rw [Option.map_map]; congr 1; funext L; simp, by show (acc ++ [_]).length + (rest.drop p1).length ≤ bs.length; rw [List.length_append, List.length_drop]; simp only [List.length_cons, List.length_nil]; omega⟩, by show (rest.drop p1).length < rest.length; rw [List.length_drop]; omega⟩ ⟨rfl, rfl, rfl, trivial⟩ rfl ⟨⟨rfl, rfl, rfl, (vlsD_app acc [nv]).symm⟩, trivial⟩
    · rw [if_neg k0] at hu
      by_cases k5 : wk = 5
      · rw [if_pos k5] at hu
        obtain ⟨rfl, rfl, rfl⟩ : n2 = n ∧ 4 = p ∧ e2 = e := by simpa using hu.symm
        subst k5
        refine a_call hT rfl rfl rfl (by kernel_rfl) hW [] [] rfl rfl ?_
        rintro _ _ ⟨rfl, rfl⟩
        refine a_f hT rfl rfl rfl ?_
        refine a_t hT rfl rfl rfl ?_
        refine a_call hT rfl rfl rfl (by kernel_rfl) t2 [] [] rfl rfl ?_
        rintro _ _ ⟨rfl, rfl⟩
        refine a_if hT rfl rfl (fun h => ?_) (fun h => ?_)
        · have h := bne_iff_ne.1 h
          refine a_ret hT [] rfl rfl rfl rfl rfl rfl ?_
          have he : e2 ≠ 0 := fun q => h (by show (e2 : Int) = 0; omega)
          exact ⟨_, Le.tup (.cons (le_nil (k := 1)) (.cons (Le.refl _) .nil)), by rw [← i1, hw, if_pos he]; rfl, rfl⟩
        · simp at h
          refine a_draw hT [12] false [(0, false), (1, false), (2, false), (6, false), (7, false), (8, false), (3, true), (4, true), (5, true), (9, true), (10, true)] rfl rfl (by kernel_rfl) (by kernel_rfl) rfl ?_
          have he : e2 = 0 := by omega
          subst he
          have ho1 := ho.1 rfl
          rw [if_neg (show ¬ (0 : Nat) ≠ 0 by simp)] at hw
          have hN : FSpec Tryz.prog 124 [.v (kI kind) 0, .v (.int .u64 (IntKind.u64.wrap n2)) 0] [] fun a cs => a = .d (vlD nv) ∧ cs = [] := by rw [wrapN64 (by omega)]; exact hN
          refine a_sl hT 4 (rest.map eB).length ((rest.drop 4).map eB) rfl rfl rfl rfl rfl ⟨.i64, 0, rfl⟩ rfl (by rw [hrl]; omega) (Nat.le_refl _) (slD rest 4) ?_
          refine a_call hT rfl rfl rfl (by kernel_rfl) hN [] [] rfl rfl ?_
          rintro _ _ ⟨rfl, rfl⟩
          refine a_lit hT 20 rfl rfl rfl rfl (by kernel_rfl) rfl rfl rfl rfl fun x20 => ?_
          refine a_app hT 12 _ rfl rfl rfl rfl (by kernel_rfl) rfl rfl rfl rfl rfl rfl (by first | (simp; done) | (simp; omega) | (simp; unfold lim; omega) | (simp; assumption)) fun v => ?_
          exact a_next hT (acc ++ [nv], rest.drop 4, v) [12] rfl rfl ⟨⟨by rw [← i1, hw]; show (upW kind (rest.drop 4)).map _ = _; rw [Option.map_map]; congr 1; funext L; simp, by show (acc ++ [_]).length + (rest.drop 4).length ≤ bs.length; rw [List.length_append, List.length_drop]; simp only [List.length_cons, List.length_nil]; omega⟩, by show (rest.drop 4).length < rest.length; rw [List.length_drop]; omega⟩ ⟨rfl, rfl, rfl, trivial⟩ rfl ⟨⟨rfl, rfl, rfl, (vlsD_app acc [nv]).symm⟩, trivial⟩
      · rw [if_neg k5] at hu
        obtain ⟨rfl, rfl, rfl⟩ : n3 = n ∧ 8 = p ∧ e3 = e := by simpa using hu.symm
        refine a_call hT rfl rfl rfl (by kernel_rfl) hW [] [] rfl rfl ?_
        rintro _ _ ⟨rfl, rfl⟩
        refine a_if hT rfl rfl (fun h => ?_) (fun h => ?_)
        · have h := eq_of_beq h
          (exfalso; first | omega | contradiction)
        · have h := ne_of_beq_false h
          refine a_if hT rfl rfl (fun h1 => ?_) (fun h1 => ?_)
          · have h1 := eq_of_beq h1
            (exfalso; first | omega | contradiction)
          · have h1 := ne_of_beq_false h1
            refine a_call hT rfl rfl rfl (by kernel_rfl) t3 [] [] rfl rfl ?_
            rintro _ _ ⟨rfl, rfl⟩
            refine a_if hT rfl rfl (fun h2 => ?_) (fun h2 => ?_)
            · have h2 := bne_iff_ne.1 h2
              refine a_ret hT [] rfl rfl rfl rfl rfl rfl ?_
              have he : e3 ≠ 0 := fun q => h2 (by show (e3 : Int) = 0; omega)
              exact ⟨_, Le.tup (.cons (le_nil (k := 1)) (.cons (Le.refl _) .nil)), by rw [← i1, hw, if_pos he]; rfl, rfl⟩
            · simp at h2
              refine a_draw hT [12] false [(0, false), (1, false), (2, false), (6, false), (7, false), (8, false), (3, true), (4, true), (5, true), (9, true), (10, true)] rfl rfl (by kernel_rfl) (by kernel_rfl) rfl ?_
              have he : e3 = 0 := by omega
              subst he
              have ho1 := ho.1 rfl
              rw [if_neg (show ¬ (0 : Nat) ≠ 0 by simp)] at hw
              refine a_sl hT 8 (rest.map eB).length ((rest.drop 8).map eB) rfl rfl rfl rfl rfl ⟨.i64, 0, rfl⟩ rfl (by rw [hrl]; omega) (Nat.le_refl _) (slD rest 8) ?_
              refine a_call hT rfl rfl rfl (by kernel_rfl) hN [] [] rfl rfl ?_
              rintro _ _ ⟨rfl, rfl⟩
              refine a_lit hT 20 rfl rfl rfl rfl (by kernel_rfl) rfl rfl rfl rfl fun x20 => ?_
              refine a_app hT 12 _ rfl rfl rfl rfl (by kernel_rfl) rfl rfl rfl rfl rfl rfl (by first | (simp; done) | (simp; omega) | (simp; unfold lim; omega) | (simp; assumption)) fun v => ?_
              exact a_next hT (acc ++ [nv], rest.drop 8, v) [12] rfl rfl ⟨⟨by rw [← i1, hw]; show (upW kind (rest.drop 8)).map _ = _; rw [Option.map_map]; congr 1; funext L; simp, by show (acc ++ [_]).length + (rest.drop 8).length ≤ bs.length; rw [List.length_append, List.length_drop]; simp only [List.length_cons, List.length_nil]; omega⟩, by show (rest.drop 8).length < rest.length; rw [List.length_drop]; omega⟩ ⟨rfl, rfl, rfl, trivial⟩ rfl ⟨⟨rfl, rfl, rfl, (vlsD_app acc [nv]).symm⟩, trivial⟩
end Go.Proofs.YtjcolfogmmjaoaaGreatDoor
end

section
set_option linter.unusedVariables false
set_option linter.unusedSimpArgs false
set_option maxRecDepth 100000
set_option maxHeartbeats 1000000
namespace Go.Proofs.YtjcolfogmmjaoaaGreatDoor
open V A
def ownP (f : FDP) (l : List FW) : List FW := if f.rep || l.isEmpty then l else [l.getLast?.getD fw0]
theorem own_spec {f : FDP} {l : List FW} (hk : f.kind ≠ 10) (hl : l.length ≤ 1000000000) : FSpec Tryz.prog 76 [.agg ((eF f).map nd), .d (.sl 4 (l.map fwD))] [] fun a cs => a = .d (.sl 4 ((ownP f l).map fwD)) ∧ cs = [] := by
  have hlen : (l.map fwD).length = l.length := List.length_map _
  refine a_enter hT [.agg ((eF f).map nd), .d (.sl 4 (l.map fwD))] [] Tryz.func76 rfl rfl rfl ⟨Fit.refl _, Fit.refl _, trivial⟩ fun c' => ?_
  obtain ⟨num, name, kind, rep, ty⟩ := f
  cases rep with
  | true =>
    have ho : ownP ⟨num, name, kind, true, ty⟩ l = l := by unfold ownP; simp
    rw [ho]
    refine a_box hT 20 rfl rfl rfl rfl fun g => ?_
    refine a_gt hT rfl rfl rfl rfl ?_
    refine a_t hT rfl rfl rfl ?_
    refine a_ret hT [] rfl rfl rfl rfl rfl rfl ?_
    first | exact ⟨rfl, rfl⟩ | rfl
  | false =>
    rcases List.eq_nil_or_concat l with rfl | ⟨l', x, rfl⟩
    · have ho : ownP ⟨num, name, kind, false, ty⟩ [] = [] := rfl
      rw [ho]
      refine a_box hT 20 rfl rfl rfl rfl fun g => ?_
      refine a_gf hT rfl rfl rfl rfl ?_
      refine a_t hT rfl rfl rfl ?_
      refine a_ret hT [] rfl rfl rfl rfl rfl rfl ?_
      first | exact ⟨rfl, rfl⟩ | rfl
    · simp only [List.concat_eq_append] at hlen hl ⊢
      have ho : ownP ⟨num, name, kind, false, ty⟩ (l' ++ [x]) = [x] := by unfold ownP; simp
      rw [ho]
      have hat : ((l' ++ [x]).map fwD)[((l'.length : Nat) : Int).toNat]? = some (fwD x) := by simp
      have hw : IntKind.i64.wrap ((((l' ++ [x]).map fwD).length : Int) - 1) = ((l'.length : Nat) : Int) := by rw [hlen, List.length_append, w64 (by simp) (by simp at hl ⊢; omega)]; simp
      have hne : (((l' ++ [x]).map fwD).length : Int) ≠ 0 := by rw [hlen]; simp; omega
      obtain ⟨n, t, u, d⟩ := x
      refine a_box hT 20 rfl rfl rfl rfl fun g => ?_
      refine a_gf hT rfl rfl rfl rfl ?_
      refine a_if hT rfl rfl (fun h => ?_) (fun h => ?_)
      · have h := eq_of_beq h
        (exfalso; first | omega | contradiction)
      · have h := ne_of_beq_false h
        refine a_ix hT _ rfl rfl rfl rfl rfl rfl (by rw [hw]; omega) (by rw [hw]; exact hat) ?_
        refine a_new hT hZ 21 rfl rfl rfl rfl fun g1 => ?_
        refine a_if hT rfl rfl (fun h1 => ?_) (fun h1 => ?_)
        · have h1 := eq_of_beq h1
          (exfalso; first | omega | contradiction)
        · have h1 := ne_of_beq_false h1
          refine a_lit hT 22 rfl rfl rfl rfl (by kernel_rfl) rfl rfl rfl rfl fun x22 => ?_
          refine a_freeze 40 22 rfl rfl rfl rfl ?_
          refine a_ret hT [] rfl rfl rfl rfl rfl rfl ?_
          exact ⟨rfl, rfl⟩
def valuesP (f : FDP) (x : FW) : Option (List VL) := if x.typ = 2 then upW f.kind x.data else some [numP f.kind x.n]
theorem values_spec {s : SchP} {f : FDP} {x : FW} {d : Int} (hk : f.kind ≠ 10) (hk5 : f.kind ≠ 5) (hk6 : f.kind ≠ 6) (hl : x.data.length ≤ 1000000000) : FSpec Tryz.prog 77 [schA s, .agg ((eF f).map nd), fwA x, .v (kI d) 0] [] fun a cs => a = upA (valuesP f x) ∧ cs = [] := by
  refine FSpec.le ?_
  have hN := number_spec (kind := f.kind) (n := x.n)
  have hU := unpack_spec (kind := f.kind) hl
  have hu : valuesP f x = valuesP f x := rfl
  conv at hu => rhs; unfold valuesP
  generalize valuesP f x = R at hu ⊢
  generalize numP f.kind x.n = nv at hN hu
  generalize upW f.kind x.data = uv at hU hu
  refine a_enter hT [schA s, .agg ((eF f).map nd), fwA x, .v (kI d) 0] [] Tryz.func77 rfl rfl rfl ⟨Fit.refl _, Fit.refl _, Fit.refl _, rfl, trivial⟩ fun c' => ?_
  cases uv with
  | none =>
    refine a_box hT 20 rfl rfl rfl rfl fun g => ?_
    refine a_box hT 21 rfl rfl rfl rfl fun g1 => ?_
    refine a_box hT 22 rfl rfl rfl rfl fun g2 => ?_
    refine a_if hT rfl rfl (fun h => ?_) (fun h => ?_)
    · have h := eq_of_beq h
      (exfalso; first | omega | contradiction)
    · have h := ne_of_beq_false h
      refine a_if hT rfl rfl (fun h1 => ?_) (fun h1 => ?_)
      · have h1 := eq_of_beq h1
        (exfalso; first | omega | contradiction)
      · have h1 := ne_of_beq_false h1
        refine a_if hT rfl rfl (fun h2 => ?_) (fun h2 => ?_)
        · have h2 := eq_of_beq h2
          (exfalso; first | omega | contradiction)
        · have h2 := ne_of_beq_false h2
          refine a_if hT rfl rfl (fun h3 => ?_) (fun h3 => ?_)
          · have h3 := eq_of_beq h3
            refine a_call hT rfl rfl rfl (by kernel_rfl) hU [] [] rfl rfl ?_
            rintro _ _ ⟨rfl, rfl⟩
            refine a_ret hT [] rfl rfl rfl rfl rfl rfl ?_
            have ht2 : x.typ = 2 := by have : (x.typ : Int) = 2 := h3; omega
            rw [if_pos ht2] at hu
            exact ⟨_, Le.refl _, by rw [hu]; rfl, rfl⟩
          · have h3 := ne_of_beq_false h3
            refine a_call hT rfl rfl rfl (by kernel_rfl) hN [] [] rfl rfl ?_
            rintro _ _ ⟨rfl, rfl⟩
            refine a_lit hT 23 rfl rfl rfl rfl (by kernel_rfl) rfl rfl rfl rfl fun x23 => ?_
            refine a_freeze 68 23 rfl rfl rfl rfl ?_
            refine a_ret hT [] rfl rfl rfl rfl rfl rfl ?_
            have ht2 : ¬ x.typ = 2 := fun q => h3 (by show (x.typ : Int) = 2; omega)
            rw [if_neg ht2] at hu
            exact ⟨_, Le.refl _, by rw [hu]; rfl, rfl⟩
  | some ul =>
    refine a_box hT 20 rfl rfl rfl rfl fun g => ?_
    refine a_box hT 21 rfl rfl rfl rfl fun g1 => ?_
    refine a_box hT 22 rfl rfl rfl rfl fun g2 => ?_
    refine a_if hT rfl rfl (fun h => ?_) (fun h => ?_)
    · have h := eq_of_beq h
      (exfalso; first | omega | contradiction)
    · have h := ne_of_beq_false h
      refine a_if hT rfl rfl (fun h1 => ?_) (fun h1 => ?_)
      · have h1 := eq_of_beq h1
        (exfalso; first | omega | contradiction)
      · have h1 := ne_of_beq_false h1
        refine a_if hT rfl rfl (fun h2 => ?_) (fun h2 => ?_)
        · have h2 := eq_of_beq h2
          (exfalso; first | omega | contradiction)
        · have h2 := ne_of_beq_false h2
          refine a_if hT rfl rfl (fun h3 => ?_) (fun h3 => ?_)
          · have h3 := eq_of_beq h3
            refine a_call hT rfl rfl rfl (by kernel_rfl) hU [] [] rfl rfl ?_
            rintro _ _ ⟨rfl, rfl⟩
            refine a_ret hT [] rfl rfl rfl rfl rfl rfl ?_
            have ht2 : x.typ = 2 := by have : (x.typ : Int) = 2 := h3; omega
            rw [if_pos ht2] at hu
            exact ⟨_, Le.refl _, by rw [hu]; rfl, rfl⟩
          · have h3 := ne_of_beq_false h3
            refine a_call hT rfl rfl rfl (by kernel_rfl) hN [] [] rfl rfl ?_
            rintro _ _ ⟨rfl, rfl⟩
            refine a_lit hT 23 rfl rfl rfl rfl (by kernel_rfl) rfl rfl rfl rfl fun x23 => ?_
            refine a_freeze 68 23 rfl rfl rfl rfl ?_
            refine a_ret hT [] rfl rfl rfl rfl rfl rfl ?_
            have ht2 : ¬ x.typ = 2 := fun q => h3 (by show (x.typ : Int) = 2; omega)
            rw [if_neg ht2] at hu
            exact ⟨_, Le.refl _, by rw [hu]; rfl, rfl⟩
end Go.Proofs.YtjcolfogmmjaoaaGreatDoor
end

section
set_option linter.unusedVariables false
set_option linter.unusedSimpArgs false
set_option maxRecDepth 100000
set_option maxHeartbeats 1000000
namespace Go.Proofs.YtjcolfogmmjaoaaGreatDoor
open V A
theorem takeFP_data (bs : List UInt8) : (takeFP bs).1.data.length ≤ bs.length := by
  unfold takeFP
  dsimp only
  repeat' split
  all_goals simp [fw0]
  all_goals omega
theorem splitW_ok : ∀ (k : Nat) (bs : List UInt8) (ws : List (FW × List UInt8)), bs.length ≤ k → splitW bs = some ws → ws.length ≤ bs.length ∧ (∀ x ∈ ws, x.1.data.length ≤ bs.length) ∧ (ws.flatMap (·.2)).length ≤ bs.length := by
  intro k
  induction k with
  | zero =>
    intro bs ws hl h
    have : bs = [] := List.eq_nil_of_length_eq_zero (by omega)
    subst this
    cases h
    simp
  | succ k ih =>
    intro bs ws hl h
    by_cases hb : bs = []
    · subst hb; cases h; simp
    · rw [splitW_cons hb] at h
      have ho := takeFP_ok bs
      have hd := takeFP_data bs
      generalize takeFP bs = r at h ho hd
      obtain ⟨f, p, e⟩ := r
      dsimp only at h ho hd
      split at h
      · cases h
      · rename_i he
        have ho := ho (by omega)
        cases hs : splitW (bs.drop p) with
        | none => rw [hs] at h; cases h
        | some L =>
          rw [hs] at h
          cases h
          have hdl : (bs.drop p).length = bs.length - p := List.length_drop
          have := ih (bs.drop p) L (by omega) hs
          refine ⟨by simp only [List.length_cons]; omega, fun x hx => ?_, ?_⟩
          · rcases List.mem_cons.1 hx with rfl | hx
            · exact hd
            · have := this.2.1 x hx; omega
          · rw [List.flatMap_cons, List.length_append]
            have : (bs.take p).length ≤ p := by rw [List.length_take]; omega
            show (bs.take p).length + (L.flatMap (·.2)).length ≤ bs.length
            omega
theorem upW_len : ∀ (k : Nat) (kind : Int) (bs : List UInt8) (l : List VL), bs.length ≤ k → upW kind bs = some l → l.length ≤ bs.length := by
  intro k
  induction k with
  | zero =>
    intro kind bs l hl h
    have : bs = [] := List.eq_nil_of_length_eq_zero (by omega)
    subst this
    cases h
    simp
  | succ k ih =>
    intro kind bs l hl h
    by_cases hb : bs = []
    · subst hb; cases h; simp
    · rw [upW_cons hb] at h
      have ho := takeK_ok (wireK kind) bs
      generalize takeK (wireK kind) bs = r at h ho
      obtain ⟨f, p, e⟩ := r
      dsimp only at h ho
      split at h
      · cases h
      · rename_i he
        have ho := ho.1 (by omega)
        have hdl : (bs.drop p).length = bs.length - p := List.length_drop
        cases hs : upW kind (bs.drop p) with
        | none => rw [hs] at h; cases h
        | some L =>
          rw [hs] at h
          cases h
          have := ih kind (bs.drop p) L (by omega) hs
          simp only [List.length_cons]
          omega
def valsP (f : FDP) : List FW → Option (List VL)
  | [] => some []
  | x :: l => (valuesP f x).bind fun a => (valsP f l).map (a ++ ·)
def keepP (f : FDP) (l : List VL) : Bool := !l.isEmpty && (f.rep || !zeroV (l.headD .none))
def fldsP (kn : Int → List FW) : List FDP → Option (List VF)
  | [] => some []
  | f :: fs => (valsP f (ownP f (kn f.num))).bind fun l => (fldsP kn fs).map fun r => if keepP f l then .mk f.num l :: r else r
def knP (d : MDP) (ws : List (FW × List UInt8)) (num : Int) : List FW := (ws.map (·.1)).filter fun x => knownP d x.num x.typ && decide ((x.num : Int) = num)
def unkP (d : MDP) (ws : List (FW × List UInt8)) : List UInt8 := (ws.filter fun x => !knownP d x.1.num x.1.typ).flatMap (·.2)
def msgP (d : MDP) (t : Int) (bs : List UInt8) : Option VL := (splitW bs).bind fun ws => (fldsP (knP d ws) d.fs).map fun fs => .msg t fs (mkS (unkP d ws))
theorem knP_snoc (d : MDP) (ws : List (FW × List UInt8)) (x : FW × List UInt8) (k : Int) : knP d (ws ++ [x]) k = knP d ws k ++ (if knownP d x.1.num x.1.typ && decide ((x.1.num : Int) = k) then [x.1] else []) := by
  unfold knP
  rw [List.map_append, List.filter_append]
  congr 1
  simp [List.filter_cons]
theorem unkP_snoc (d : MDP) (ws : List (FW × List UInt8)) (x : FW × List UInt8) : unkP d (ws ++ [x]) = unkP d ws ++ (if knownP d x.1.num x.1.typ then [] else x.2) := by
  unfold unkP
  rw [List.filter_append, List.flatMap_append]
  congr 1
  cases h : knownP d x.1.num x.1.typ <;> simp [h]
theorem knP_len (d : MDP) (ws : List (FW × List UInt8)) (i : Nat) (k : Int) : (knP d (ws.take i) k).length ≤ ws.length := by
  unfold knP
  have h1 := List.length_filter_le (fun x : FW => knownP d x.num x.typ && decide ((x.num : Int) = k)) ((ws.take i).map (·.1))
  rw [List.length_map, List.length_take] at h1
  omega
theorem unkP_len (d : MDP) (ws : List (FW × List UInt8)) (i : Nat) : (unkP d (ws.take i)).length ≤ (ws.flatMap (·.2)).length := by
  unfold unkP
  have h : ∀ (l : List (FW × List UInt8)) (q : FW × List UInt8 → Bool), ((l.filter q).flatMap (·.2)).length ≤ (l.flatMap (·.2)).length := by
    intro l q
    induction l with
    | nil => simp
    | cons x l ih =>
      rw [List.filter_cons, List.flatMap_cons, List.length_append]
      split
      · rw [List.flatMap_cons, List.length_append]; omega
      · omega
  have h2 := h (ws.take i) fun x => !knownP d x.1.num x.1.typ
  have h3 : (ws.flatMap (·.2)) = ((ws.take i).flatMap (·.2)) ++ ((ws.drop i).flatMap (·.2)) := by rw [← List.flatMap_append, List.take_append_drop]
  rw [h3, List.length_append]
  omega
theorem mkS_size (l : List UInt8) : (mkS l).size = l.length := by unfold mkS; simp [ByteArray.size]
theorem mkS_app (a b : List UInt8) : mkS a ++ mkS b = mkS (a ++ b) := by
  apply ByteArray.ext
  unfold mkS
  simp [ByteArray.data_append]
theorem valuesP_len {f : FDP} {x : FW} {l : List VL} (h : valuesP f x = some l) : l.length ≤ x.data.length + 1 := by
  unfold valuesP at h
  split at h
  · have := upW_len _ _ _ _ (Nat.le_refl _) h; omega
  · cases h; simp
theorem vfsD_len (l : List VF) : (vfsD l).length = l.length := by rw [vfsD_map, List.length_map]
theorem vfsD_app (l l' : List VF) : vfsD (l ++ l') = vfsD l ++ vfsD l' := by rw [vfsD_map, vfsD_map, vfsD_map, List.map_append]
def decA : Option VL → AV
  | none => .tup [.v .nilIface 0, .v (kI 2) 0]
  | some m => .tup [.d (vlD m), .v (kI 0) 0]
structure FlatM (d : MDP) : Prop where
  k5 : ∀ f ∈ d.fs, f.kind ≠ 5
  k6 : ∀ f ∈ d.fs, f.kind ≠ 6
  k10 : ∀ f ∈ d.fs, f.kind ≠ 10
  len : d.fs.length ≤ 1000
structure KX where
  v : Value
  l : List FW
def kAt (L : List (Int × KX)) (k : Int) : List FW := ((aget L k).map (·.l)).getD []
theorem kAt_put (L : List (Int × KX)) (k : Int) (x : KX) (j : Int) : kAt (aput L k x) j = if k = j then x.l else kAt L j := by
  unfold kAt
  rw [aget_aput]
  split <;> rfl
def vaK (x : KX) : AV := .row x.v 0
def rowK (p : Int × KX) : Chunk := .row p.2.v 139 4 (p.2.l.map fwD)
def vaKD (x : KX) : AV := .d (.sl 4 (x.l.map fwD))
theorem kAt_le (L : List (Int × KX)) (k : Int) : Le (((aget L k).map vaKD).getD (.v (.slice none 0 0) 0)) (.d (.sl 4 ((kAt L k).map fwD))) := by
  unfold kAt
  cases aget L k with
  | none => exact le_nil
  | some x => exact Le.refl _
end Go.Proofs.YtjcolfogmmjaoaaGreatDoor
end

section
set_option linter.unusedVariables false
set_option linter.unusedSimpArgs false
set_option maxRecDepth 100000
set_option maxHeartbeats 2000000
namespace Go.Proofs.YtjcolfogmmjaoaaGreatDoor
open V A
theorem mtW : mapT Tryz.prog 138 3 135 = true := by kernel_rfl
theorem zeroW : (Tryz.prog.info? 135).map (·.zero) = some (some (.slice none 0 0)) := by kernel_rfl
theorem dmsg_spec {s : SchP} {d : MDP} {t : Nat} {dep : Int} {bs : List UInt8} (hs : s.ms[t]? = some d) (hd : FlatM d) (hdep : dep ≤ 16) (hl : bs.length ≤ 4096) : FSpec Tryz.prog 38 [schA s, .v (kI t) 0, .d (A.bytesD bs), .v (kI dep) 0] [] fun a cs => a = decA (msgP d t bs) ∧ cs = [] := by
  refine FSpec.le ?_
  have hlim : lim = 4294967296 := rfl
  have hS := WSplit_spec (bs := bs) (by omega)
  have hm : msgP d t bs = msgP d t bs := rfl
  conv at hm => rhs; unfold msgP
  have hws := splitW_ok bs.length bs
  generalize msgP d t bs = M at hm ⊢
  generalize splitW bs = ws at hS hm hws
  have hat0 : (s.ms.map eM)[((t : Nat) : Int).toNat]? = some (eM d) := by simp [hs]
  refine a_enter hT [schA s, .v (kI t) 0, .d (A.bytesD bs), .v (kI dep) 0] [] Tryz.func38 rfl rfl rfl ⟨Fit.refl _, rfl, Fit.refl _, rfl, trivial⟩ fun c' => ?_
  refine a_box hT 20 rfl rfl rfl rfl fun g0 => ?_
  refine a_f hT rfl rfl (decide_eq_false (by show ¬ dep > 16; omega)) ?_
  cases ws with
  | none =>
    refine a_call hT rfl rfl rfl (by kernel_rfl) hS [] [] rfl rfl ?_
    rintro _ _ ⟨rfl, rfl⟩
    refine a_t hT rfl rfl rfl ?_
    refine a_ret hT [] rfl rfl rfl rfl rfl rfl ?_
    exact ⟨_, Le.refl _, by rw [hm]; rfl, rfl⟩
  | some ws =>
    refine a_call hT rfl rfl rfl (by kernel_rfl) hS [] [] rfl rfl ?_
    rintro _ _ ⟨rfl, rfl⟩
    refine a_f hT rfl rfl rfl ?_
    refine a_ix hT _ rfl rfl rfl rfl rfl rfl (by first | omega | assumption) (by first | assumption | rfl) ?_
    refine a_new hT hZ 21 rfl rfl rfl rfl fun g => ?_
    refine a_build hT hZ [.v (kI ↑t) 0, .v (Value.slice none 0 0) 0, .v (Value.string ByteArray.empty) 0] rfl rfl rfl rfl rfl rfl ?_
    refine a_new hT hZ 22 rfl rfl rfl rfl fun g1 => ?_
    refine a_mkmap hT 23 rfl rfl rfl fun r => ?_
    obtain ⟨hw1, hw2, hw3⟩ := hws ws (Nat.le_refl _) rfl
    have hlw : (ws.map fun x => fwD x.1).length = ws.length := List.length_map _
    refine a_freezeK 4 20 rfl rfl rfl rfl rfl ?_
    refine a_freezeK 13 21 rfl rfl rfl rfl rfl ?_
    refine a_ent [] [24] [.ext (listA [])] rfl rfl (ent_shut []) ?_
    refine a_loop hT [3, 4, 11, 13, 14, 15, 43, 44, 45] (fun x : Nat × List (Int × KX) => [.v (kI dep) 0, .d (.p (schD s)), .d (.sl 1 (ws.map rawD)), .d (.p (eM d)), .v (.pointer (some ⟨g1, 0, none⟩)) 22, .v (.map (some r)) 23, .d (.sl 4 (ws.map fun x => fwD x.1)), .v (kI ws.length) 0, .v (kI x.1) 0]) (fun x => [(22, .blk g1 97 [.v (kI t) 0, .v (.slice none 0 0) 0, .v (.string (mkS (unkP d (ws.take x.1)))) 0]), (23, .map r (mapG kI vaK x.2)), (24, .ext (listA (x.2.map rowK)))]) (fun x => x.1 ≤ ws.length ∧ ∀ k, kAt x.2 k = knP d (ws.take x.1) k) (fun x => ws.length - x.1) (0, []) [22, 23, 24] rfl rfl ⟨Nat.zero_le _, fun k => rfl⟩ ⟨rfl, rfl, rfl, rfl, rfl, rfl, rfl, by rw [← hlw]; rfl, rfl, trivial⟩ rfl ⟨⟨rfl, rfl, ⟨rfl, rfl, rfl, trivial⟩⟩, ⟨rfl, rfl⟩, rfl, trivial⟩ ?_
    rintro ⟨i, L⟩ ⟨i2, i3⟩
    dsimp only at i2 i3
    have hw := wN i (by omega)
    rcases Nat.lt_or_ge i ws.length with hil | hil
    · have hat : (ws.map fun x => fwD x.1)[(i : Int).toNat]? = some (fwD ws[i].1) := by simp [hil]
      have hat2 : (ws.map rawD)[(i : Int).toNat]? = some (rawD ws[i]) := by simp [hil]
      have hmem := List.getElem_mem hil
      have htk : ws.take (i + 1) = ws.take i ++ [ws[i]] := List.take_succ_eq_append_getElem hil
      generalize ws[i] = x at hat hat2 hmem htk
      obtain ⟨⟨fn, ft, fu, fd⟩, raw⟩ := x
      have hK := Known_spec (d := d) (num := fn) (typ := ft) (by have := hd.len; omega)
      refine a_t hT rfl rfl (decide_eq_true (by show (i : Int) < (ws.length : Int); omega)) ?_
      cases hkn : knownP d fn ft with
      | true =>
        rw [hkn] at hK
        refine a_ix hT _ rfl rfl rfl rfl rfl rfl (by first | omega | assumption) (by first | assumption | rfl) ?_
        refine a_new hT hZ 25 rfl rfl rfl rfl fun g2 => ?_
        refine a_call hT rfl rfl rfl (by kernel_rfl) hK [] [] rfl rfl ?_
        rintro _ _ ⟨rfl, rfl⟩
        refine a_t hT rfl rfl rfl ?_
        cases hag : aget L fn with
        | none =>
          have hold : kAt L fn = [] := by unfold kAt; rw [hag]; rfl
          have hlimA : (([] : List FW).map fwD).length + [fwD (⟨fn, ft, fu, fd⟩ : FW)].length ≤ lim := by simp; omega
          refine a_nilchunk 26 139 4 rfl ?_
          refine a_treeN hT [3, 4, 11, 13, 14, 15, 43, 44, 45] (fun _ : Value => [.v (kI dep) 0, .d (.p (schD s)), .d (.sl 1 (ws.map rawD)), .d (.p (eM d)), .v (.pointer (some ⟨g1, 0, none⟩)) 22, .v (.map (some r)) 23, .d (.sl 4 (ws.map fun x => fwD x.1)), .v (kI ws.length) 0, .v (kI i) 0]) (fun v => [(22, .blk g1 97 [.v (kI t) 0, .v (.slice none 0 0) 0, .v (.string (mkS (unkP d (ws.take i)))) 0]), (23, .map r (mapG kI vaK (aput L fn ⟨v, ([] : List FW) ++ [(⟨fn, ft, fu, fd⟩ : FW)]⟩))), (26, .row v 139 4 ((([] : List FW) ++ [(⟨fn, ft, fu, fd⟩ : FW)]).map fwD)), (24, .ext (listA (L.map rowK)))]) (fun _ => True) [23, 26] 11 [(0, false), (1, false), (2, false), (3, false), (4, false), (5, false), (7, false)] rfl rfl (by kernel_rfl) (by kernel_rfl) rfl ?_ ?_
          · refine a_alt hT [([(6, true), (8, true), (9, true), (10, true)], true), ([(8, true), (6, true), (9, true), (10, true)], true)] rfl rfl (by kernel_rfl) ⟨?_, ?_, trivial⟩
            · refine a_lookG hT (kv := kI) (va := vaK) L fn none rfl rfl rfl mtW kI_ok zeroW rfl rfl rfl rfl rfl hag ?_
              refine a_asL 62 (b := .row (.slice none 0 0) 26) rfl le_nilrow ?_
              refine a_lit hT 27 rfl rfl rfl rfl (by kernel_rfl) rfl rfl rfl rfl fun x27 => ?_
              refine a_app hT 28 ((([] : List FW) ++ [(⟨fn, ft, fu, fd⟩ : FW)]).map fwD) rfl rfl rfl rfl (by kernel_rfl) rfl rfl rfl rfl rfl (by rw [List.map_append]; rfl) hlimA fun v => ?_
              refine a_as 65 (b := .row v 0) rfl rfl ?_
              refine a_mputG hT (kv := kI) (va := vaK) L fn ⟨v, ([] : List FW) ++ [(⟨fn, ft, fu, fd⟩ : FW)]⟩ rfl rfl rfl mtW kI_ok rfl rfl rfl rfl rfl rfl ?_
              exact a_next hT v [22, 23, 28, 24] rfl rfl trivial ⟨rfl, rfl, rfl, rfl, rfl, rfl, rfl, rfl, rfl, trivial⟩ rfl ⟨⟨rfl, rfl, ⟨rfl, rfl, rfl, trivial⟩⟩, ⟨rfl, rfl⟩, ⟨rfl, rfl, rfl, rfl⟩, rfl, trivial⟩
            · refine a_lit hT 27 rfl rfl rfl rfl (by kernel_rfl) rfl rfl rfl rfl fun x27 => ?_
              refine a_lookG hT (kv := kI) (va := vaK) L fn none rfl rfl rfl mtW kI_ok zeroW rfl rfl rfl rfl rfl hag ?_
              refine a_asL 62 (b := .row (.slice none 0 0) 26) rfl le_nilrow ?_
              refine a_app hT 28 ((([] : List FW) ++ [(⟨fn, ft, fu, fd⟩ : FW)]).map fwD) rfl rfl rfl rfl (by kernel_rfl) rfl rfl rfl rfl rfl (by rw [List.map_append]; rfl) hlimA fun v => ?_
              refine a_as 65 (b := .row v 0) rfl rfl ?_
              refine a_mputG hT (kv := kI) (va := vaK) L fn ⟨v, ([] : List FW) ++ [(⟨fn, ft, fu, fd⟩ : FW)]⟩ rfl rfl rfl mtW kI_ok rfl rfl rfl rfl rfl rfl ?_
              exact a_next hT v [22, 23, 28, 24] rfl rfl trivial ⟨rfl, rfl, rfl, rfl, rfl, rfl, rfl, rfl, rfl, trivial⟩ rfl ⟨⟨rfl, rfl, ⟨rfl, rfl, rfl, trivial⟩⟩, ⟨rfl, rfl⟩, ⟨rfl, rfl, rfl, rfl⟩, rfl, trivial⟩
          rintro v _
          have hunk : unkP d (ws.take (i + 1)) = unkP d (ws.take i) := by rw [htk, unkP_snoc, hkn]; simp
          have hent : Ent [.row v 139 4 ((([] : List FW) ++ [(⟨fn, ft, fu, fd⟩ : FW)]).map fwD), .ext (listA (L.map rowK))] [.ext (listA ((aput L fn ⟨v, ([] : List FW) ++ [(⟨fn, ft, fu, fd⟩ : FW)]⟩).map rowK))] := by
            have := ent_unfocus (L.map rowK) [rowK ((fn : Int), ⟨v, ([] : List FW) ++ [(⟨fn, ft, fu, fd⟩ : FW)]⟩)] []
            rw [List.append_nil, List.append_nil, show L.map rowK ++ [rowK ((fn : Int), ⟨v, ([] : List FW) ++ [(⟨fn, ft, fu, fd⟩ : FW)]⟩)] = (aput L (fn : Int) ⟨v, ([] : List FW) ++ [(⟨fn, ft, fu, fd⟩ : FW)]⟩).map rowK by rw [aput_new hag, List.map_append]; rfl] at this
            exact this
          refine a_nextE hT (i + 1, aput L fn ⟨v, ([] : List FW) ++ [(⟨fn, ft, fu, fd⟩ : FW)]⟩) [22, 23, 26, 24] rfl rfl ⟨⟨by show i + 1 ≤ ws.length; omega, fun k => ?_⟩, by show ws.length - (i + 1) < ws.length - i; omega⟩ ⟨rfl, rfl, rfl, rfl, rfl, rfl, rfl, rfl, by show Value.int .i64 _ = Value.int .i64 _; rw [hw], trivial⟩ rfl (show Ent [.blk g1 97 [.v (kI t) 0, .v (.slice none 0 0) 0, .v (.string (mkS (unkP d (ws.take i)))) 0], .map r (mapG kI vaK (aput L fn ⟨v, ([] : List FW) ++ [(⟨fn, ft, fu, fd⟩ : FW)]⟩)), .row v 139 4 ((([] : List FW) ++ [(⟨fn, ft, fu, fd⟩ : FW)]).map fwD), .ext (listA (L.map rowK))] [.blk g1 97 [.v (kI t) 0, .v (.slice none 0 0) 0, .v (.string (mkS (unkP d (ws.take (i + 1))))) 0], .map r (mapG kI vaK (aput L fn ⟨v, ([] : List FW) ++ [(⟨fn, ft, fu, fd⟩ : FW)]⟩)), .ext (listA ((aput L fn ⟨v, ([] : List FW) ++ [(⟨fn, ft, fu, fd⟩ : FW)]⟩).map rowK))] from by rw [hunk]; exact Ent.cons _ (Ent.cons _ hent))
          show kAt (aput L fn ⟨v, ([] : List FW) ++ [(⟨fn, ft, fu, fd⟩ : FW)]⟩) k = knP d (ws.take (i + 1)) k
          rw [kAt_put, htk, knP_snoc, hkn, ← i3 k]
          split
          · rename_i e
            subst e
            rw [hold]
            simp
          · rename_i e
            simp [e]
        | some kx =>
          obtain ⟨a, b, hab, hna⟩ := aget_split hag
          have hold : kAt L fn = kx.l := by unfold kAt; rw [hag]; rfl
          have hkl : kx.l.length ≤ ws.length := by rw [← hold, i3]; exact knP_len _ _ _ _
          have hlimA : (kx.l.map fwD).length + [fwD (⟨fn, ft, fu, fd⟩ : FW)].length ≤ lim := by simp; omega
          have hmapL : L.map rowK = a.map rowK ++ ([rowK ((fn : Int), kx)] ++ b.map rowK) := by rw [hab, List.map_append]; rfl
          refine a_ent [24] [26, 24] ([rowK ((fn : Int), kx)] ++ [.ext (listA (a.map rowK ++ b.map rowK))]) rfl rfl (by have := ent_focus (a.map rowK) [rowK ((fn : Int), kx)] (b.map rowK); rw [← hmapL] at this; exact this) ?_
          refine a_treeN hT [3, 4, 11, 13, 14, 15, 43, 44, 45] (fun _ : Value => [.v (kI dep) 0, .d (.p (schD s)), .d (.sl 1 (ws.map rawD)), .d (.p (eM d)), .v (.pointer (some ⟨g1, 0, none⟩)) 22, .v (.map (some r)) 23, .d (.sl 4 (ws.map fun x => fwD x.1)), .v (kI ws.length) 0, .v (kI i) 0]) (fun v => [(22, .blk g1 97 [.v (kI t) 0, .v (.slice none 0 0) 0, .v (.string (mkS (unkP d (ws.take i)))) 0]), (23, .map r (mapG kI vaK (aput L fn ⟨v, kx.l ++ [(⟨fn, ft, fu, fd⟩ : FW)]⟩))), (26, .row v 139 4 ((kx.l ++ [(⟨fn, ft, fu, fd⟩ : FW)]).map fwD)), (24, .ext (listA (a.map rowK ++ b.map rowK)))]) (fun _ => True) [23, 26] 11 [(0, false), (1, false), (2, false), (3, false), (4, false), (5, false), (7, false)] rfl rfl (by kernel_rfl) (by kernel_rfl) rfl ?_ ?_
          · refine a_alt hT [([(6, true), (8, true), (9, true), (10, true)], true), ([(8, true), (6, true), (9, true), (10, true)], true)] rfl rfl (by kernel_rfl) ⟨?_, ?_, trivial⟩
            · refine a_lookG hT (kv := kI) (va := vaK) L fn (some kx) rfl rfl rfl mtW kI_ok zeroW rfl rfl rfl rfl rfl hag ?_
              refine a_as 62 (b := .row kx.v 26) rfl rfl ?_
              refine a_lit hT 27 rfl rfl rfl rfl (by kernel_rfl) rfl rfl rfl rfl fun x27 => ?_
              refine a_app hT 28 ((kx.l ++ [(⟨fn, ft, fu, fd⟩ : FW)]).map fwD) rfl rfl rfl rfl (by kernel_rfl) rfl rfl rfl rfl rfl (by rw [List.map_append]; rfl) hlimA fun v => ?_
              refine a_as 65 (b := .row v 0) rfl rfl ?_
              refine a_mputG hT (kv := kI) (va := vaK) L fn ⟨v, kx.l ++ [(⟨fn, ft, fu, fd⟩ : FW)]⟩ rfl rfl rfl mtW kI_ok rfl rfl rfl rfl rfl rfl ?_
              exact a_next hT v [22, 23, 28, 24] rfl rfl trivial ⟨rfl, rfl, rfl, rfl, rfl, rfl, rfl, rfl, rfl, trivial⟩ rfl ⟨⟨rfl, rfl, ⟨rfl, rfl, rfl, trivial⟩⟩, ⟨rfl, rfl⟩, ⟨rfl, rfl, rfl, rfl⟩, rfl, trivial⟩
            · refine a_lit hT 27 rfl rfl rfl rfl (by kernel_rfl) rfl rfl rfl rfl fun x27 => ?_
              refine a_lookG hT (kv := kI) (va := vaK) L fn (some kx) rfl rfl rfl mtW kI_ok zeroW rfl rfl rfl rfl rfl hag ?_
              refine a_as 62 (b := .row kx.v 26) rfl rfl ?_
              refine a_app hT 28 ((kx.l ++ [(⟨fn, ft, fu, fd⟩ : FW)]).map fwD) rfl rfl rfl rfl (by kernel_rfl) rfl rfl rfl rfl rfl (by rw [List.map_append]; rfl) hlimA fun v => ?_
              refine a_as 65 (b := .row v 0) rfl rfl ?_
              refine a_mputG hT (kv := kI) (va := vaK) L fn ⟨v, kx.l ++ [(⟨fn, ft, fu, fd⟩ : FW)]⟩ rfl rfl rfl mtW kI_ok rfl rfl rfl rfl rfl rfl ?_
              exact a_next hT v [22, 23, 28, 24] rfl rfl trivial ⟨rfl, rfl, rfl, rfl, rfl, rfl, rfl, rfl, rfl, trivial⟩ rfl ⟨⟨rfl, rfl, ⟨rfl, rfl, rfl, trivial⟩⟩, ⟨rfl, rfl⟩, ⟨rfl, rfl, rfl, rfl⟩, rfl, trivial⟩
          rintro v _
          have hunk : unkP d (ws.take (i + 1)) = unkP d (ws.take i) := by rw [htk, unkP_snoc, hkn]; simp
          have hent : Ent [.row v 139 4 ((kx.l ++ [(⟨fn, ft, fu, fd⟩ : FW)]).map fwD), .ext (listA (a.map rowK ++ b.map rowK))] [.ext (listA ((aput L fn ⟨v, kx.l ++ [(⟨fn, ft, fu, fd⟩ : FW)]⟩).map rowK))] := by
            have := ent_unfocus (a.map rowK) [rowK ((fn : Int), ⟨v, kx.l ++ [(⟨fn, ft, fu, fd⟩ : FW)]⟩)] (b.map rowK)
            rw [show a.map rowK ++ ([rowK ((fn : Int), ⟨v, kx.l ++ [(⟨fn, ft, fu, fd⟩ : FW)]⟩)] ++ b.map rowK) = (aput L (fn : Int) ⟨v, kx.l ++ [(⟨fn, ft, fu, fd⟩ : FW)]⟩).map rowK by rw [hab, aput_mid hna, List.map_append]; rfl] at this
            exact this
          refine a_nextE hT (i + 1, aput L fn ⟨v, kx.l ++ [(⟨fn, ft, fu, fd⟩ : FW)]⟩) [22, 23, 26, 24] rfl rfl ⟨⟨by show i + 1 ≤ ws.length; omega, fun k => ?_⟩, by show ws.length - (i + 1) < ws.length - i; omega⟩ ⟨rfl, rfl, rfl, rfl, rfl, rfl, rfl, rfl, by show Value.int .i64 _ = Value.int .i64 _; rw [hw], trivial⟩ rfl (show Ent [.blk g1 97 [.v (kI t) 0, .v (.slice none 0 0) 0, .v (.string (mkS (unkP d (ws.take i)))) 0], .map r (mapG kI vaK (aput L fn ⟨v, kx.l ++ [(⟨fn, ft, fu, fd⟩ : FW)]⟩)), .row v 139 4 ((kx.l ++ [(⟨fn, ft, fu, fd⟩ : FW)]).map fwD), .ext (listA (a.map rowK ++ b.map rowK))] [.blk g1 97 [.v (kI t) 0, .v (.slice none 0 0) 0, .v (.string (mkS (unkP d (ws.take (i + 1))))) 0], .map r (mapG kI vaK (aput L fn ⟨v, kx.l ++ [(⟨fn, ft, fu, fd⟩ : FW)]⟩)), .ext (listA ((aput L fn ⟨v, kx.l ++ [(⟨fn, ft, fu, fd⟩ : FW)]⟩).map rowK))] from by rw [hunk]; exact Ent.cons _ (Ent.cons _ hent))
          show kAt (aput L fn ⟨v, kx.l ++ [(⟨fn, ft, fu, fd⟩ : FW)]⟩) k = knP d (ws.take (i + 1)) k
          rw [kAt_put, htk, knP_snoc, hkn, ← i3 k]
          split
          · rename_i e
            subst e
            rw [hold]
            simp
          · rename_i e
            simp [e]
      | false =>
        rw [hkn] at hK
        refine a_ix hT _ rfl rfl rfl rfl rfl rfl (by first | omega | assumption) (by first | assumption | rfl) ?_
        refine a_new hT hZ 25 rfl rfl rfl rfl fun g2 => ?_
        refine a_call hT rfl rfl rfl (by kernel_rfl) hK [] [] rfl rfl ?_
        rintro _ _ ⟨rfl, rfl⟩
        refine a_f hT rfl rfl rfl ?_
        refine a_draw hT [] true [(0, false), (1, false), (2, false), (3, false), (4, false), (5, false), (6, false), (7, false), (8, false), (9, true)] rfl rfl (by kernel_rfl) (by kernel_rfl) rfl ?_
        refine a_ix hT _ rfl rfl rfl rfl rfl rfl (by first | omega | assumption) (by first | assumption | rfl) ?_
        refine a_strP hT (l := raw) rfl rfl rfl rfl rfl rfl rfl ?_
        have hunk : unkP d (ws.take (i + 1)) = unkP d (ws.take i) ++ raw := by rw [htk, unkP_snoc, hkn]; simp
        have hul := unkP_len d ws (i + 1)
        rw [hunk, List.length_append] at hul
        refine a_bin hT _ rfl rfl rfl (by decide) rfl rfl (fun w => bin_cat (by show (mkS (unkP d (ws.take i))).size + (mkS raw).size ≤ _; rw [mkS_size, mkS_size]; omega) w) ?_
        refine a_next hT (i + 1, L) [22, 23, 24] rfl rfl ⟨⟨by show i + 1 ≤ ws.length; omega, fun k => ?_⟩, by show ws.length - (i + 1) < ws.length - i; omega⟩ ⟨rfl, rfl, rfl, rfl, rfl, rfl, rfl, rfl, by show Value.int .i64 _ = Value.int .i64 _; rw [hw], trivial⟩ rfl ⟨⟨rfl, rfl, ⟨rfl, rfl, by show Value.string _ = Value.string _; rw [hunk, ← mkS_app]; rfl, trivial⟩⟩, ⟨rfl, rfl⟩, rfl, trivial⟩
        show kAt L k = knP d (ws.take (i + 1)) k
        rw [htk, knP_snoc, hkn, ← i3 k]
        simp
    · refine a_f hT rfl rfl (decide_eq_false (by show ¬ (i : Int) < (ws.length : Int); omega)) ?_
      have hi : i = ws.length := by omega
      subst hi
      rw [List.take_length] at i3 ⊢
      refine a_freezeM 23 24 (kv := kI) (vf := KX.v) (df := fun x => x.l.map fwD) L rfl rfl ?_
      refine a_nilrowB 22 1 40 99 2 rfl rfl rfl ?_
      have hlf : (d.fs.map eF).length = d.fs.length := List.length_map _
      have hdl := hd.len
      generalize hkn : knP d ws = kn at hm i3
      have hm : M = (fldsP kn d.fs).map fun fs => .msg t fs (mkS (unkP d ws)) := by rw [hm]; show ((fldsP (knP d ws) d.fs).map _) = _; rw [hkn]
      have hkl : ∀ k, (kn k).length ≤ 4096 := fun k => by rw [← hkn]; have := knP_len d ws ws.length k; rw [List.take_length] at this; omega
      have hkd : ∀ k, ∀ x ∈ kn k, x.data.length ≤ 4096 := fun k x hx => by
        rw [← hkn] at hx
        unfold knP at hx
        obtain ⟨y, hy, rfl⟩ := List.mem_map.1 (List.mem_filter.1 hx).1
        have := hw2 y hy
        omega
      refine a_loop hT [3, 4, 14, 15, 77, 78, 79] (fun x : Nat × List VF × Value => [.v (kI dep) 0, .d (.p (schD s)), .v (.pointer (some ⟨g1, 0, none⟩)) 22, .v (.map (some r)) 23, .d (.sl 5 (d.fs.map eF)), .v (kI d.fs.length) 0, .v (kI x.1) 0]) (fun x => [(22, .blk g1 97 [.v (kI t) 0, .row x.2.2 40, .v (.string (mkS (unkP d ws))) 0]), (40, .row x.2.2 99 2 (vfsD x.2.1)), (23, .map r (mapG kI vaKD L))]) (fun x => x.1 ≤ d.fs.length ∧ (fldsP kn (d.fs.drop x.1)).map (x.2.1 ++ ·) = fldsP kn d.fs ∧ x.2.1.length ≤ x.1) (fun x => d.fs.length - x.1) (0, [], .slice none 0 0) [22, 40, 23] rfl rfl ⟨Nat.zero_le _, by simp, Nat.le_refl _⟩ ⟨rfl, rfl, rfl, rfl, rfl, by rw [← hlf]; rfl, rfl, trivial⟩ rfl ⟨⟨rfl, rfl, ⟨rfl, rfl, rfl, trivial⟩⟩, ⟨rfl, rfl, rfl, rfl⟩, ⟨rfl, rfl⟩, trivial⟩ ?_
      rintro ⟨i, done, vf⟩ ⟨j2, j3, j4⟩
      dsimp only at j2 j3 j4
      have hw := wN i (by omega)
      rcases Nat.lt_or_ge i d.fs.length with hil | hil
      · have hat : (d.fs.map eF)[(i : Int).toNat]? = some (eF d.fs[i]) := by simp [hil]
        have hmem := List.getElem_mem hil
        have h5 := hd.k5 _ hmem
        have h6 := hd.k6 _ hmem
        have h10 := hd.k10 _ hmem
        rw [drop_at hil] at j3
        generalize d.fs[i] = f at hat hmem h5 h6 h10 j3
        have hO := own_spec (f := f) (l := kn f.num) h10 (by have := hkl f.num; omega)
        have hol : (ownP f (kn f.num)).length ≤ 4096 := by
          unfold ownP
          split
          · exact hkl _
          · simp
        have hod : ∀ x ∈ ownP f (kn f.num), x.data.length ≤ 4096 := by
          unfold ownP
          split
          · exact hkd _
          · rename_i hne
            intro x hx
            simp at hx
            subst hx
            rcases List.eq_nil_or_concat (kn f.num) with e | ⟨l', y, e⟩
            · rw [e] at hne; simp at hne
            · rw [e, List.concat_eq_append]
              simp
              exact hkd f.num y (by rw [e]; simp)
        have j5 : ((valsP f (ownP f (kn f.num))).bind fun l => (fldsP kn (d.fs.drop (i + 1))).map fun q => if keepP f l then VF.mk f.num l :: q else q).map (done ++ ·) = fldsP kn d.fs := j3
        generalize ownP f (kn f.num) = ow at hO hol hod j5
        have how : (ow.map fwD).length = ow.length := List.length_map _
        refine a_t hT rfl rfl (decide_eq_true (by show (i : Int) < (d.fs.length : Int); omega)) ?_
        refine a_ix hT _ rfl rfl rfl rfl rfl rfl (by first | omega | assumption) (by first | assumption | rfl) ?_
        refine a_new hT hZ 25 rfl rfl rfl rfl fun g2 => ?_
        refine a_run hT 1 rfl rfl ?_
        refine a_freezeK 19 25 rfl rfl rfl rfl rfl ?_
        refine a_lookG hT (kv := kI) (va := vaKD) L f.num (aget L f.num) rfl rfl rfl mtW kI_ok zeroW rfl rfl rfl rfl rfl rfl ?_
        refine a_asL 87 (b := .d (.sl 4 ((kAt L f.num).map fwD))) rfl (kAt_le L f.num) ?_
        rw [i3]
        refine a_call hT rfl rfl rfl (by kernel_rfl) hO [] [] rfl rfl ?_
        rintro _ _ ⟨rfl, rfl⟩
        refine a_nilrow 20 41 31 1 rfl rfl ?_
        refine a_loop hT [3, 4, 14, 15, 19, 20, 77, 78, 79, 88, 89, 90] (fun x : Nat × List VL × Value => [.v (kI dep) 0, .d (.p (schD s)), .v (.pointer (some ⟨g1, 0, none⟩)) 22, .v (.map (some r)) 23, .d (.p (eF f)), .row x.2.2 41, .d (.sl 5 (d.fs.map eF)), .v (kI d.fs.length) 0, .v (kI i) 0, .d (.sl 4 (ow.map fwD)), .v (kI ow.length) 0, .v (kI x.1) 0]) (fun x => [(22, .blk g1 97 [.v (kI t) 0, .row vf 40, .v (.string (mkS (unkP d ws))) 0]), (40, .row vf 99 2 (vfsD done)), (23, .map r (mapG kI vaKD L)), (41, .row x.2.2 31 1 (vlsD x.2.1))]) (fun x => x.1 ≤ ow.length ∧ (valsP f (ow.drop x.1)).map (x.2.1 ++ ·) = valsP f ow ∧ x.2.1.length ≤ x.1 * 5000) (fun x => ow.length - x.1) (0, [], .slice none 0 0) [22, 40, 23, 41] rfl rfl ⟨Nat.zero_le _, by simp, by simp⟩ ⟨rfl, rfl, rfl, rfl, rfl, rfl, rfl, rfl, rfl, rfl, by rw [← how]; rfl, rfl, trivial⟩ rfl ⟨⟨rfl, rfl, ⟨rfl, rfl, rfl, trivial⟩⟩, ⟨rfl, rfl, rfl, rfl⟩, ⟨rfl, rfl⟩, ⟨rfl, rfl, rfl, rfl⟩, trivial⟩ ?_
        rintro ⟨j, acc, v20⟩ ⟨l2, l3, l4⟩
        dsimp only at l2 l3 l4
        have hwj := wN j (by omega)
        have hvl := vlsD_len acc
        rcases Nat.lt_or_ge j ow.length with hjl | hjl
        · have hat2 : (ow.map fwD)[(j : Int).toNat]? = some (fwD ow[j]) := by simp [hjl]
          have hxd := hod _ (List.getElem_mem hjl)
          rw [drop_at hjl] at l3
          generalize ow[j] = x at hat2 hxd l3
          have hV := values_spec (s := s) (f := f) (x := x) (d := dep) h10 h5 h6 (by omega)
          have hvn := fun l => valuesP_len (f := f) (x := x) (l := l)
          have l5 : ((valuesP f x).bind fun q => (valsP f (ow.drop (j + 1))).map (q ++ ·)).map (acc ++ ·) = valsP f ow := l3
          generalize valuesP f x = uv at hV hvn l5
          obtain ⟨xn, xt, xu, xd⟩ := x
          refine a_t hT rfl rfl (decide_eq_true (by show (j : Int) < (ow.length : Int); omega)) ?_
          cases uv with
          | none =>
            have hM : M = none := by rw [hm, ← j5, ← l5]; rfl
            subst hM
            refine a_ix hT _ rfl rfl rfl rfl rfl rfl (by first | omega | assumption) (by first | assumption | rfl) ?_
            refine a_new hT hZ 42 rfl rfl rfl rfl fun g3 => ?_
            refine a_call hT rfl rfl rfl (by kernel_rfl) hV [] [] rfl rfl ?_
            rintro _ _ ⟨rfl, rfl⟩
            refine a_t hT rfl rfl rfl ?_
            refine a_ret hT [] rfl rfl rfl rfl rfl rfl ?_
            exact ⟨_, Le.refl _, rfl, rfl⟩
          | some l =>
            have hll : l.length ≤ 4097 := by have := hvn l rfl; omega
            have hvl2 := vlsD_len l
            have l6 : (valsP f (ow.drop (j + 1))).map ((acc ++ l) ++ ·) = valsP f ow := by rw [← l5]; show _ = ((valsP f (ow.drop (j + 1))).map (l ++ ·)).map (acc ++ ·); rw [Option.map_map]; congr 1; funext q; simp
            refine a_ix hT _ rfl rfl rfl rfl rfl rfl (by first | omega | assumption) (by first | assumption | rfl) ?_
            refine a_new hT hZ 42 rfl rfl rfl rfl fun g3 => ?_
            refine a_call hT rfl rfl rfl (by kernel_rfl) hV [] [] rfl rfl ?_
            rintro _ _ ⟨rfl, rfl⟩
            refine a_f hT rfl rfl rfl ?_
            refine a_app hT 41 _ rfl rfl rfl rfl (by kernel_rfl) rfl rfl rfl rfl rfl rfl (by first | (simp; done) | (simp; omega) | (simp; unfold lim; omega) | (simp; assumption)) fun v => ?_
            exact a_next hT (j + 1, acc ++ l, v) [22, 40, 23, 41] rfl rfl ⟨⟨by show j + 1 ≤ ow.length; omega, l6, by show (acc ++ l).length ≤ (j + 1) * 5000; rw [List.length_append]; omega⟩, by show ow.length - (j + 1) < ow.length - j; omega⟩ ⟨rfl, rfl, rfl, rfl, rfl, rfl, rfl, rfl, rfl, rfl, rfl, by show Value.int .i64 _ = Value.int .i64 _; rw [hwj], trivial⟩ rfl ⟨⟨rfl, rfl, ⟨rfl, rfl, rfl, trivial⟩⟩, ⟨rfl, rfl, rfl, rfl⟩, ⟨rfl, rfl⟩, ⟨rfl, rfl, rfl, (vlsD_app acc l).symm⟩, trivial⟩
        · refine a_f hT rfl rfl (decide_eq_false (by show ¬ (j : Int) < (ow.length : Int); omega)) ?_
          rw [List.drop_eq_nil_of_le hjl] at l3
          have l7 : valsP f ow = some acc := by rw [← l3]; simp [valsP]
          rw [l7] at j5
          have j6 : ((fldsP kn (d.fs.drop (i + 1))).map fun q => if keepP f acc then VF.mk f.num acc :: q else q).map (done ++ ·) = fldsP kn d.fs := j5
          have hacc : acc.length ≤ 30000000 := by have : j * 5000 ≤ 4096 * 5000 := Nat.mul_le_mul_right _ (by omega); omega
          refine a_freeze 20 41 rfl rfl rfl rfl ?_
          have hvfl := vfsD_len done
          cases hkp : keepP f acc with
          | false =>
            rw [hkp] at j6
            have j7 : (fldsP kn (d.fs.drop (i + 1))).map (done ++ ·) = fldsP kn d.fs := by rw [← j6]; simp
            cases acc with
            | nil =>
              refine a_gf hT rfl rfl rfl rfl ?_
              refine a_f hT rfl rfl rfl ?_
              exact a_next hT (i + 1, done, vf) [22, 40, 23] rfl rfl ⟨⟨by show i + 1 ≤ d.fs.length; omega, j7, by show done.length ≤ i + 1; omega⟩, by show d.fs.length - (i + 1) < d.fs.length - i; omega⟩ ⟨rfl, rfl, rfl, rfl, rfl, rfl, by show Value.int .i64 _ = Value.int .i64 _; rw [hw], trivial⟩ rfl ⟨⟨rfl, rfl, ⟨rfl, rfl, rfl, trivial⟩⟩, ⟨rfl, rfl, rfl, rfl⟩, ⟨rfl, rfl⟩, trivial⟩
            | cons a0 acc =>
              have hZr := Zero_spec (v := a0)
              refine a_g hT rfl rfl rfl (fun h => ?_) (fun h => ?_)
              · have h := of_decide_eq_true h
                refine a_g hT rfl rfl rfl (fun h1 => ?_) (fun h1 => ?_)
                · refine a_gt hT rfl rfl rfl rfl ?_
                  refine a_t hT rfl rfl rfl ?_
                  refine a_build hT hZ [.v (kI (FDP.num f)) 0, .d (A.Dat.sl 1 (vlsD (Prod.fst (Prod.snd (j, a0 :: acc, v20)))))] rfl rfl rfl rfl rfl rfl ?_
                  refine a_lit hT 41 rfl rfl rfl rfl (by kernel_rfl) rfl rfl rfl rfl fun x41 => ?_
                  refine a_app hT 40 _ rfl rfl rfl rfl (by kernel_rfl) rfl rfl rfl rfl rfl rfl (by first | (simp; done) | (simp; omega) | (simp; unfold lim; omega) | (simp; assumption)) fun v => ?_
                  exfalso; unfold keepP at hkp; simp_all
                · refine a_g hT rfl rfl rfl (fun h2 => ?_) (fun h2 => ?_)
                  · have h2 := eq_of_beq h2
                    (exfalso; first | omega | contradiction)
                  · have h2 := ne_of_beq_false h2
                    refine a_ix hT _ rfl rfl rfl rfl rfl rfl (by first | omega | assumption) (by first | assumption | rfl) ?_
                    refine a_call hT rfl rfl rfl (by kernel_rfl) hZr [] [] rfl rfl ?_
                    rintro _ _ ⟨rfl, rfl⟩
                    refine a_if hT rfl rfl (fun h3 => ?_) (fun h3 => ?_)
                    · simp at h3
                      refine a_build hT hZ [.v (kI (FDP.num f)) 0, .d (A.Dat.sl 1 (vlsD (Prod.fst (Prod.snd (j, a0 :: acc, v20)))))] rfl rfl rfl rfl rfl rfl ?_
                      refine a_lit hT 41 rfl rfl rfl rfl (by kernel_rfl) rfl rfl rfl rfl fun x41 => ?_
                      refine a_app hT 40 _ rfl rfl rfl rfl (by kernel_rfl) rfl rfl rfl rfl rfl rfl (by first | (simp; done) | (simp; omega) | (simp; unfold lim; omega) | (simp; assumption)) fun v => ?_
                      exfalso; unfold keepP at hkp; simp_all
                    · simp at h3
                      exact a_next hT (i + 1, done, vf) [22, 40, 23] rfl rfl ⟨⟨by show i + 1 ≤ d.fs.length; omega, j7, by show done.length ≤ i + 1; omega⟩, by show d.fs.length - (i + 1) < d.fs.length - i; omega⟩ ⟨rfl, rfl, rfl, rfl, rfl, rfl, by show Value.int .i64 _ = Value.int .i64 _; rw [hw], trivial⟩ rfl ⟨⟨rfl, rfl, ⟨rfl, rfl, rfl, trivial⟩⟩, ⟨rfl, rfl, rfl, rfl⟩, ⟨rfl, rfl⟩, trivial⟩
              · have h := of_decide_eq_false h
                refine a_f hT rfl rfl rfl ?_
                exact absurd (show ((vlsD (a0 :: acc)).length : Int) > 0 by rw [vlsD_len]; simp only [List.length_cons]; omega) h
          | true =>
            rw [hkp] at j6
            have j7 : (fldsP kn (d.fs.drop (i + 1))).map ((done ++ [VF.mk f.num acc]) ++ ·) = fldsP kn d.fs := by rw [← j6, Option.map_map]; congr 1; funext q; simp
            cases acc with
            | nil => cases hkp
            | cons a0 acc =>
              have hZr := Zero_spec (v := a0)
              refine a_g hT rfl rfl rfl (fun h => ?_) (fun h => ?_)
              · have h := of_decide_eq_true h
                refine a_g hT rfl rfl rfl (fun h1 => ?_) (fun h1 => ?_)
                · refine a_gt hT rfl rfl rfl rfl ?_
                  refine a_t hT rfl rfl rfl ?_
                  refine a_build hT hZ [.v (kI (FDP.num f)) 0, .d (A.Dat.sl 1 (vlsD (Prod.fst (Prod.snd (j, a0 :: acc, v20)))))] rfl rfl rfl rfl rfl rfl ?_
                  refine a_lit hT 41 rfl rfl rfl rfl (by kernel_rfl) rfl rfl rfl rfl fun x41 => ?_
                  refine a_app hT 40 _ rfl rfl rfl rfl (by kernel_rfl) rfl rfl rfl rfl rfl rfl (by first | (simp; done) | (simp; omega) | (simp; unfold lim; omega) | (simp; assumption)) fun v => ?_
                  exact a_next hT (i + 1, done ++ [VF.mk f.num (a0 :: acc)], v) [22, 40, 23] rfl rfl ⟨⟨by show i + 1 ≤ d.fs.length; omega, j7, by show (done ++ [_]).length ≤ i + 1; rw [List.length_append]; simp only [List.length_cons, List.length_nil]; omega⟩, by show d.fs.length - (i + 1) < d.fs.length - i; omega⟩ ⟨rfl, rfl, rfl, rfl, rfl, rfl, by show Value.int .i64 _ = Value.int .i64 _; rw [hw], trivial⟩ rfl ⟨⟨rfl, rfl, ⟨rfl, rfl, rfl, trivial⟩⟩, ⟨rfl, rfl, rfl, (vfsD_app done [VF.mk f.num (a0 :: acc)]).symm⟩, ⟨rfl, rfl⟩, trivial⟩
                · refine a_g hT rfl rfl rfl (fun h2 => ?_) (fun h2 => ?_)
                  · have h2 := eq_of_beq h2
                    (exfalso; first | omega | contradiction)
                  · have h2 := ne_of_beq_false h2
                    refine a_ix hT _ rfl rfl rfl rfl rfl rfl (by first | omega | assumption) (by first | assumption | rfl) ?_
                    refine a_call hT rfl rfl rfl (by kernel_rfl) hZr [] [] rfl rfl ?_
                    rintro _ _ ⟨rfl, rfl⟩
                    refine a_if hT rfl rfl (fun h3 => ?_) (fun h3 => ?_)
                    · simp at h3
                      refine a_build hT hZ [.v (kI (FDP.num f)) 0, .d (A.Dat.sl 1 (vlsD (Prod.fst (Prod.snd (j, a0 :: acc, v20)))))] rfl rfl rfl rfl rfl rfl ?_
                      refine a_lit hT 41 rfl rfl rfl rfl (by kernel_rfl) rfl rfl rfl rfl fun x41 => ?_
                      refine a_app hT 40 _ rfl rfl rfl rfl (by kernel_rfl) rfl rfl rfl rfl rfl rfl (by first | (simp; done) | (simp; omega) | (simp; unfold lim; omega) | (simp; assumption)) fun v => ?_
                      exact a_next hT (i + 1, done ++ [VF.mk f.num (a0 :: acc)], v) [22, 40, 23] rfl rfl ⟨⟨by show i + 1 ≤ d.fs.length; omega, j7, by show (done ++ [_]).length ≤ i + 1; rw [List.length_append]; simp only [List.length_cons, List.length_nil]; omega⟩, by show d.fs.length - (i + 1) < d.fs.length - i; omega⟩ ⟨rfl, rfl, rfl, rfl, rfl, rfl, by show Value.int .i64 _ = Value.int .i64 _; rw [hw], trivial⟩ rfl ⟨⟨rfl, rfl, ⟨rfl, rfl, rfl, trivial⟩⟩, ⟨rfl, rfl, rfl, (vfsD_app done [VF.mk f.num (a0 :: acc)]).symm⟩, ⟨rfl, rfl⟩, trivial⟩
                    · simp at h3
                      exfalso; unfold keepP at hkp; simp_all
              · have h := of_decide_eq_false h
                refine a_f hT rfl rfl rfl ?_
                exact absurd (show ((vlsD (a0 :: acc)).length : Int) > 0 by rw [vlsD_len]; simp only [List.length_cons]; omega) h
      · refine a_f hT rfl rfl (decide_eq_false (by show ¬ (i : Int) < (d.fs.length : Int); omega)) ?_
        rw [List.drop_eq_nil_of_le hil] at j3
        have hM : M = some (.msg t done (mkS (unkP d ws))) := by rw [hm, ← j3]; simp [fldsP]
        subst hM
        refine a_freezeB 22 1 40 rfl rfl rfl rfl rfl ?_
        refine a_ret hT [] rfl rfl rfl rfl rfl rfl ?_
        exact ⟨_, Le.tup (.cons (le_ifcA rfl) (.cons (Le.refl _) .nil)), rfl, rfl⟩
end Go.Proofs.YtjcolfogmmjaoaaGreatDoor
end

section
set_option linter.unusedVariables false
set_option linter.unusedSimpArgs false
set_option maxRecDepth 100000
set_option maxHeartbeats 1000000
namespace Go.Proofs.YtjcolfogmmjaoaaGreatDoor
open V A
theorem A.FSpec.nilrow {P : Program} {g : FuncId} {e k hh kn : Nat} {args : List AV} {cs : List Chunk} {R : AV → List Chunk → Prop} (h : FSpec P g (.row (.slice none 0 0) kn :: args) (.row (.slice none 0 0) e k [] :: cs) R) : FSpec P g (.v (.slice none 0 0) hh :: args) cs R :=
  ⟨fun X S w xs h1 h2 h3 h4 => h.out X S w xs h1 h2 ⟨no, S, fun b => ⟨.inr, fun h => h.elim (fun h => h.elim) id⟩, fun _ h => h.elim, row_nil e k, h3⟩ (by
    unfold Reps at h4 ⊢
    obtain ⟨x, r, rfl, h5, h6⟩ := h4
    exact ⟨x, r, rfl, le_nilrow _ _ _ h5, h6⟩)⟩
def vb (n : Nat) : List UInt8 := if 127 < n then UInt8.ofNat (n % 128 + 128) :: vb (n / 128) else [UInt8.ofNat n]
termination_by n
decreasing_by omega
theorem vb_len : ∀ (k n : Nat), n < 2 ^ (7 * k + 7) → (vb n).length ≤ k + 1 := by
  intro k
  induction k with
  | zero =>
    intro n h
    unfold vb
    rw [if_neg (by have : (2 : Nat) ^ (7 * 0 + 7) = 128 := rfl; omega)]
    simp
  | succ k ih =>
    intro n h
    unfold vb
    split
    · have := ih (n / 128) (by rw [Nat.div_lt_iff_lt_mul (by decide)]; rw [show 7 * (k + 1) + 7 = (7 * k + 7) + 7 by omega, Nat.pow_add] at h; exact h)
      simp only [List.length_cons]
      omega
    · simp
theorem vb_len10 {n : Nat} (h : n < 18446744073709551616) : (vb n).length ≤ 10 := vb_len 9 n (Nat.lt_of_lt_of_le h (by decide))
theorem byte_or {n : Nat} : IntKind.u8.wrap ↑(BitVec.toNat (BitVec.ofInt (IntKind.bits .u8) (IntKind.u8.wrap (n : Int)) ||| BitVec.ofInt (IntKind.bits .u8) 128)) = (((UInt8.ofNat (n % 128 + 128)).toNat : Nat) : Int) := by
  have h1 : IntKind.u8.wrap (n : Int) = ((n % 256 : Nat) : Int) := by
    unfold IntKind.wrap
    simp [IntKind.bits, IntKind.signed]
  rw [h1]
  have h2 : ∀ x : Fin 256, IntKind.u8.wrap ↑(BitVec.toNat (BitVec.ofInt 8 ((x.val : Nat) : Int) ||| BitVec.ofInt 8 128)) = ((x.val % 128 + 128 : Nat) : Int) := by decide +kernel
  have := h2 ⟨n % 256, by omega⟩
  show IntKind.u8.wrap ↑(BitVec.toNat (BitVec.ofInt 8 ((n % 256 : Nat) : Int) ||| BitVec.ofInt 8 128)) = _
  rw [this]
  have : (UInt8.ofNat (n % 128 + 128)).toNat = n % 128 + 128 := by simp [UInt8.toNat_ofNat']; omega
  rw [this]
  have : n % 256 % 128 = n % 128 := by omega
  rw [this]
theorem byte_lo {n : Nat} (h : ¬ 127 < n) : IntKind.u8.wrap (n : Int) = (((UInt8.ofNat n).toNat : Nat) : Int) := by
  rw [wrapN8 (by omega)]
  have : (UInt8.ofNat n).toNat = n := by simp [UInt8.toNat_ofNat']; omega
  rw [this]
theorem shr7 (n : Nat) : Int.fdiv (n : Int) (2 ^ min (Int.toNat 7) (IntKind.bits .u64)) = ((n / 128 : Nat) : Int) := by
  show Int.fdiv (n : Int) 128 = _
  rw [Int.fdiv_eq_ediv_of_nonneg _ (by decide)]
  omega
theorem RVarint_spec {l : List UInt8} {x : Value} {n : Nat} (hn : n < 18446744073709551616) (hl : l.length ≤ 1000000000) : FSpec Tryz.prog 52 [.row x 1, .v (kU n) 0] [.row x 5 1 (l.map eB)] fun a cs => ∃ v, a = .row v 1 ∧ cs = [.row v 5 1 ((l ++ vb n).map eB)] := by
  have hlim : lim = 4294967296 := rfl
  refine a_enter hT [.row x 1, .v (kU n) 0] [1] Tryz.func52 rfl rfl rfl ⟨rfl, rfl, trivial⟩ fun c' => ?_
  refine a_loop hT [0, 1] (fun y : List UInt8 × Nat × Value => [.row y.2.2 1, .v (kU y.2.1) 0]) (fun y => [(1, .row y.2.2 5 1 (y.1.map eB))]) (fun y => y.1 ++ vb y.2.1 = l ++ vb n ∧ y.2.1 < 18446744073709551616) (fun y => y.2.1) (l, n, x) [1] rfl rfl ⟨rfl, hn⟩ ⟨rfl, rfl, trivial⟩ rfl ⟨⟨rfl, rfl, rfl, rfl⟩, trivial⟩ ?_
  rintro ⟨acc, m, v⟩ ⟨i1, i2⟩
  dsimp only at i1 i2
  have hal : acc.length ≤ l.length + 10 := by
    have h1 := congrArg List.length i1
    have h2 := vb_len10 hn
    rw [List.length_append, List.length_append] at h1
    omega
  have hvm : vb m = vb m := rfl
  conv at hvm => rhs; unfold vb
  by_cases hm : 127 < m
  · rw [if_pos hm] at hvm
    refine a_t hT rfl rfl (decide_eq_true (by show (m : Int) > 127; omega)) ?_
    refine a_bin hT _ rfl rfl rfl (by decide) rfl rfl (fun w => (bin_or w)) ?_
    refine a_lit hT 20 rfl rfl rfl rfl (by kernel_rfl) rfl rfl rfl rfl fun x20 => ?_
    refine a_app hT 1 _ rfl rfl rfl rfl (by kernel_rfl) rfl rfl rfl rfl rfl rfl (by first | (simp; done) | (simp; omega) | (simp; unfold lim; omega) | (simp; assumption)) fun v1 => ?_
    refine a_bin hT _ rfl rfl rfl (by decide) rfl rfl (fun w => (bin_shr (by omega) w)) ?_
    exact a_next hT (acc ++ [UInt8.ofNat (m % 128 + 128)], m / 128, v1) [1] rfl rfl ⟨⟨by rw [← i1, hvm]; simp, by show m / 128 < _; omega⟩, by show m / 128 < m; omega⟩ ⟨rfl, congrArg (Value.int .u64) (shr7 m), trivial⟩ rfl ⟨⟨rfl, rfl, rfl, by show _ = (acc ++ [_]).map eB; rw [List.map_append]; show _ ++ [[A.Dat.v (.int .u8 _)]] = _ ++ [[A.Dat.v (.int .u8 _)]]; rw [byte_or]⟩, trivial⟩
  · rw [if_neg hm] at hvm
    refine a_f hT rfl rfl (decide_eq_false (by show ¬ (m : Int) > 127; omega)) ?_
    refine a_lit hT 20 rfl rfl rfl rfl (by kernel_rfl) rfl rfl rfl rfl fun x20 => ?_
    refine a_app hT 1 _ rfl rfl rfl rfl (by kernel_rfl) rfl rfl rfl rfl rfl rfl (by first | (simp; done) | (simp; omega) | (simp; unfold lim; omega) | (simp; assumption)) fun v1 => ?_
    refine a_ret hT [1] rfl rfl rfl rfl rfl rfl ?_
    exact ⟨_, rfl, by rw [← i1, hvm, List.map_append]; show [Chunk.row _ _ _ (_ ++ [[A.Dat.v (.int .u8 _)]])] = [Chunk.row _ _ _ (_ ++ [[A.Dat.v (.int .u8 _)]])]; rw [byte_lo hm]⟩
theorem RVarint0_spec {hh n : Nat} (hn : n < 18446744073709551616) : FSpec Tryz.prog 52 [.v (.slice none 0 0) hh, .v (kU n) 0] [] fun a cs => ∃ v, a = .row v 1 ∧ cs = [.row v 5 1 ((vb n).map eB)] :=
  (RVarint_spec (l := []) (x := .slice none 0 0) hn (by simp)).nilrow
def rfA (num typ n : Nat) (data : List UInt8) : AV := .agg [.v (kI num) 0, .v (kI typ) 0, .v (kU n) 0, .d (A.bytesD data)]
theorem RBytes0_spec {num n : Nat} {data : List UInt8} (hnum : num ≤ 536870911) (hn : n < 18446744073709551616) : FSpec Tryz.prog 32 [rfA num 0 n data] [] fun a cs => a = .d (A.bytesD (vb (8 * num) ++ vb n)) ∧ cs = [] := by
  have key : FSpec Tryz.prog 32 [rfA num 0 n data] [] fun a cs => ∃ v, a = .row v 1 ∧ cs = [.row v 5 1 ((vb (8 * num) ++ vb n).map eB)] := by
    have hw : IntKind.u64.wrap (IntKind.i64.wrap (IntKind.i64.wrap (8 * (num : Int)) + 0)) = ((8 * num : Nat) : Int) := by rw [w64 (x := 8 * (num : Int)) (by omega) (by omega), w64 (by omega) (by omega), wrapU (by omega) (by omega)]; omega
    have hV := RVarint0_spec (hh := 0) (n := 8 * num) (by omega)
    have hV : FSpec Tryz.prog 52 [.v (.slice none 0 0) 0, .v (.int .u64 (IntKind.u64.wrap (IntKind.i64.wrap (IntKind.i64.wrap (8 * (num : Int)) + 0)))) 0] [] fun a cs => ∃ v, a = .row v 1 ∧ cs = [.row v 5 1 ((vb (8 * num)).map eB)] := by rw [hw]; exact hV
    refine a_enter hT [rfA num 0 n data] [] Tryz.func32 rfl rfl rfl ⟨Fit.refl _, trivial⟩ fun c' => ?_
    refine a_box hT 20 rfl rfl rfl rfl fun g => ?_
    refine a_call hT rfl rfl rfl (by kernel_rfl) hV [] [1] rfl rfl ?_
    rintro _ _ ⟨v, rfl, rfl⟩
    have hV2 := RVarint_spec (l := vb (8 * num)) (x := v) (n := n) hn (by have := vb_len10 (n := 8 * num) (by omega); omega)
    refine a_t hT rfl rfl rfl ?_
    refine a_call hT rfl rfl rfl (by kernel_rfl) hV2 [1] [1] rfl rfl ?_
    rintro _ _ ⟨v1, rfl, rfl⟩
    refine a_ret hT [1] rfl rfl rfl rfl rfl rfl ?_
    exact ⟨_, rfl, rfl⟩
  exact key.freeze
theorem RBytes2_spec {num : Nat} {data : List UInt8} (hnum : num ≤ 536870911) (hd : data.length ≤ 100000000) : FSpec Tryz.prog 32 [rfA num 2 0 data] [] fun a cs => ∃ v, a = .row v 1 ∧ cs = [.row v 5 1 ((vb (8 * num + 2) ++ vb data.length ++ data).map eB)] := by
  have hlim : lim = 4294967296 := rfl
  have hw : IntKind.u64.wrap (IntKind.i64.wrap (IntKind.i64.wrap (8 * (num : Int)) + 2)) = ((8 * num + 2 : Nat) : Int) := by rw [w64 (x := 8 * (num : Int)) (by omega) (by omega), w64 (by omega) (by omega), wrapU (by omega) (by omega)]; omega
  have hV := RVarint0_spec (hh := 0) (n := 8 * num + 2) (by omega)
  have hV : FSpec Tryz.prog 52 [.v (.slice none 0 0) 0, .v (.int .u64 (IntKind.u64.wrap (IntKind.i64.wrap (IntKind.i64.wrap (8 * (num : Int)) + 2)))) 0] [] fun a cs => ∃ v, a = .row v 1 ∧ cs = [.row v 5 1 ((vb (8 * num + 2)).map eB)] := by rw [hw]; exact hV
  refine a_enter hT [rfA num 2 0 data] [] Tryz.func32 rfl rfl rfl ⟨Fit.refl _, trivial⟩ fun c' => ?_
  refine a_box hT 20 rfl rfl rfl rfl fun g => ?_
  refine a_call hT rfl rfl rfl (by kernel_rfl) hV [] [1] rfl rfl ?_
  rintro _ _ ⟨v, rfl, rfl⟩
  have hl1 := vb_len10 (n := 8 * num + 2) (by omega)
  have hl2 := vb_len10 (n := data.length) (by omega)
  have hdl := bytesD_len data
  have hV2 := RVarint_spec (l := vb (8 * num + 2)) (x := v) (n := data.length) (by omega) (by omega)
  have hw2 : IntKind.u64.wrap ((data.map eB).length : Int) = ((data.length : Nat) : Int) := by rw [hdl]; exact wrapU (by omega) (by omega)
  have hV2 : FSpec Tryz.prog 52 [.row v 1, .v (.int .u64 (IntKind.u64.wrap ((data.map eB).length : Int))) 0] [.row v 5 1 ((vb (8 * num + 2)).map eB)] fun a cs => ∃ v, a = .row v 1 ∧ cs = [.row v 5 1 ((vb (8 * num + 2) ++ vb data.length).map eB)] := by rw [hw2]; exact hV2
  refine a_f hT rfl rfl rfl ?_
  refine a_f hT rfl rfl rfl ?_
  refine a_f hT rfl rfl rfl ?_
  refine a_draw hT [1] false [(0, false), (1, false), (2, false), (3, false), (4, false), (6, false), (7, false), (5, true), (8, true), (9, true)] rfl rfl (by kernel_rfl) (by kernel_rfl) rfl ?_
  refine a_call hT rfl rfl rfl (by kernel_rfl) hV2 [1] [1] rfl rfl ?_
  rintro _ _ ⟨v1, rfl, rfl⟩
  refine a_app hT 1 _ rfl rfl rfl rfl (by kernel_rfl) rfl rfl rfl rfl rfl rfl (by first | (simp; done) | (simp; omega) | (simp; unfold lim; omega) | (simp; assumption)) fun v2 => ?_
  refine a_ret hT [1] rfl rfl rfl rfl rfl rfl ?_
  exact ⟨_, rfl, by rw [← List.map_append]⟩
theorem Decode_spec {ms : List MDP} {d : MDP} {t : Nat} {bs : List UInt8} (hp : Plain0 ⟨ms, [], []⟩) (hf : formedS ms = true) (hs : ms[t]? = some d) (hd : FlatM d) (hl : bs.length ≤ 4096) : FSpec Tryz.prog 15 [schA ⟨ms, [], []⟩, .v (kI t) 0, .d (A.bytesD bs)] [] fun a cs => a = decA (msgP d t bs) ∧ cs = [] := by
  have hF := Formed0_spec hp
  rw [hf] at hF
  have hM := dmsg_spec (s := ⟨ms, [], []⟩) (dep := 1) (bs := bs) hs hd (by decide) hl
  have hlen := bytesD_len bs
  have hml : (ms.map eM).length = ms.length := List.length_map _
  have htl := (List.getElem?_eq_some_iff.1 hs).1
  refine a_enter hT [schA ⟨ms, [], []⟩, .v (kI t) 0, .d (A.bytesD bs)] [] Tryz.func15 rfl rfl rfl ⟨Fit.refl _, rfl, Fit.refl _, trivial⟩ fun c' => ?_
  generalize msgP d t bs = M at hM ⊢
  cases M with
  | none =>
    refine a_box hT 20 rfl rfl rfl rfl fun g => ?_
    refine a_call hT rfl rfl rfl (by kernel_rfl) hF [] [] rfl rfl ?_
    rintro _ _ ⟨rfl, rfl⟩
    refine a_gf hT rfl rfl rfl rfl ?_
    refine a_gf hT rfl rfl rfl rfl ?_
    refine a_if hT rfl rfl (fun h => ?_) (fun h => ?_)
    · have h := of_decide_eq_true h
      refine a_ret hT [] rfl rfl rfl rfl rfl rfl ?_
      exact absurd (show (t : Int) ≥ ((ms.map eM).length : Int) from h) (by rw [hml]; omega)
    · have h := of_decide_eq_false h
      refine a_if hT rfl rfl (fun h1 => ?_) (fun h1 => ?_)
      · have h1 := of_decide_eq_true h1
        (exfalso; first | omega | contradiction)
      · have h1 := of_decide_eq_false h1
        refine a_call hT rfl rfl rfl (by kernel_rfl) hM [] [] rfl rfl ?_
        rintro _ _ ⟨rfl, rfl⟩
        refine a_ret hT [] rfl rfl rfl rfl rfl rfl ?_
        first | exact ⟨rfl, rfl⟩ | rfl
  | some m =>
    refine a_box hT 20 rfl rfl rfl rfl fun g => ?_
    refine a_call hT rfl rfl rfl (by kernel_rfl) hF [] [] rfl rfl ?_
    rintro _ _ ⟨rfl, rfl⟩
    refine a_gf hT rfl rfl rfl rfl ?_
    refine a_gf hT rfl rfl rfl rfl ?_
    refine a_if hT rfl rfl (fun h => ?_) (fun h => ?_)
    · have h := of_decide_eq_true h
      refine a_ret hT [] rfl rfl rfl rfl rfl rfl ?_
      exact absurd (show (t : Int) ≥ ((ms.map eM).length : Int) from h) (by rw [hml]; omega)
    · have h := of_decide_eq_false h
      refine a_if hT rfl rfl (fun h1 => ?_) (fun h1 => ?_)
      · have h1 := of_decide_eq_true h1
        (exfalso; first | omega | contradiction)
      · have h1 := of_decide_eq_false h1
        refine a_call hT rfl rfl rfl (by kernel_rfl) hM [] [] rfl rfl ?_
        rintro _ _ ⟨rfl, rfl⟩
        refine a_ret hT [] rfl rfl rfl rfl rfl rfl ?_
        first | exact ⟨rfl, rfl⟩ | rfl
end Go.Proofs.YtjcolfogmmjaoaaGreatDoor
end

section
set_option linter.unusedVariables false
set_option linter.unusedSimpArgs false
set_option maxRecDepth 100000
namespace Go.Proofs.YtjcolfogmmjaoaaGreatDoor
open V A
open Go.Shelf
section
variable {P : Program} {n : Nat} {Q : Exit → Act → World → Prop} {c : Ctx} {s : AMS} {f : AEnv} {σ : Store}
theorem frozen_tab {M : Nat → Prop} {w : World} {S1 : Nat → Prop} {g : Nat} {ad : Addr} {vs : List Value} (hM : ¬ M ad.block) (hc : ∀ j v, vs[j]? = some v → w.cell? (ad.add j) = some v) (h1 : ∀ v ∈ vs, v.oneCell' = true) (hne : vs ≠ []) : DRep M w (.p (vs.map .v)) (.pointer (some ad)) := by
  unfold DRep
  refine ⟨ad, rfl, hM, ?_, LRep.mk fun j d hj => ?_⟩
  · cases vs with
    | nil => exact absurd rfl hne
    | cons v vs =>
      have := hc 0 v rfl
      rw [show ad.add 0 = ad by unfold Addr.add; simp] at this
      rcases Nat.lt_or_ge ad.block w.heap.size with h' | h'
      · exact h'
      · simp [World.cell?, Array.getElem?_eq_none h'] at this
  · rw [Nat.zero_add]
    rw [List.getElem?_map] at hj
    cases hv : vs[j]? with
    | none => rw [hv] at hj; cases hj
    | some v =>
      rw [hv] at hj
      cases hj
      exact ⟨v, hc j v hv, by unfold DRep; exact ⟨rfl, h1 v (List.mem_of_getElem? hv)⟩⟩
theorem a_tab3 (t k : Nat) {hh b o : Nat} (hst : s.still = true) (ht : getA f t = .v (.pointer (some ⟨u8g 3, o, none⟩)) hh) (ho : o = b) (hb : b < 256) (hl : A.look σ k = some u8C) (hk : DenA c P n Q s ((t, .d (.p [.v (.int .u8 (Lib.firstT b))])) :: f) σ) : DenA c P n Q s f σ := by
  subst ho
  refine a_ghost hst (fun Y S w fc hdY hh he => ⟨S, hh, fun t' => ?_, fun b h => h⟩) hk
  obtain ⟨S1, S2, hS, hd, hc, hr⟩ := hh.take hl
  have hc : u8A.h (or2 S Y) S1 w := hc
  rw [getA_cons]
  split
  · rename_i e
    subst e
    have h1 := he t'
    rw [ht] at h1
    rw [rep_v h1]
    unfold Rep
    refine frozen_tab (S1 := S1) (g := 0) (vs := [.int .u8 (Lib.firstT o)]) hc.2.2.1 (fun j v hj => ?_) (fun v hv => by simp at hv; subst hv; rfl) (by simp)
    cases j with
    | zero =>
      cases hj
      have := hc.2.1.1 o hb
      rw [show (⟨u8g 3, o, none⟩ : Addr).add 0 = ⟨u8g 3, o, none⟩ by unfold Addr.add; simp]
      exact this
    | succ j => simp at hj
  · exact he t'
theorem a_tab4 (t k : Nat) {hh i o : Nat} (hst : s.still = true) (ht : getA f t = .v (.pointer (some ⟨u8g 4, o, none⟩)) hh) (ho : o = 2 * i) (hb : i < 16) (hl : A.look σ k = some u8C) (hk : DenA c P n Q s ((t, .d (.p [.v (.int .u8 (Lib.accLo i)), .v (.int .u8 (Lib.accHi i))])) :: f) σ) : DenA c P n Q s f σ := by
  subst ho
  refine a_ghost hst (fun Y S w fc hdY hh he => ⟨S, hh, fun t' => ?_, fun b h => h⟩) hk
  obtain ⟨S1, S2, hS, hd, hc, hr⟩ := hh.take hl
  have hc : u8A.h (or2 S Y) S1 w := hc
  rw [getA_cons]
  split
  · rename_i e
    subst e
    have h1 := he t'
    rw [ht] at h1
    rw [rep_v h1]
    unfold Rep
    refine frozen_tab (S1 := S1) (g := 0) (vs := [.int .u8 (Lib.accLo i), .int .u8 (Lib.accHi i)]) hc.2.2.2 (fun j v hj => ?_) (fun v hv => by simp at hv; rcases hv with rfl | rfl <;> rfl) (by simp)
    have h2 := hc.2.1.2 i hb
    match j, hj with
    | 0, hj =>
      cases hj
      rw [show (⟨u8g 4, 2 * i, none⟩ : Addr).add 0 = ⟨u8g 4, 2 * i, none⟩ by unfold Addr.add; simp]
      exact h2.1
    | 1, hj =>
      cases hj
      rw [show (⟨u8g 4, 2 * i, none⟩ : Addr).add 1 = ⟨u8g 4, 2 * i + 1, none⟩ by unfold Addr.add; simp]
      exact h2.2
    | j + 2, hj => simp at hj
  · exact he t'
end
theorem bin_shlB {t : TypeId} {b : UInt8} {i : Int} (h0 : 0 ≤ i) (h1 : i ≤ 56) (w : World) : (binOp .shl t (.int .u64 (IntKind.u64.wrap (b.toNat : Int))) (.int .u64 i)).run Tryz.prog w = .ok (.int .u64 ((b.toNat * 2 ^ i.toNat : Nat) : Int)) w := by
  have hb := b.toNat_lt
  rw [bin_shl h0 w]
  have hm : min i.toNat (IntKind.bits .u64) = i.toNat := Nat.min_eq_left (by show i.toNat ≤ 64; omega)
  have hp : 2 ^ i.toNat ≤ 2 ^ 56 := Nat.pow_le_pow_right (by decide) (by omega)
  have hx : b.toNat * 2 ^ i.toNat < 18446744073709551616 := by
    have : b.toNat * 2 ^ i.toNat ≤ 255 * 2 ^ 56 := Nat.mul_le_mul (by omega) hp
    omega
  rw [hm, wrapN64 (by omega), show (b.toNat : Int) * 2 ^ i.toNat = ((b.toNat * 2 ^ i.toNat : Nat) : Int) by push_cast; rfl, wrapN64 hx]
theorem bin_orB {t : TypeId} {a b k : Nat} (hk : k ≤ 56) (ha : a < 2 ^ k) (hb : b < 256) (w : World) : (binOp .or t (.int .u64 (a : Int)) (.int .u64 ((b * 2 ^ k : Nat) : Int))).run Tryz.prog w = .ok (.int .u64 ((a + b * 2 ^ k : Nat) : Int)) w := by
  rw [bin_or w]
  have hp : 2 ^ k ≤ 2 ^ 56 := Nat.pow_le_pow_right (by decide) hk
  have hx : b * 2 ^ k ≤ 255 * 2 ^ 56 := Nat.mul_le_mul (by omega) hp
  have := or64 (a := a) (b := b * 2 ^ k) (by omega) (by omega)
  rw [show IntKind.bits IntKind.u64 = 64 from rfl] at *
  rw [this, or_add ha]
theorem word_spec {l : List UInt8} (h : 8 ≤ l.length) : FSpec Tryz.prog 149 [.d (A.bytesD l)] [] fun a cs => a = .v (kU (Lib.leNat (l.take 8))) 0 ∧ cs = [] := by
  match l, h with
  | b0 :: b1 :: b2 :: b3 :: b4 :: b5 :: b6 :: b7 :: tl, _ =>
  have h0 := b0.toNat_lt
  have h1 := b1.toNat_lt
  have h2 := b2.toNat_lt
  have h3 := b3.toNat_lt
  have h4 := b4.toNat_lt
  have h5 := b5.toNat_lt
  have h6 := b6.toNat_lt
  have h7 := b7.toNat_lt
  refine a_enter hT [.d (A.bytesD (b0 :: b1 :: b2 :: b3 :: b4 :: b5 :: b6 :: b7 :: tl))] [] Tryz.func149 rfl rfl rfl ⟨Fit.refl _, trivial⟩ fun c' => ?_
  refine a_f hT rfl rfl rfl ?_
  refine a_draw hT [] false [(0, false), (4, false), (10, false), (16, false), (22, false), (28, false), (34, false), (40, false), (1, false), (5, false), (11, false), (17, false), (23, false), (29, false), (35, false), (41, false), (2, false), (6, false), (12, false), (18, false), (24, false), (30, false), (36, false), (42, false), (3, false), (7, false), (13, false), (19, false), (25, false), (31, false), (37, false), (43, false), (8, false), (14, false), (20, false), (26, false), (32, false), (38, false), (44, false), (9, false), (15, false), (21, false), (27, false), (33, false), (39, false), (45, false), (46, false)] rfl rfl (by kernel_rfl) (by kernel_rfl) rfl ?_
  refine a_ix hT (eB b0) rfl rfl rfl rfl rfl rfl (by decide) rfl ?_
  refine a_ix hT (eB b1) rfl rfl rfl rfl rfl rfl (by decide) rfl ?_
  refine a_ix hT (eB b2) rfl rfl rfl rfl rfl rfl (by decide) rfl ?_
  refine a_ix hT (eB b3) rfl rfl rfl rfl rfl rfl (by decide) rfl ?_
  refine a_ix hT (eB b4) rfl rfl rfl rfl rfl rfl (by decide) rfl ?_
  refine a_ix hT (eB b5) rfl rfl rfl rfl rfl rfl (by decide) rfl ?_
  refine a_ix hT (eB b6) rfl rfl rfl rfl rfl rfl (by decide) rfl ?_
  refine a_ix hT (eB b7) rfl rfl rfl rfl rfl rfl (by decide) rfl ?_
  refine a_bin hT _ rfl rfl rfl (by decide) rfl rfl (fun w => bin_shlB (b := b1) (by decide) (by decide) w) ?_
  refine a_bin hT _ rfl rfl rfl (by decide) rfl rfl (fun w => bin_shlB (b := b2) (by decide) (by decide) w) ?_
  refine a_bin hT _ rfl rfl rfl (by decide) rfl rfl (fun w => bin_shlB (b := b3) (by decide) (by decide) w) ?_
  refine a_bin hT _ rfl rfl rfl (by decide) rfl rfl (fun w => bin_shlB (b := b4) (by decide) (by decide) w) ?_
  refine a_bin hT _ rfl rfl rfl (by decide) rfl rfl (fun w => bin_shlB (b := b5) (by decide) (by decide) w) ?_
  refine a_bin hT _ rfl rfl rfl (by decide) rfl rfl (fun w => bin_shlB (b := b6) (by decide) (by decide) w) ?_
  refine a_bin hT _ rfl rfl rfl (by decide) rfl rfl (fun w => bin_shlB (b := b7) (by decide) (by decide) w) ?_
  refine a_bin hT (.int .u64 ((b0.toNat + b1.toNat * 2 ^ 8 : Nat) : Int)) rfl rfl rfl (by decide) rfl rfl (fun w => by
    have := bin_orB (t := 35) (a := b0.toNat) (b := b1.toNat) (k := 8) (by decide) (by omega) h1 w
    rw [← this, wrapN64 (by omega)]; rfl) ?_
  refine a_bin hT _ rfl rfl rfl (by decide) rfl rfl (fun w => bin_orB (b := b2.toNat) (k := 16) (by decide) (by omega) h2 w) ?_
  refine a_bin hT _ rfl rfl rfl (by decide) rfl rfl (fun w => bin_orB (b := b3.toNat) (k := 24) (by decide) (by omega) h3 w) ?_
  refine a_bin hT _ rfl rfl rfl (by decide) rfl rfl (fun w => bin_orB (b := b4.toNat) (k := 32) (by decide) (by omega) h4 w) ?_
  refine a_bin hT _ rfl rfl rfl (by decide) rfl rfl (fun w => bin_orB (b := b5.toNat) (k := 40) (by decide) (by omega) h5 w) ?_
  refine a_bin hT _ rfl rfl rfl (by decide) rfl rfl (fun w => bin_orB (b := b6.toNat) (k := 48) (by decide) (by omega) h6 w) ?_
  refine a_bin hT _ rfl rfl rfl (by decide) rfl rfl (fun w => bin_orB (b := b7.toNat) (k := 56) (by decide) (by omega) h7 w) ?_
  refine a_ret hT [] rfl rfl rfl rfl rfl rfl ?_
  exact ⟨congrArg (fun z : Nat => AV.v (Value.int .u64 (z : Int)) 0) (by show _ = Lib.leNat [b0, b1, b2, b3, b4, b5, b6, b7]; simp only [Lib.leNat]; omega), rfl⟩
end Go.Proofs.YtjcolfogmmjaoaaGreatDoor
end

section
set_option linter.unusedVariables false
set_option linter.unusedSimpArgs false
set_option maxRecDepth 100000
set_option maxHeartbeats 2000000
namespace Go.Proofs.YtjcolfogmmjaoaaGreatDoor
open V A
open Go.Shelf
def mk8 : Nat := 9259542123273814144
def wd (l : List UInt8) : Nat := Lib.leNat (l.take 8)
theorem wd_lt (l : List UInt8) : wd l < 18446744073709551616 := by
  have h1 := Lib.leNat_lt (l.take 8)
  have h2 : (l.take 8).length ≤ 8 := by rw [List.length_take]; omega
  have h3 : 256 ^ (l.take 8).length ≤ 256 ^ 8 := Nat.pow_le_pow_right (by decide) h2
  unfold wd
  omega
theorem wd_asc {l : List UInt8} (h : 8 ≤ l.length) : wd l &&& mk8 = 0 ↔ ∀ b ∈ l.take 8, b.toNat < 128 := by
  have := Lib.leNat_mask (l.take 8)
  rw [show (l.take 8).length = 8 by rw [List.length_take]; omega, Lib.maskN8] at this
  exact this
theorem bin_andM {t : TypeId} {a : Nat} (ha : a < 18446744073709551616) (w : World) : (binOp .and t (.int .u64 (a : Int)) (.int .u64 9259542123273814144)).run Tryz.prog w = .ok (.int .u64 ((a &&& mk8 : Nat) : Int)) w := by
  rw [bin_and w]
  have h1 : BitVec.toNat (BitVec.ofInt 64 (a : Int) &&& BitVec.ofInt 64 ((mk8 : Nat) : Int)) = a &&& mk8 := by
    rw [BitVec.toNat_and, bv_nat, bv_nat, Nat.mod_eq_of_lt ha]
    rfl
  have h2 : a &&& mk8 ≤ a := Nat.and_le_left
  show (Result.ok (Value.int .u64 (IntKind.u64.wrap ↑(BitVec.toNat (BitVec.ofInt 64 (a : Int) &&& BitVec.ofInt 64 ((mk8 : Nat) : Int))))) w : Result Value) = _
  rw [h1, wrapN64 (by omega)]
theorem bin_orM {t : TypeId} {a b : Nat} (ha : a < 18446744073709551616) (hb : b < 18446744073709551616) (w : World) : (binOp .or t (.int .u64 (a : Int)) (.int .u64 (b : Int))).run Tryz.prog w = .ok (.int .u64 ((a ||| b : Nat) : Int)) w := by
  rw [bin_or w]
  rw [show IntKind.bits IntKind.u64 = 64 from rfl, or64 ha hb]
theorem asc_app {l : List UInt8} {a b : Nat} (h1 : ∀ x ∈ l.take a, x.toNat < 128) (h2 : ∀ x ∈ (l.drop a).take b, x.toNat < 128) : ∀ x ∈ l.take (a + b), x.toNat < 128 := by
  intro x hx
  rw [List.take_add] at hx
  rcases List.mem_append.1 hx with h | h
  · exact h1 x h
  · exact h2 x h
theorem first_lt : ∀ b : Fin 256, Lib.firstT b.val < 256 := by decide +kernel
theorem bin_and7 {t : TypeId} {a : Nat} (ha : a < 256) (w : World) : (binOp .and t (.int .u8 (a : Int)) (.int .u8 7)).run Tryz.prog w = .ok (.int .u8 ((a % 8 : Nat) : Int)) w := by
  rw [bin_and w]
  have h := and8 (a := a) (b := 7) ha (by decide)
  rw [show IntKind.bits IntKind.u8 = 8 from rfl, show ((7 : Nat) : Int) = 7 from rfl] at *
  rw [h, show a &&& 7 = a % 8 from Nat.and_two_pow_sub_one_eq_mod a 3]
theorem bin_shr4 {t : TypeId} {a : Nat} (ha : a < 256) (w : World) : (binOp .shr t (.int .u8 (a : Int)) (.int .u64 4)).run Tryz.prog w = .ok (.int .u8 ((a / 16 : Nat) : Int)) w := by
  rw [bin_shr (by decide) w]
  rw [show (2 : Int) ^ min (Int.toNat 4) (IntKind.bits IntKind.u8) = 16 from rfl, Int.fdiv_eq_ediv_of_nonneg _ (by decide)]
  rfl
theorem Valid_spec {l : List UInt8} (hl : l.length ≤ 1000000000) : FSpec Tryz.prog 122 [.d (A.bytesD l)] [u8C] fun a cs => a = bA (Lib.validD l) ∧ cs = [u8C] := by
  have hlen := bytesD_len l
  refine a_enter hT [.d (A.bytesD l)] [60] Tryz.func122 rfl rfl rfl ⟨Fit.refl _, trivial⟩ fun c' => ?_
  refine a_sl3 hT rfl rfl rfl rfl rfl rfl rfl rfl rfl ?_
  refine a_loop hT [0, 2] (fun r : List UInt8 => [.d (A.bytesD r), .v (.bool false) 0]) (fun _ => [(60, u8C)]) (fun r => Lib.validD r = Lib.validD l ∧ r.length ≤ l.length) (fun r => r.length) l [60] rfl rfl ⟨rfl, Nat.le_refl _⟩ ⟨rfl, rfl, trivial⟩ rfl ⟨rfl, trivial⟩ ?_
  rintro r ⟨i1, i2⟩
  cases r with
  | nil =>
    refine a_f hT rfl rfl rfl ?_
    refine a_ret hT [60] rfl rfl rfl rfl rfl rfl ?_
    exact ⟨by rw [← i1]; rfl, rfl⟩
  | cons b0 t =>
    have hb0 := b0.toNat_lt
    have htl : (t.map eB).length = t.length := List.length_map _
    rw [List.length_cons] at i2
    refine a_t hT rfl rfl (decide_eq_true (by show (((b0 :: t).map eB).length : Int) > 0; simp)) ?_
    refine a_ix hT (eB b0) rfl rfl rfl rfl rfl rfl (by decide) rfl ?_
    by_cases h128 : b0.toNat < 128
    · have iv : Lib.validD t = Lib.validD l := by rw [← i1]; exact (Lib.validD_cons b0 t h128).symm
      refine a_t hT rfl rfl (decide_eq_true (by show (b0.toNat : Int) < 128; omega)) ?_
      refine a_sl hT 1 (t.length + 1) (t.map eB) rfl rfl rfl rfl rfl ⟨.i64, 0, rfl⟩ (by simp) (by omega) (by simp) (by show (t.map eB).take (t.length + 1 - 1) = _; rw [Nat.add_sub_cancel, ← htl, List.take_length]) ?_
      refine a_g hT rfl rfl rfl (fun h8 => ?_) (fun h8 => ?_)
      · have h8 : ((t.map eB).length : Int) > 8 := of_decide_eq_true h8
        rw [htl] at h8
        have hW := word_spec (l := t) (by omega)
        refine a_call hT rfl rfl rfl (by kernel_rfl) hW [] [] rfl rfl ?_
        rintro _ _ ⟨rfl, rfl⟩
        refine a_bin hT _ rfl rfl rfl (by decide) rfl rfl (fun w => bin_andM (wd_lt t) w) ?_
        refine a_if hT rfl rfl (fun hz => ?_) (fun hz => ?_)
        · have hz : ((wd t &&& mk8 : Nat) : Int) = 0 := eq_of_beq hz
          have hz : wd t &&& mk8 = 0 := by omega
          have a1 := (wd_asc (by omega)).1 hz
          have iv2 : Lib.validD (t.drop 8) = Lib.validD l := by rw [← iv]; exact (Lib.validD_ascii 8 t a1).symm
          have hdl : (t.drop 8).length = t.length - 8 := List.length_drop
          refine a_sl hT 8 t.length ((t.drop 8).map eB) rfl rfl rfl rfl rfl ⟨.i64, 0, rfl⟩ (by rw [htl]) (by omega) (by rw [htl]; exact Nat.le_refl _) (by rw [← htl]; exact slD t 8) ?_
          generalize t.drop 8 = u at iv2 hdl
          have hul : (u.map eB).length = u.length := List.length_map _
          refine a_draw hT [] false [(0, false), (1, false), (2, false), (3, false), (4, false), (6, false), (7, false), (5, true), (8, true), (9, true), (10, true), (11, true), (12, true)] rfl rfl (by kernel_rfl) (by kernel_rfl) rfl ?_
          refine a_g hT rfl rfl rfl (fun h => ?_) (fun h => ?_)
          · have h := of_decide_eq_true h
            have h : ((u.map eB).length : Int) > 16 := h
            rw [hul] at h
            have hdl8 : (u.drop 8).length = u.length - 8 := List.length_drop
            have hdl16 : (u.drop 16).length = u.length - 16 := List.length_drop
            have hW1 := word_spec (l := u) (by omega)
            have hW2 := word_spec (l := u.drop 8) (by omega)
            refine a_sl hT 8 u.length ((u.drop 8).map eB) rfl rfl rfl rfl rfl ⟨.i64, 0, rfl⟩ (by rw [hul]) (by omega) (by rw [hul]; exact Nat.le_refl _) (by rw [← hul]; exact slD u 8) ?_
            refine a_call hT rfl rfl rfl (by kernel_rfl) hW1 [] [] rfl rfl ?_
            rintro _ _ ⟨rfl, rfl⟩
            refine a_call hT rfl rfl rfl (by kernel_rfl) hW2 [] [] rfl rfl ?_
            rintro _ _ ⟨rfl, rfl⟩
            refine a_bin hT _ rfl rfl rfl (by decide) rfl rfl (fun w => bin_orM (wd_lt u) (wd_lt (u.drop 8)) w) ?_
            refine a_bin hT _ rfl rfl rfl (by decide) rfl rfl (fun w => bin_andM (Nat.or_lt_two_pow (n := 64) (wd_lt u) (wd_lt (u.drop 8))) w) ?_
            refine a_if hT rfl rfl (fun hz2 => ?_) (fun hz2 => ?_)
            · have hz2 : (wd u ||| wd (u.drop 8)) &&& mk8 = 0 := by
                have : (((wd u ||| wd (u.drop 8)) &&& mk8 : Nat) : Int) = 0 := eq_of_beq hz2
                omega
              obtain ⟨z1, z2⟩ := (Lib.or_mask _ _ _).1 hz2
              have a16 := asc_app ((wd_asc (l := u) (by omega)).1 z1) ((wd_asc (l := u.drop 8) (by omega)).1 z2)
              have iv3 : Lib.validD (u.drop 16) = Lib.validD l := by rw [← iv2]; exact (Lib.validD_ascii 16 u a16).symm
              refine a_sl hT 16 u.length ((u.drop 16).map eB) rfl rfl rfl rfl rfl ⟨.i64, 0, rfl⟩ (by rw [hul]) (by omega) (by rw [hul]; exact Nat.le_refl _) (by rw [← hul]; exact slD u 16) ?_
              refine a_loop hT [0, 2] (fun r : List UInt8 => [.d (A.bytesD r), .v (.bool false) 0]) (fun _ => [(60, u8C)]) (fun r => Lib.validD r = Lib.validD l ∧ r.length ≤ u.length) (fun r => r.length) (u.drop 16) [60] rfl rfl ⟨iv3, by omega⟩ ⟨rfl, rfl, trivial⟩ rfl ⟨rfl, trivial⟩ ?_
              rintro p ⟨p1, p2⟩
              have hpl : (p.map eB).length = p.length := List.length_map _
              have hp8 : (p.drop 8).length = p.length - 8 := List.length_drop
              have hp16 : (p.drop 16).length = p.length - 16 := List.length_drop
              have hp24 : (p.drop 24).length = p.length - 24 := List.length_drop
              have hp32 : (p.drop 32).length = p.length - 32 := List.length_drop
              refine a_draw hT [] false [(0, false), (1, false), (2, false), (3, false), (4, false), (6, false), (7, false), (10, false), (11, false), (13, false), (14, false), (5, true), (8, true), (9, false), (12, true), (15, true), (16, true), (17, true), (18, true), (19, true), (20, true)] rfl rfl (by kernel_rfl) (by kernel_rfl) rfl ?_
              refine a_g hT rfl rfl rfl (fun h1 => ?_) (fun h1 => ?_)
              · have h1 := of_decide_eq_true h1
                have h1 : ((p.map eB).length : Int) > 32 := h1
                rw [hpl] at h1
                have hW1 := word_spec (l := p) (by omega)
                have hW2 := word_spec (l := p.drop 8) (by omega)
                have hW3 := word_spec (l := p.drop 16) (by omega)
                have hW4 := word_spec (l := p.drop 24) (by omega)
                refine a_sl hT 8 p.length ((p.drop 8).map eB) rfl rfl rfl rfl rfl ⟨.i64, 0, rfl⟩ (by rw [hpl]) (by omega) (by rw [hpl]; exact Nat.le_refl _) (by rw [← hpl]; exact slD p 8) ?_
                refine a_sl hT 16 p.length ((p.drop 16).map eB) rfl rfl rfl rfl rfl ⟨.i64, 0, rfl⟩ (by rw [hpl]) (by omega) (by rw [hpl]; exact Nat.le_refl _) (by rw [← hpl]; exact slD p 16) ?_
                refine a_sl hT 24 p.length ((p.drop 24).map eB) rfl rfl rfl rfl rfl ⟨.i64, 0, rfl⟩ (by rw [hpl]) (by omega) (by rw [hpl]; exact Nat.le_refl _) (by rw [← hpl]; exact slD p 24) ?_
                refine a_call hT rfl rfl rfl (by kernel_rfl) hW1 [] [] rfl rfl ?_
                rintro _ _ ⟨rfl, rfl⟩
                refine a_call hT rfl rfl rfl (by kernel_rfl) hW2 [] [] rfl rfl ?_
                rintro _ _ ⟨rfl, rfl⟩
                refine a_bin hT _ rfl rfl rfl (by decide) rfl rfl (fun w => bin_orM (wd_lt p) (wd_lt (p.drop 8)) w) ?_
                refine a_call hT rfl rfl rfl (by kernel_rfl) hW3 [] [] rfl rfl ?_
                rintro _ _ ⟨rfl, rfl⟩
                refine a_call hT rfl rfl rfl (by kernel_rfl) hW4 [] [] rfl rfl ?_
                rintro _ _ ⟨rfl, rfl⟩
                refine a_bin hT _ rfl rfl rfl (by decide) rfl rfl (fun w => bin_orM (wd_lt (p.drop 16)) (wd_lt (p.drop 24)) w) ?_
                have o1 : wd p ||| wd (p.drop 8) < 18446744073709551616 := Nat.or_lt_two_pow (n := 64) (wd_lt p) (wd_lt (p.drop 8))
                have o2 : wd (p.drop 16) ||| wd (p.drop 24) < 18446744073709551616 := Nat.or_lt_two_pow (n := 64) (wd_lt (p.drop 16)) (wd_lt (p.drop 24))
                refine a_bin hT _ rfl rfl rfl (by decide) rfl rfl (fun w => bin_orM o1 o2 w) ?_
                refine a_bin hT _ rfl rfl rfl (by decide) rfl rfl (fun w => bin_andM (Nat.or_lt_two_pow (n := 64) o1 o2) w) ?_
                refine a_if hT rfl rfl (fun hz3 => ?_) (fun hz3 => ?_)
                · have hz3 : ((wd p ||| wd (p.drop 8)) ||| (wd (p.drop 16) ||| wd (p.drop 24))) &&& mk8 = 0 := by
                    have : ((((wd p ||| wd (p.drop 8)) ||| (wd (p.drop 16) ||| wd (p.drop 24))) &&& mk8 : Nat) : Int) = 0 := eq_of_beq hz3
                    omega
                  obtain ⟨y1, y2⟩ := (Lib.or_mask _ _ _).1 hz3
                  obtain ⟨z3, z4⟩ := (Lib.or_mask _ _ _).1 y1
                  obtain ⟨z5, z6⟩ := (Lib.or_mask _ _ _).1 y2
                  have b16 := asc_app ((wd_asc (l := p) (by omega)).1 z3) ((wd_asc (l := p.drop 8) (by omega)).1 z4)
                  have b24 := asc_app b16 ((wd_asc (l := p.drop 16) (by omega)).1 z5)
                  have b32 := asc_app b24 ((wd_asc (l := p.drop 24) (by omega)).1 z6)
                  have iv4 : Lib.validD (p.drop 32) = Lib.validD l := by rw [← p1]; exact (Lib.validD_ascii 32 p b32).symm
                  refine a_sl hT 32 p.length ((p.drop 32).map eB) rfl rfl rfl rfl rfl ⟨.i64, 0, rfl⟩ (by rw [hpl]) (by omega) (by rw [hpl]; exact Nat.le_refl _) (by rw [← hpl]; exact slD p 32) ?_
                  exact a_next hT (p.drop 32) [60] rfl rfl ⟨⟨iv4, by omega⟩, by omega⟩ ⟨rfl, rfl, trivial⟩ rfl ⟨rfl, trivial⟩
                · exact a_next hT p [60] rfl rfl ⟨⟨p1, by show p.length ≤ l.length; omega⟩, by show p.length < (b0 :: t).length; simp only [List.length_cons]; omega⟩ ⟨rfl, rfl, trivial⟩ rfl ⟨rfl, trivial⟩
              · have h1 := of_decide_eq_false h1
                refine a_f hT rfl rfl rfl ?_
                exact a_next hT p [60] rfl rfl ⟨⟨p1, by show p.length ≤ l.length; omega⟩, by show p.length < (b0 :: t).length; simp only [List.length_cons]; omega⟩ ⟨rfl, rfl, trivial⟩ rfl ⟨rfl, trivial⟩
            · exact a_next hT u [60] rfl rfl ⟨⟨iv2, by show u.length ≤ l.length; omega⟩, by show u.length < (b0 :: t).length; simp only [List.length_cons]; omega⟩ ⟨rfl, rfl, trivial⟩ rfl ⟨rfl, trivial⟩
          · have h := of_decide_eq_false h
            refine a_f hT rfl rfl rfl ?_
            exact a_next hT u [60] rfl rfl ⟨⟨iv2, by show u.length ≤ l.length; omega⟩, by show u.length < (b0 :: t).length; simp only [List.length_cons]; omega⟩ ⟨rfl, rfl, trivial⟩ rfl ⟨rfl, trivial⟩
        · exact a_next hT t [60] rfl rfl ⟨⟨iv, by show t.length ≤ l.length; omega⟩, by show t.length < (b0 :: t).length; simp⟩ ⟨rfl, rfl, trivial⟩ rfl ⟨rfl, trivial⟩
      · refine a_f hT rfl rfl rfl ?_
        exact a_next hT t [60] rfl rfl ⟨⟨iv, by show t.length ≤ l.length; omega⟩, by show t.length < (b0 :: t).length; simp⟩ ⟨rfl, rfl, trivial⟩ rfl ⟨rfl, trivial⟩
    · have iv := Lib.validD_lead (b0 :: t) (by simp) (by show 128 ≤ b0.toNat; omega)
      rw [i1] at iv
      refine a_f hT rfl rfl (decide_eq_false (by show ¬ (b0.toNat : Int) < 128; omega)) ?_
      have hx : Lib.firstT b0.toNat < 256 := first_lt ⟨b0.toNat, hb0⟩
      refine a_garr hT b0.toNat rfl rfl rfl rfl rfl rfl rfl (by omega) ?_
      refine a_tab3 (b := b0.toNat) 73 60 rfl rfl (by omega) hb0 rfl ?_
      refine a_bin hT (.int .u8 ((Lib.firstT b0.toNat % 8 : Nat) : Int)) rfl rfl rfl (by decide) rfl rfl (fun w => bin_and7 hx w) ?_
      refine a_bin hT (.int .u8 ((Lib.firstT b0.toNat / 16 : Nat) : Int)) rfl rfl rfl (by decide) rfl rfl (fun w => bin_shr4 hx w) ?_
      refine a_garr hT (Lib.firstT b0.toNat / 16) rfl rfl rfl rfl rfl rfl rfl (by omega) ?_
      refine a_tab4 (i := Lib.firstT b0.toNat / 16) 80 60 rfl rfl (by omega) (by omega) rfl ?_
      refine a_new hT hZ 42 rfl rfl rfl rfl fun g6 => ?_
      refine a_run hT 1 rfl rfl ?_
      refine a_freezeK 6 42 rfl rfl rfl rfl rfl ?_
      have hlo : Lib.accLo (Lib.firstT b0.toNat / 16) = Lib.accLo (Lib.firstT b0.toNat / 16) := rfl
      have hsz : IntKind.i64.wrap ((Lib.firstT b0.toNat % 8 : Nat) : Int) = ((Lib.firstT b0.toNat % 8 : Nat) : Int) := w64 (by omega) (by omega)
      have iv : Lib.validD l = match Lib.checkN (t.length + 1) (t.getD 0 0).toNat (t.getD 1 0).toNat (t.getD 2 0).toNat (Lib.firstT b0.toNat % 8) (Lib.accLo (Lib.firstT b0.toNat / 16)) (Lib.accHi (Lib.firstT b0.toNat / 16)) with
        | none => false
        | some k => Lib.validD ((b0 :: t).drop k) := iv
      generalize Lib.accLo (Lib.firstT b0.toNat / 16) = lo at iv
      generalize Lib.accHi (Lib.firstT b0.toNat / 16) = hi at iv
      generalize Lib.firstT b0.toNat % 8 = sz at iv hsz
      refine a_if hT rfl rfl (fun hs => ?_) (fun hs => ?_)
      · have hs : IntKind.i64.wrap ((sz : Nat) : Int) = 2 := eq_of_beq hs
        have hs2 : sz = 2 := by omega
        subst hs2
        unfold Lib.checkN at iv
        rw [if_pos rfl] at iv
        have iv1 : (t.length + 1 < 2 ∨ (t.getD 0 0).toNat < lo ∨ hi < (t.getD 0 0).toNat) → Lib.validD l = false := fun h => by rw [iv, if_pos h]
        have iv2 : ¬ (t.length + 1 < 2 ∨ (t.getD 0 0).toNat < lo ∨ hi < (t.getD 0 0).toNat) → Lib.validD l = Lib.validD ((b0 :: t).drop 2) := fun h => by rw [iv, if_neg h]
        clear iv
        cases t with
        | nil =>
          refine a_draw hT [] false [(0, false), (1, false), (2, false), (3, false), (4, false), (5, false), (6, false), (7, false), (8, false), (9, false), (10, false), (11, false), (12, false), (13, false), (14, false), (15, false), (16, false), (17, false), (18, true)] rfl rfl (by kernel_rfl) (by kernel_rfl) rfl ?_
          refine a_gt hT rfl rfl rfl rfl ?_
          refine a_gt hT rfl rfl rfl rfl ?_
          refine a_t hT rfl rfl rfl ?_
          refine a_ret hT [60] rfl rfl rfl rfl rfl rfl ?_
          exact ⟨by rw [iv1 (by first | omega | (simp only [List.getD_cons_zero, List.getD_cons_succ, List.length_cons, List.length_nil] <;> omega))]; rfl, rfl⟩
        | cons b1 t =>
          refine a_draw hT [] false [(0, false), (1, false), (2, false), (3, false), (4, false), (5, false), (6, false), (7, false), (8, false), (9, false), (10, false), (11, false), (12, false), (13, false), (14, false), (15, false), (16, false), (17, false), (18, true)] rfl rfl (by kernel_rfl) (by kernel_rfl) rfl ?_
          refine a_gf hT rfl rfl rfl rfl ?_
          refine a_ix hT _ rfl rfl rfl rfl rfl rfl (by first | omega | assumption) (by first | assumption | rfl) ?_
          refine a_g hT rfl rfl rfl (fun h => ?_) (fun h => ?_)
          · have h := of_decide_eq_true h
            refine a_t hT rfl rfl rfl ?_
            refine a_ret hT [60] rfl rfl rfl rfl rfl rfl ?_
            exact ⟨by rw [iv1 (by first | omega | (simp only [List.getD_cons_zero, List.getD_cons_succ, List.length_cons, List.length_nil] <;> omega))]; rfl, rfl⟩
          · have h := of_decide_eq_false h
            refine a_ix hT _ rfl rfl rfl rfl rfl rfl (by first | omega | assumption) (by first | assumption | rfl) ?_
            refine a_if hT rfl rfl (fun h1 => ?_) (fun h1 => ?_)
            · have h1 := of_decide_eq_true h1
              refine a_ret hT [60] rfl rfl rfl rfl rfl rfl ?_
              exact ⟨by rw [iv1 (by first | omega | (simp only [List.getD_cons_zero, List.getD_cons_succ, List.length_cons, List.length_nil] <;> omega))]; rfl, rfl⟩
            · have h1 := of_decide_eq_false h1
              have iv := iv2 (by simp only [List.getD_cons_zero, List.getD_cons_succ, List.length_cons, List.length_nil] <;> omega)
              refine a_sl hT 2 (t.length + 2) (t.map eB) rfl rfl rfl rfl rfl ⟨.i64, 0, rfl⟩ (by simp) (by omega) (by simp) (by show (t.map eB).take (t.length + 2 - 2) = _; rw [Nat.add_sub_cancel, ← List.length_map (f := eB), List.take_length]) ?_
              exact a_next hT t [60] rfl rfl ⟨⟨iv.symm, by simp only [List.length_cons] at i2; omega⟩, by simp only [List.length_cons]; omega⟩ ⟨rfl, rfl, trivial⟩ rfl ⟨rfl, trivial⟩
      have hs : ¬ IntKind.i64.wrap ((sz : Nat) : Int) = 2 := ne_of_beq_false hs
      refine a_if hT rfl rfl (fun hs3 => ?_) (fun hs3 => ?_)
      · have hs3 : IntKind.i64.wrap ((sz : Nat) : Int) = 3 := eq_of_beq hs3
        have hs2 : sz = 3 := by omega
        subst hs2
        unfold Lib.checkN at iv
        rw [if_neg (by decide), if_pos rfl] at iv
        have iv1 : (t.length + 1 < 3 ∨ (t.getD 0 0).toNat < lo ∨ hi < (t.getD 0 0).toNat ∨ (t.getD 1 0).toNat < 128 ∨ 191 < (t.getD 1 0).toNat) → Lib.validD l = false := fun h => by rw [iv, if_pos h]
        have iv2 : ¬ (t.length + 1 < 3 ∨ (t.getD 0 0).toNat < lo ∨ hi < (t.getD 0 0).toNat ∨ (t.getD 1 0).toNat < 128 ∨ 191 < (t.getD 1 0).toNat) → Lib.validD l = Lib.validD ((b0 :: t).drop 3) := fun h => by rw [iv, if_neg h]
        clear iv
        match t with
        | [] =>
          refine a_draw hT [] false [(0, false), (1, false), (2, false), (3, false), (4, false), (5, false), (6, false), (7, false), (8, false), (9, false), (10, false), (11, false), (12, false), (13, false), (14, false), (15, false), (16, false), (17, false), (18, false), (19, false), (20, false), (21, false), (22, false), (23, false), (24, false), (25, false), (26, false), (27, false), (28, false), (29, false), (30, true)] rfl rfl (by kernel_rfl) (by kernel_rfl) rfl ?_
          refine a_gt hT rfl rfl rfl rfl ?_
          refine a_gt hT rfl rfl rfl rfl ?_
          refine a_gt hT rfl rfl rfl rfl ?_
          refine a_gt hT rfl rfl rfl rfl ?_
          refine a_t hT rfl rfl rfl ?_
          refine a_ret hT [60] rfl rfl rfl rfl rfl rfl ?_
          exact ⟨by rw [iv1 (by first | omega | (simp only [List.getD_cons_zero, List.getD_cons_succ, List.length_cons, List.length_nil] <;> omega))]; rfl, rfl⟩
        | [b1] =>
          refine a_draw hT [] false [(0, false), (1, false), (2, false), (3, false), (4, false), (5, false), (6, false), (7, false), (8, false), (9, false), (10, false), (11, false), (12, false), (13, false), (14, false), (15, false), (16, false), (17, false), (18, false), (19, false), (20, false), (21, false), (22, false), (23, false), (24, false), (25, false), (26, false), (27, false), (28, false), (29, false), (30, true)] rfl rfl (by kernel_rfl) (by kernel_rfl) rfl ?_
          refine a_gt hT rfl rfl rfl rfl ?_
          refine a_gt hT rfl rfl rfl rfl ?_
          refine a_gt hT rfl rfl rfl rfl ?_
          refine a_gt hT rfl rfl rfl rfl ?_
          refine a_t hT rfl rfl rfl ?_
          refine a_ret hT [60] rfl rfl rfl rfl rfl rfl ?_
          exact ⟨by rw [iv1 (by first | omega | (simp only [List.getD_cons_zero, List.getD_cons_succ, List.length_cons, List.length_nil] <;> omega))]; rfl, rfl⟩
        | b1 :: b2 :: t =>
          refine a_draw hT [] false [(0, false), (1, false), (2, false), (3, false), (4, false), (5, false), (6, false), (7, false), (8, false), (9, false), (10, false), (11, false), (12, false), (13, false), (14, false), (15, false), (16, false), (17, false), (18, false), (19, false), (20, false), (21, false), (22, false), (23, false), (24, false), (25, false), (26, false), (27, false), (28, false), (29, false), (30, true)] rfl rfl (by kernel_rfl) (by kernel_rfl) rfl ?_
          refine a_gf hT rfl rfl rfl rfl ?_
          refine a_ix hT _ rfl rfl rfl rfl rfl rfl (by first | omega | assumption) (by first | assumption | rfl) ?_
          refine a_g hT rfl rfl rfl (fun h => ?_) (fun h => ?_)
          · have h := of_decide_eq_true h
            refine a_gt hT rfl rfl rfl rfl ?_
            refine a_gt hT rfl rfl rfl rfl ?_
            refine a_t hT rfl rfl rfl ?_
            refine a_ret hT [60] rfl rfl rfl rfl rfl rfl ?_
            exact ⟨by rw [iv1 (by first | omega | (simp only [List.getD_cons_zero, List.getD_cons_succ, List.length_cons, List.length_nil] <;> omega))]; rfl, rfl⟩
          · have h := of_decide_eq_false h
            refine a_ix hT _ rfl rfl rfl rfl rfl rfl (by first | omega | assumption) (by first | assumption | rfl) ?_
            refine a_g hT rfl rfl rfl (fun h1 => ?_) (fun h1 => ?_)
            · have h1 := of_decide_eq_true h1
              refine a_gt hT rfl rfl rfl rfl ?_
              refine a_t hT rfl rfl rfl ?_
              refine a_ret hT [60] rfl rfl rfl rfl rfl rfl ?_
              exact ⟨by rw [iv1 (by first | omega | (simp only [List.getD_cons_zero, List.getD_cons_succ, List.length_cons, List.length_nil] <;> omega))]; rfl, rfl⟩
            · have h1 := of_decide_eq_false h1
              refine a_ix hT _ rfl rfl rfl rfl rfl rfl (by first | omega | assumption) (by first | assumption | rfl) ?_
              refine a_g hT rfl rfl rfl (fun h2 => ?_) (fun h2 => ?_)
              · have h2 := of_decide_eq_true h2
                refine a_t hT rfl rfl rfl ?_
                refine a_ret hT [60] rfl rfl rfl rfl rfl rfl ?_
                exact ⟨by rw [iv1 (by first | omega | (simp only [List.getD_cons_zero, List.getD_cons_succ, List.length_cons, List.length_nil] <;> omega))]; rfl, rfl⟩
              · have h2 := of_decide_eq_false h2
                refine a_ix hT _ rfl rfl rfl rfl rfl rfl (by first | omega | assumption) (by first | assumption | rfl) ?_
                refine a_if hT rfl rfl (fun h3 => ?_) (fun h3 => ?_)
                · have h3 := of_decide_eq_true h3
                  refine a_ret hT [60] rfl rfl rfl rfl rfl rfl ?_
                  exact ⟨by rw [iv1 (by first | omega | (simp only [List.getD_cons_zero, List.getD_cons_succ, List.length_cons, List.length_nil] <;> omega))]; rfl, rfl⟩
                · have h3 := of_decide_eq_false h3
                  have iv := iv2 (by simp only [List.getD_cons_zero, List.getD_cons_succ, List.length_cons, List.length_nil] <;> omega)
                  refine a_sl hT 3 (t.length + 3) (t.map eB) rfl rfl rfl rfl rfl ⟨.i64, 0, rfl⟩ (by simp) (by omega) (by simp) (by show (t.map eB).take (t.length + 3 - 3) = _; rw [Nat.add_sub_cancel, ← List.length_map (f := eB), List.take_length]) ?_
                  exact a_next hT t [60] rfl rfl ⟨⟨iv.symm, by simp only [List.length_cons] at i2; omega⟩, by simp only [List.length_cons]; omega⟩ ⟨rfl, rfl, trivial⟩ rfl ⟨rfl, trivial⟩
      have hs3 : ¬ IntKind.i64.wrap ((sz : Nat) : Int) = 3 := ne_of_beq_false hs3
      refine a_if hT rfl rfl (fun hs4 => ?_) (fun hs4 => ?_)
      · have hs4 : IntKind.i64.wrap ((sz : Nat) : Int) = 4 := eq_of_beq hs4
        have hs2 : sz = 4 := by omega
        subst hs2
        unfold Lib.checkN at iv
        rw [if_neg (by decide), if_neg (by decide), if_pos rfl] at iv
        have iv1 : (t.length + 1 < 4 ∨ (t.getD 0 0).toNat < lo ∨ hi < (t.getD 0 0).toNat ∨ (t.getD 1 0).toNat < 128 ∨ 191 < (t.getD 1 0).toNat ∨ (t.getD 2 0).toNat < 128 ∨ 191 < (t.getD 2 0).toNat) → Lib.validD l = false := fun h => by rw [iv, if_pos h]
        have iv2 : ¬ (t.length + 1 < 4 ∨ (t.getD 0 0).toNat < lo ∨ hi < (t.getD 0 0).toNat ∨ (t.getD 1 0).toNat < 128 ∨ 191 < (t.getD 1 0).toNat ∨ (t.getD 2 0).toNat < 128 ∨ 191 < (t.getD 2 0).toNat) → Lib.validD l = Lib.validD ((b0 :: t).drop 4) := fun h => by rw [iv, if_neg h]
        clear iv
        match t with
        | [] =>
          refine a_draw hT [] false [(0, false), (1, false), (2, false), (3, false), (4, false), (5, false), (6, false), (7, false), (8, false), (9, false), (10, false), (11, false), (12, false), (13, false), (14, false), (15, false), (16, false), (17, false), (18, false), (19, false), (20, false), (21, false), (22, false), (23, false), (24, false), (25, false), (26, false), (27, false), (28, false), (29, false), (30, false), (31, false), (32, false), (33, false), (34, false), (35, false), (36, false), (37, false), (38, false), (39, false), (40, false), (41, false), (42, true)] rfl rfl (by kernel_rfl) (by kernel_rfl) rfl ?_
          refine a_gt hT rfl rfl rfl rfl ?_
          refine a_gt hT rfl rfl rfl rfl ?_
          refine a_gt hT rfl rfl rfl rfl ?_
          refine a_gt hT rfl rfl rfl rfl ?_
          refine a_gt hT rfl rfl rfl rfl ?_
          refine a_gt hT rfl rfl rfl rfl ?_
          refine a_t hT rfl rfl rfl ?_
          refine a_ret hT [60] rfl rfl rfl rfl rfl rfl ?_
          exact ⟨by rw [iv1 (by first | omega | (simp only [List.getD_cons_zero, List.getD_cons_succ, List.length_cons, List.length_nil] <;> omega))]; rfl, rfl⟩
        | [b1] =>
          refine a_draw hT [] false [(0, false), (1, false), (2, false), (3, false), (4, false), (5, false), (6, false), (7, false), (8, false), (9, false), (10, false), (11, false), (12, false), (13, false), (14, false), (15, false), (16, false), (17, false), (18, false), (19, false), (20, false), (21, false), (22, false), (23, false), (24, false), (25, false), (26, false), (27, false), (28, false), (29, false), (30, false), (31, false), (32, false), (33, false), (34, false), (35, false), (36, false), (37, false), (38, false), (39, false), (40, false), (41, false), (42, true)] rfl rfl (by kernel_rfl) (by kernel_rfl) rfl ?_
          refine a_gt hT rfl rfl rfl rfl ?_
          refine a_gt hT rfl rfl rfl rfl ?_
          refine a_gt hT rfl rfl rfl rfl ?_
          refine a_gt hT rfl rfl rfl rfl ?_
          refine a_gt hT rfl rfl rfl rfl ?_
          refine a_gt hT rfl rfl rfl rfl ?_
          refine a_t hT rfl rfl rfl ?_
          refine a_ret hT [60] rfl rfl rfl rfl rfl rfl ?_
          exact ⟨by rw [iv1 (by first | omega | (simp only [List.getD_cons_zero, List.getD_cons_succ, List.length_cons, List.length_nil] <;> omega))]; rfl, rfl⟩
        | [b1, b2] =>
          refine a_draw hT [] false [(0, false), (1, false), (2, false), (3, false), (4, false), (5, false), (6, false), (7, false), (8, false), (9, false), (10, false), (11, false), (12, false), (13, false), (14, false), (15, false), (16, false), (17, false), (18, false), (19, false), (20, false), (21, false), (22, false), (23, false), (24, false), (25, false), (26, false), (27, false), (28, false), (29, false), (30, false), (31, false), (32, false), (33, false), (34, false), (35, false), (36, false), (37, false), (38, false), (39, false), (40, false), (41, false), (42, true)] rfl rfl (by kernel_rfl) (by kernel_rfl) rfl ?_
          refine a_gt hT rfl rfl rfl rfl ?_
          refine a_gt hT rfl rfl rfl rfl ?_
          refine a_gt hT rfl rfl rfl rfl ?_
          refine a_gt hT rfl rfl rfl rfl ?_
          refine a_gt hT rfl rfl rfl rfl ?_
          refine a_gt hT rfl rfl rfl rfl ?_
          refine a_t hT rfl rfl rfl ?_
          refine a_ret hT [60] rfl rfl rfl rfl rfl rfl ?_
          exact ⟨by rw [iv1 (by first | omega | (simp only [List.getD_cons_zero, List.getD_cons_succ, List.length_cons, List.length_nil] <;> omega))]; rfl, rfl⟩
        | b1 :: b2 :: b3 :: t =>
          refine a_draw hT [] false [(0, false), (1, false), (2, false), (3, false), (4, false), (5, false), (6, false), (7, false), (8, false), (9, false), (10, false), (11, false), (12, false), (13, false), (14, false), (15, false), (16, false), (17, false), (18, false), (19, false), (20, false), (21, false), (22, false), (23, false), (24, false), (25, false), (26, false), (27, false), (28, false), (29, false), (30, false), (31, false), (32, false), (33, false), (34, false), (35, false), (36, false), (37, false), (38, false), (39, false), (40, false), (41, false), (42, true)] rfl rfl (by kernel_rfl) (by kernel_rfl) rfl ?_
          refine a_gf hT rfl rfl rfl rfl ?_
          refine a_ix hT _ rfl rfl rfl rfl rfl rfl (by first | omega | assumption) (by first | assumption | rfl) ?_
          refine a_g hT rfl rfl rfl (fun h => ?_) (fun h => ?_)
          · have h := of_decide_eq_true h
            refine a_gt hT rfl rfl rfl rfl ?_
            refine a_gt hT rfl rfl rfl rfl ?_
            refine a_gt hT rfl rfl rfl rfl ?_
            refine a_gt hT rfl rfl rfl rfl ?_
            refine a_t hT rfl rfl rfl ?_
            refine a_ret hT [60] rfl rfl rfl rfl rfl rfl ?_
            exact ⟨by rw [iv1 (by first | omega | (simp only [List.getD_cons_zero, List.getD_cons_succ, List.length_cons, List.length_nil] <;> omega))]; rfl, rfl⟩
          · have h := of_decide_eq_false h
            refine a_ix hT _ rfl rfl rfl rfl rfl rfl (by first | omega | assumption) (by first | assumption | rfl) ?_
            refine a_g hT rfl rfl rfl (fun h1 => ?_) (fun h1 => ?_)
            · have h1 := of_decide_eq_true h1
              refine a_gt hT rfl rfl rfl rfl ?_
              refine a_gt hT rfl rfl rfl rfl ?_
              refine a_gt hT rfl rfl rfl rfl ?_
              refine a_t hT rfl rfl rfl ?_
              refine a_ret hT [60] rfl rfl rfl rfl rfl rfl ?_
              exact ⟨by rw [iv1 (by first | omega | (simp only [List.getD_cons_zero, List.getD_cons_succ, List.length_cons, List.length_nil] <;> omega))]; rfl, rfl⟩
            · have h1 := of_decide_eq_false h1
              refine a_ix hT _ rfl rfl rfl rfl rfl rfl (by first | omega | assumption) (by first | assumption | rfl) ?_
              refine a_g hT rfl rfl rfl (fun h2 => ?_) (fun h2 => ?_)
              · have h2 := of_decide_eq_true h2
                refine a_gt hT rfl rfl rfl rfl ?_
                refine a_gt hT rfl rfl rfl rfl ?_
                refine a_t hT rfl rfl rfl ?_
                refine a_ret hT [60] rfl rfl rfl rfl rfl rfl ?_
                exact ⟨by rw [iv1 (by first | omega | (simp only [List.getD_cons_zero, List.getD_cons_succ, List.length_cons, List.length_nil] <;> omega))]; rfl, rfl⟩
              · have h2 := of_decide_eq_false h2
                refine a_ix hT _ rfl rfl rfl rfl rfl rfl (by first | omega | assumption) (by first | assumption | rfl) ?_
                refine a_g hT rfl rfl rfl (fun h3 => ?_) (fun h3 => ?_)
                · have h3 := of_decide_eq_true h3
                  refine a_gt hT rfl rfl rfl rfl ?_
                  refine a_t hT rfl rfl rfl ?_
                  refine a_ret hT [60] rfl rfl rfl rfl rfl rfl ?_
                  exact ⟨by rw [iv1 (by first | omega | (simp only [List.getD_cons_zero, List.getD_cons_succ, List.length_cons, List.length_nil] <;> omega))]; rfl, rfl⟩
                · have h3 := of_decide_eq_false h3
                  refine a_ix hT _ rfl rfl rfl rfl rfl rfl (by first | omega | assumption) (by first | assumption | rfl) ?_
                  refine a_g hT rfl rfl rfl (fun h4 => ?_) (fun h4 => ?_)
                  · have h4 := of_decide_eq_true h4
                    refine a_t hT rfl rfl rfl ?_
                    refine a_ret hT [60] rfl rfl rfl rfl rfl rfl ?_
                    exact ⟨by rw [iv1 (by first | omega | (simp only [List.getD_cons_zero, List.getD_cons_succ, List.length_cons, List.length_nil] <;> omega))]; rfl, rfl⟩
                  · have h4 := of_decide_eq_false h4
                    refine a_ix hT _ rfl rfl rfl rfl rfl rfl (by first | omega | assumption) (by first | assumption | rfl) ?_
                    refine a_if hT rfl rfl (fun h5 => ?_) (fun h5 => ?_)
                    · have h5 := of_decide_eq_true h5
                      refine a_ret hT [60] rfl rfl rfl rfl rfl rfl ?_
                      exact ⟨by rw [iv1 (by first | omega | (simp only [List.getD_cons_zero, List.getD_cons_succ, List.length_cons, List.length_nil] <;> omega))]; rfl, rfl⟩
                    · have h5 := of_decide_eq_false h5
                      have iv := iv2 (by simp only [List.getD_cons_zero, List.getD_cons_succ, List.length_cons, List.length_nil] <;> omega)
                      refine a_sl hT 4 (t.length + 4) (t.map eB) rfl rfl rfl rfl rfl ⟨.i64, 0, rfl⟩ (by simp) (by omega) (by simp) (by show (t.map eB).take (t.length + 4 - 4) = _; rw [Nat.add_sub_cancel, ← List.length_map (f := eB), List.take_length]) ?_
                      exact a_next hT t [60] rfl rfl ⟨⟨iv.symm, by simp only [List.length_cons] at i2; omega⟩, by simp only [List.length_cons]; omega⟩ ⟨rfl, rfl, trivial⟩ rfl ⟨rfl, trivial⟩
      have hs4 : ¬ IntKind.i64.wrap ((sz : Nat) : Int) = 4 := ne_of_beq_false hs4
      unfold Lib.checkN at iv
      rw [if_neg (by omega), if_neg (by omega), if_neg (by omega)] at iv
      refine a_ret hT [60] rfl rfl rfl rfl rfl rfl ?_
      exact ⟨by rw [iv]; rfl, rfl⟩
end Go.Proofs.YtjcolfogmmjaoaaGreatDoor
end

section
set_option linter.unusedVariables false
set_option linter.unusedSimpArgs false
set_option maxRecDepth 100000
namespace Go.Proofs.YtjcolfogmmjaoaaGreatDoor
open V A
theorem mt2B : mapT Tryz.prog 173 132 4 = true := by kernel_rfl
theorem und2 : Tryz.prog.underlying 132 = some (.array 2 9) := by kernel_rfl
theorem kSS_ok : KeyOk Tryz.prog 132 kSS := by
  obtain ⟨i, hi⟩ := info_of_underlying (show Tryz.prog.underlying 9 = some .string by kernel_rfl)
  exact key_two und2 (by kernel_rfl) hi (by kernel_rfl)
theorem le_two {a b : ByteArray} : Le (.agg [.v (.string a) 0, .v (.string b) 0]) (.v (kSS (a, b)) 0) := by
  intro M w v hr
  unfold Rep at hr
  obtain ⟨ys, rfl, hr, _⟩ := hr
  unfold Reps at hr
  obtain ⟨y, r, rfl, h1, hr⟩ := hr
  unfold Reps at hr
  obtain ⟨y2, r, rfl, h2, hr⟩ := hr
  unfold Reps at hr
  subst hr
  rw [rep_v h1, rep_v h2]
  unfold Rep
  rfl
theorem UTP_spec {l : List MtP} {key : MtP → (ByteArray × ByteArray)} {f : FuncId} {cap : List AV} (hl : l.length < 4611686018427387904) (hb : callOk Tryz.prog f = true) (hf : ∀ x ∈ l, FSpec Tryz.prog f (.agg ((eT x).map nd) :: cap) [] fun a cs => a = .v (kSS (key x)) 0 ∧ cs = []) :
    FSpec Tryz.prog 71 [.d (.sl 5 (l.map eT)), .fn f cap] [] fun a cs => a = bA (uniqM (l.map key) []) ∧ cs = [] := by
  refine a_enter hT [.d (.sl 5 (l.map eT)), .fn f cap] [] Tryz.func71 rfl rfl rfl ⟨rfl, Fit.refl _, trivial⟩ fun c' => ?_
  have hlen : (l.map eT).length = l.length := List.length_map _
  refine a_mkmap hT 40 rfl rfl rfl fun r => ?_
  refine a_loop hT [1, 5, 9, 10, 11] (fun x : Nat × List ((ByteArray × ByteArray) × Bool) => [.fn f cap, .v (.map (some r)) 40, .d (.sl 5 (l.map eT)), .v (kI l.length) 0, .v (kI x.1) 0]) (fun x => [(40, .map r (mapG kSS bA x.2))]) (fun x => uniqM ((l.drop x.1).map key) x.2 = uniqM (l.map key) [] ∧ x.1 ≤ l.length) (fun x => l.length - x.1) (0, []) [40] rfl rfl ⟨rfl, Nat.zero_le _⟩ ⟨Fit.refl _, rfl, rfl, by rw [← hlen]; rfl, rfl, trivial⟩ rfl ⟨⟨rfl, rfl⟩, trivial⟩ ?_
  rintro ⟨i, M⟩ ⟨i1, i2⟩
  dsimp only at i1 i2
  have hw := wN i (by omega)
  rcases Nat.lt_or_ge i l.length with hil | hil
  · have hat : (l.map eT)[(i : Int).toNat]? = some (eT l[i]) := by simp [hil]
    have hF := hf l[i] (List.getElem_mem hil)
    rw [drop_at hil, List.map_cons, uniqM_cons] at i1
    refine a_t hT rfl rfl (decide_eq_true (by show (i : Int) < (l.length : Int); omega)) ?_
    refine a_ix hT _ rfl rfl rfl rfl rfl rfl (by omega) hat ?_
    refine a_new hT hZ 20 rfl rfl rfl rfl fun g => ?_
    refine a_callv hT rfl rfl rfl rfl hb hF [] [] rfl rfl ?_
    rintro _ _ ⟨rfl, rfl⟩
    cases hg : aget M (key l[i]) with
    | none =>
      rw [hg] at i1
      refine a_lookG hT (kv := kSS) (va := bA) M (key l[i]) _ rfl rfl rfl mt2B kSS_ok zeroB rfl rfl rfl rfl rfl hg ?_
      refine a_f hT rfl rfl rfl ?_
      refine a_callv hT rfl rfl rfl rfl hb hF [] [] rfl rfl ?_
      rintro _ _ ⟨rfl, rfl⟩
      refine a_mputG hT (kv := kSS) (va := bA) M (key l[i]) true rfl rfl rfl mt2B kSS_ok rfl rfl rfl rfl rfl rfl ?_
      exact a_next hT (i + 1, aput M (key l[i]) true) [40] rfl rfl ⟨⟨i1, by dsimp only; omega⟩, by dsimp only; omega⟩ ⟨Fit.refl _, rfl, rfl, rfl, by show Value.int .i64 _ = Value.int .i64 _; rw [hw], trivial⟩ rfl ⟨⟨rfl, rfl⟩, trivial⟩
    | some b =>
      rw [hg] at i1
      cases b with
      | true =>
        refine a_lookG hT (kv := kSS) (va := bA) M (key l[i]) _ rfl rfl rfl mt2B kSS_ok zeroB rfl rfl rfl rfl rfl hg ?_
        refine a_t hT rfl rfl rfl ?_
        exact a_ret hT [] rfl rfl rfl rfl rfl rfl ⟨by rw [← i1]; rfl, rfl⟩
      | false =>
        refine a_lookG hT (kv := kSS) (va := bA) M (key l[i]) _ rfl rfl rfl mt2B kSS_ok zeroB rfl rfl rfl rfl rfl hg ?_
        refine a_f hT rfl rfl rfl ?_
        refine a_callv hT rfl rfl rfl rfl hb hF [] [] rfl rfl ?_
        rintro _ _ ⟨rfl, rfl⟩
        refine a_mputG hT (kv := kSS) (va := bA) M (key l[i]) true rfl rfl rfl mt2B kSS_ok rfl rfl rfl rfl rfl rfl ?_
        exact a_next hT (i + 1, aput M (key l[i]) true) [40] rfl rfl ⟨⟨i1, by dsimp only; omega⟩, by dsimp only; omega⟩ ⟨Fit.refl _, rfl, rfl, rfl, by show Value.int .i64 _ = Value.int .i64 _; rw [hw], trivial⟩ rfl ⟨⟨rfl, rfl⟩, trivial⟩
  · have hnil : l.drop i = [] := List.drop_eq_nil_of_le hil
    rw [hnil] at i1
    refine a_if hT rfl rfl (fun h => ?_) (fun h => ?_)
    · have h := of_decide_eq_true h
      (exfalso; first | omega | contradiction)
    · have h := of_decide_eq_false h
      refine a_ret hT [] rfl rfl rfl rfl rfl rfl ?_
      exact ⟨by rw [← i1]; rfl, rfl⟩
theorem form5_spec {t : MtP} : FSpec Tryz.prog 72 [.agg ((eT t).map nd)] [] fun a cs => a = .v (kSS (t.svc, t.name)) 0 ∧ cs = [] := by
  refine FSpec.le ?_
  refine a_enter hT [.agg ((eT t).map nd)] [] Tryz.func72 rfl rfl rfl ⟨Fit.refl _, trivial⟩ fun c' => ?_
  refine a_box hT 20 rfl rfl rfl rfl fun g => ?_
  refine a_new hT hZ 21 rfl rfl rfl rfl fun g1 => ?_
  refine a_buildR hT hZ [.v (.string t.svc) 0, .v (.string t.name) 0] rfl rfl rfl rfl rfl rfl ?_
  refine a_ret hT [] rfl rfl rfl rfl rfl rfl ?_
  exact ⟨_, le_two, rfl, rfl⟩
def badV (v : VDP) : Bool := !plainP v.name || decide (v.num < 0) || decide (v.num > 2147483647)
def enumP (e : EDP) : Bool := e.vs.all (fun v => !badV v) && ((match e.vs with | [] => false | v :: _ => v.num == 0) && (uniqM (e.vs.map (·.name)) [] && uniqM (e.vs.map (·.num)) []))
theorem enum1_spec {v : VDP} : FSpec Tryz.prog 111 [.agg ((eVd v).map nd)] [] fun a cs => a = .v (kS v.name) 0 ∧ cs = [] := by
  refine a_enter hT [.agg ((eVd v).map nd)] [] Tryz.func111 rfl rfl rfl ⟨Fit.refl _, trivial⟩ fun c' => ?_
  refine a_box hT 20 rfl rfl rfl rfl fun g => ?_
  refine a_ret hT [] rfl rfl rfl rfl rfl rfl ?_
  exact ⟨rfl, rfl⟩
theorem enum2_spec {v : VDP} : FSpec Tryz.prog 113 [.agg ((eVd v).map nd)] [] fun a cs => a = .v (kI v.num) 0 ∧ cs = [] := by
  refine a_enter hT [.agg ((eVd v).map nd)] [] Tryz.func113 rfl rfl rfl ⟨Fit.refl _, trivial⟩ fun c' => ?_
  refine a_box hT 20 rfl rfl rfl rfl fun g => ?_
  refine a_ret hT [] rfl rfl rfl rfl rfl rfl ?_
  exact ⟨rfl, rfl⟩
theorem enum_spec {e : EDP} (hl : e.vs.length < 4611686018427387904) (hn : ∀ v ∈ e.vs, v.name.size ≤ 4611686018427387904) : FSpec Tryz.prog 69 [.agg ((eE e).map nd)] [] fun a cs => a = bA (enumP e) ∧ cs = [] := by
  refine a_enter hT [.agg ((eE e).map nd)] [] Tryz.func69 rfl rfl rfl ⟨Fit.refl _, trivial⟩ fun c' => ?_
  have hlen : (e.vs.map eVd).length = e.vs.length := List.length_map _
  refine a_box hT 20 rfl rfl rfl rfl fun g1 => ?_
  refine a_freezeK 1 20 rfl rfl rfl rfl rfl ?_
  refine a_loop hT [1, 6, 7, 8] (fun i : Nat => [.d (.p (eE e)), .d (.sl 2 (e.vs.map eVd)), .v (kI e.vs.length) 0, .v (kI i) 0]) (fun _ => []) (fun i => (e.vs.drop i).all (fun v => !badV v) = e.vs.all (fun v => !badV v) ∧ i ≤ e.vs.length) (fun i => e.vs.length - i) 0 [] rfl rfl ⟨rfl, Nat.zero_le _⟩ ⟨rfl, rfl, by rw [← hlen]; rfl, rfl, trivial⟩ rfl trivial ?_
  rintro i ⟨i1, i2⟩
  have hw := wN i (by omega)
  rcases Nat.lt_or_ge i e.vs.length with hil | hil
  · have hat : (e.vs.map eVd)[(i : Int).toNat]? = some (eVd e.vs[i]) := by simp [hil]
    have hnm := hn e.vs[i] (List.getElem_mem hil)
    rw [drop_at hil, List.all_cons] at i1
    generalize e.vs[i] = x at hat hnm i1
    refine a_if hT rfl rfl (fun h => ?_) (fun h => ?_)
    · have h := of_decide_eq_true h
      refine a_ix hT _ rfl rfl rfl rfl rfl rfl (by first | omega | assumption) (by first | assumption | rfl) ?_
      refine a_new hT hZ 20 rfl rfl rfl rfl fun g => ?_
      refine a_call hT rfl rfl rfl (by kernel_rfl) (Plain_spec (by first | assumption | rfl | decide | omega | (dsimp only; omega))) [] [] rfl rfl ?_
      rintro _ _ ⟨rfl, rfl⟩
      refine a_g hT rfl rfl rfl (fun h1 => ?_) (fun h1 => ?_)
      · simp at h1
        refine a_gt hT rfl rfl rfl rfl ?_
        refine a_t hT rfl rfl rfl ?_
        refine a_ret hT [] rfl rfl rfl rfl rfl rfl ?_
        exact b_eq (by unfold enumP; rw [← i1, show badV x = true by (simp [badV]; first | omega | simp_all)]; simp)
      · simp at h1
        refine a_g hT rfl rfl rfl (fun h2 => ?_) (fun h2 => ?_)
        · have h2 := of_decide_eq_true h2
          refine a_t hT rfl rfl rfl ?_
          refine a_ret hT [] rfl rfl rfl rfl rfl rfl ?_
          exact b_eq (by unfold enumP; rw [← i1, show badV x = true by (simp [badV]; first | omega | simp_all)]; simp)
        · have h2 := of_decide_eq_false h2
          refine a_if hT rfl rfl (fun h3 => ?_) (fun h3 => ?_)
          · have h3 := of_decide_eq_true h3
            refine a_ret hT [] rfl rfl rfl rfl rfl rfl ?_
            exact b_eq (by unfold enumP; rw [← i1, show badV x = true by (simp [badV]; first | omega | simp_all)]; simp)
          · have h3 := of_decide_eq_false h3
            exact a_next hT (i + 1) [] rfl rfl ⟨⟨by rw [← i1, show badV x = false by (simp [badV]; first | omega | simp_all)]; simp, by omega⟩, by omega⟩ ⟨rfl, rfl, rfl, by show Value.int .i64 _ = Value.int .i64 _; rw [hw], trivial⟩ rfl trivial
    · have h := of_decide_eq_false h
      (exfalso; first | omega | contradiction)
  · have hU1 := UVS_spec (l := e.vs) (key := fun v => v.name) (f := 111) (cap := []) hl (by kernel_rfl) (fun x _ => enum1_spec)
    have hU2 := UVI_spec (l := e.vs) (key := fun v => v.num) (f := 113) (cap := []) hl (by kernel_rfl) (fun x _ => enum2_spec)
    have hnil : e.vs.drop i = [] := List.drop_eq_nil_of_le hil
    rw [hnil, List.all_nil] at i1
    have hE : enumP e = (e.vs.all (fun v => !badV v) && ((match e.vs with | [] => false | v :: _ => v.num == 0) && (uniqM (e.vs.map (·.name)) [] && uniqM (e.vs.map (·.num)) []))) := rfl
    rw [← i1, Bool.true_and] at hE
    generalize uniqM (e.vs.map (·.name)) [] = u1 at hU1 hE
    generalize uniqM (e.vs.map (·.num)) [] = u2 at hU2 hE
    cases hv : e.vs with
    | nil =>
      rw [hv] at hE
      rw [hE]
      have h0 : (e.vs.map eVd).length = 0 := by rw [hv]; rfl
      refine a_f hT rfl rfl rfl ?_
      refine a_g hT rfl rfl rfl (fun h => ?_) (fun h => ?_)
      · have h := of_decide_eq_true h
        (exfalso; first | omega | contradiction)
      · have h := of_decide_eq_false h
        refine a_gf hT rfl rfl rfl rfl ?_
        refine a_gf hT rfl rfl rfl rfl ?_
        refine a_ret hT [] rfl rfl rfl rfl rfl rfl ?_
        exact b_eq (by simp_all)
    | cons x l =>
      rw [hv] at hE
      rw [hE]
      have hlv : e.vs.length = (x :: l).length := by rw [hv]
      have h0 : (e.vs.map eVd).length > 0 := by rw [hv]; simp
      have hat : (e.vs.map eVd)[(0 : Int).toNat]? = some (eVd x) := by rw [hv]; rfl
      refine a_if hT rfl rfl (fun h => ?_) (fun h => ?_)
      · have h := of_decide_eq_true h
        (exfalso; first | omega | contradiction)
      · have h := of_decide_eq_false h
        refine a_g hT rfl rfl rfl (fun h1 => ?_) (fun h1 => ?_)
        · have h1 := of_decide_eq_true h1
          refine a_ix hT _ rfl rfl rfl rfl rfl rfl (by first | omega | assumption) (by first | assumption | rfl) ?_
          refine a_g hT rfl rfl rfl (fun h2 => ?_) (fun h2 => ?_)
          · have h2 := eq_of_beq h2
            refine a_call hT rfl rfl rfl (by kernel_rfl) hU1 [] [] rfl rfl ?_
            rintro _ _ ⟨rfl, rfl⟩
            refine a_g hT rfl rfl rfl (fun h3 => ?_) (fun h3 => ?_)
            · refine a_call hT rfl rfl rfl (by kernel_rfl) hU2 [] [] rfl rfl ?_
              rintro _ _ ⟨rfl, rfl⟩
              refine a_ret hT [] rfl rfl rfl rfl rfl rfl ?_
              exact b_eq (by simp_all)
            · refine a_ret hT [] rfl rfl rfl rfl rfl rfl ?_
              exact b_eq (by simp_all)
          · have h2 := ne_of_beq_false h2
            refine a_gf hT rfl rfl rfl rfl ?_
            refine a_ret hT [] rfl rfl rfl rfl rfl rfl ?_
            exact b_eq (by simp_all)
        · have h1 := of_decide_eq_false h1
          (exfalso; first | omega | contradiction)
end Go.Proofs.YtjcolfogmmjaoaaGreatDoor
end

section
set_option linter.unusedVariables false
set_option linter.unusedSimpArgs false
set_option maxRecDepth 100000
namespace Go.Proofs.YtjcolfogmmjaoaaGreatDoor
open V A
def eBo (b : Bool) : List A.Dat := [.v (.bool b)]
def FDP.holds (f : FDP) : Bool := f.kind == 10 && !f.rep
def goF (rec : Int → List Bool → Bool × List Bool) (t : Int) : List FDP → List Bool → Bool × List Bool
  | [], seen => (false, seen)
  | f :: l, seen => if f.holds then
      if f.ty = t then (true, seen)
      else if seen.getD f.ty.toNat false then goF rec t l seen
      else match rec f.ty (seen.set f.ty.toNat true) with
        | (true, s) => (true, s)
        | (false, s) => goF rec t l s
    else goF rec t l seen
theorem goF_cons (rec : Int → List Bool → Bool × List Bool) (t : Int) (f : FDP) (l : List FDP) (seen : List Bool) : goF rec t (f :: l) seen = if f.holds then
      if f.ty = t then (true, seen)
      else if seen.getD f.ty.toNat false then goF rec t l seen
      else match rec f.ty (seen.set f.ty.toNat true) with
        | (true, s) => (true, s)
        | (false, s) => goF rec t l s
    else goF rec t l seen := rfl
def fsOf (ms : List MDP) (k : Int) : List FDP := match ms[k.toNat]? with | some m => m.fs | none => []
def reachF (ms : List MDP) (t : Int) : Nat → Int → List Bool → Bool × List Bool
  | 0, _, seen => (false, seen)
  | n + 1, k, seen => goF (reachF ms t n) t (fsOf ms k) seen
theorem count_set : ∀ (l : List Bool) (i : Nat), l[i]? = some false → (l.set i true).count false + 1 = l.count false
  | [], i, h => by simp at h
  | b :: l, 0, h => by simp at h; subst h; simp
  | b :: l, i + 1, h => by
    have := count_set l i (by simpa using h)
    rw [List.set_cons_succ, List.count_cons, List.count_cons]
    omega
theorem count_set_le : ∀ (l : List Bool) (i : Nat), (l.set i true).count false ≤ l.count false
  | [], i => by simp
  | b :: l, 0 => by rw [List.set_cons_zero, List.count_cons, List.count_cons]; simp
  | b :: l, i + 1 => by
    have := count_set_le l i
    rw [List.set_cons_succ, List.count_cons, List.count_cons]
    omega
theorem goF_mono {rec : Int → List Bool → Bool × List Bool} {t : Int} (hr : ∀ k s, (rec k s).2.length = s.length ∧ (rec k s).2.count false ≤ s.count false) : ∀ (l : List FDP) (s : List Bool), (goF rec t l s).2.length = s.length ∧ (goF rec t l s).2.count false ≤ s.count false
  | [], s => ⟨rfl, Nat.le_refl _⟩
  | f :: l, s => by
    unfold goF
    split
    · split
      · exact ⟨rfl, Nat.le_refl _⟩
      · split
        · exact goF_mono hr l s
        · have h1 := hr f.ty (s.set f.ty.toNat true)
          have h2 := count_set_le s f.ty.toNat
          split
          · rename_i s' e
            rw [e] at h1
            exact ⟨by rw [h1.1, List.length_set], by omega⟩
          · rename_i s' e
            rw [e] at h1
            have h3 := goF_mono hr (t := t) l s'
            dsimp only at h1
            exact ⟨by rw [h3.1, h1.1, List.length_set], by omega⟩
    · exact goF_mono hr l s
theorem reachF_mono (ms : List MDP) (t : Int) : ∀ (n : Nat) (k : Int) (s : List Bool), (reachF ms t n k s).2.length = s.length ∧ (reachF ms t n k s).2.count false ≤ s.count false
  | 0, k, s => ⟨rfl, Nat.le_refl _⟩
  | n + 1, k, s => goF_mono (reachF_mono ms t n) _ _
def Held (ms : List MDP) : Prop := ∀ m ∈ ms, m.fs.length ≤ 1000 ∧ ∀ f ∈ m.fs, f.kind = 10 → 0 ≤ f.ty ∧ f.ty < ms.length
def rchN : FuncId := 116
def capsN (s : SchP) (t : Int) (gs gf : Nat) : List AV := [.d (.p (schD s)), .d (.p [.v (kI t)]), .v (.pointer (some ⟨gs, 0, none⟩)) 30, .v (.pointer (some ⟨gf, 0, none⟩)) 32]
def seenC (s : SchP) (t : Int) (gs gf : Nat) (v : Value) (seen : List Bool) : List Chunk := [.blk gs 174 [.row v 31], .row v 4 1 (seen.map eBo), .blk gf 108 [.fn rchN (capsN s t gs gf)]]
theorem reach_spec {s : SchP} {t : Int} {gs gf : Nat} {v : Value} (hs : Held s.ms) : ∀ (n : Nat) (k : Int) (h : Nat) (seen : List Bool), 0 ≤ k → k < s.ms.length → seen.length = s.ms.length → seen.count false < n →
    FSpec Tryz.prog rchN (.v (kI k) h :: capsN s t gs gf) (seenC s t gs gf v seen) fun a cs => a = bA (reachF s.ms t n k seen).1 ∧ cs = seenC s t gs gf v (reachF s.ms t n k seen).2 := by
  intro n
  induction n with
  | zero => intro k h seen _ _ _ h; omega
  | succ n ih =>
    intro k h seen hk0 hk hsl hcn
    refine a_enter hT (.v (kI k) 0 :: capsN s t gs gf) [30, 31, 32] Tryz.func116 rfl rfl rfl ⟨rfl, Fit.refl _, Fit.refl _, Fit.refl _, Fit.refl _, trivial⟩ fun c' => ?_
    have hkk : k.toNat < s.ms.length := by omega
    have hat : (s.ms.map eM)[k.toNat]? = some (eM s.ms[k.toNat]) := by simp [hkk]
    have hm := List.getElem_mem hkk
    have hhm := hs _ hm
    have hfs : fsOf s.ms k = s.ms[k.toNat].fs := by unfold fsOf; rw [List.getElem?_eq_getElem hkk]
    unfold reachF
    rw [hfs]
    generalize s.ms[k.toNat] = m at hat hm hhm
    have hlen : (m.fs.map eF).length = m.fs.length := List.length_map _
    refine a_ix hT _ rfl rfl rfl rfl rfl rfl hk0 hat ?_
    have hL0 : (seen.map eBo).length = s.ms.length := by rw [List.length_map, hsl]
    refine a_rowfact 31 rfl rfl fun hf => ?_
    rcases hf with ⟨_, hf⟩ | ⟨gr, cap, rfl⟩
    · rw [hf] at hL0
      simp at hL0
      omega
    generalize (seen.map eBo).length = L0 at *
    have hmono := reachF_mono s.ms t n
    generalize reachF s.ms t n = rec at *
    refine a_loop hT [2, 3, 4, 14, 15, 16] (fun x : Nat × List Bool => [.d (.p [.v (kI t)]), .v (.pointer (some ⟨gs, 0, none⟩)) 30, .v (.pointer (some ⟨gf, 0, none⟩)) 32, .d (.sl 5 (m.fs.map eF)), .v (kI m.fs.length) 0, .v (kI x.1) 0]) (fun x => [(30, .blk gs 174 [.row (.slice (some ⟨gr, 0, none⟩) L0 cap) 31]), (31, .row (.slice (some ⟨gr, 0, none⟩) L0 cap) 4 1 (x.2.map eBo)), (32, .blk gf 108 [.fn rchN (capsN s t gs gf)])]) (fun x => goF rec t (m.fs.drop x.1) x.2 = goF rec t m.fs seen ∧ x.1 ≤ m.fs.length ∧ x.2.length = s.ms.length ∧ x.2.count false < n + 1) (fun x => m.fs.length - x.1) (0, seen) [30, 31, 32] rfl rfl ⟨rfl, Nat.zero_le _, hsl, hcn⟩ ⟨rfl, rfl, rfl, rfl, by rw [← hlen]; rfl, rfl, trivial⟩ rfl ⟨⟨rfl, rfl, rfl, trivial⟩, ⟨rfl, rfl, rfl, rfl⟩, ⟨rfl, rfl, Fit.refl _, trivial⟩, trivial⟩ ?_
    rintro ⟨i, se⟩ ⟨i1, i2, i3, i4⟩
    dsimp only at i1 i2 i3 i4
    have hw := wN i (by omega)
    rcases Nat.lt_or_ge i m.fs.length with hil | hil
    · have hat : (m.fs.map eF)[(i : Int).toNat]? = some (eF m.fs[i]) := by simp [hil]
      have hhx := hhm.2 m.fs[i] (List.getElem_mem hil)
      rw [drop_at hil, goF_cons] at i1
      generalize m.fs[i] = x at hat hhx i1
      refine a_t hT rfl rfl (decide_eq_true (by show (i : Int) < (m.fs.length : Int); omega)) ?_
      refine a_ix hT _ rfl rfl rfl rfl rfl rfl (by first | omega | assumption) (by first | assumption | rfl) ?_
      refine a_new hT hZ 33 rfl rfl rfl rfl fun g => ?_
      refine a_g hT rfl rfl rfl (fun h2 => ?_) (fun h2 => ?_)
      · have h2 := bne_iff_ne.1 h2
        rw [if_neg (by unfold FDP.holds; simp [show ¬ x.kind = 10 from h2])] at i1
        refine a_t hT rfl rfl rfl ?_
        exact a_next hT (i + 1, se) [30, 31, 32] rfl rfl ⟨⟨i1, by omega, i3, i4⟩, by dsimp only; omega⟩ ⟨rfl, rfl, rfl, rfl, rfl, by show Value.int .i64 _ = Value.int .i64 _; rw [hw], trivial⟩ rfl ⟨⟨rfl, rfl, rfl, trivial⟩, ⟨rfl, rfl, rfl, rfl⟩, ⟨rfl, rfl, Fit.refl _, trivial⟩, trivial⟩
      · have h2 : x.kind = 10 := by simpa using h2
        refine a_if hT rfl rfl (fun h3 => ?_) (fun h3 => ?_)
        · have h3 : x.rep = true := h3
          rw [if_neg (by unfold FDP.holds; simp [h3])] at i1
          exact a_next hT (i + 1, se) [30, 31, 32] rfl rfl ⟨⟨i1, by omega, i3, i4⟩, by dsimp only; omega⟩ ⟨rfl, rfl, rfl, rfl, rfl, by show Value.int .i64 _ = Value.int .i64 _; rw [hw], trivial⟩ rfl ⟨⟨rfl, rfl, rfl, trivial⟩, ⟨rfl, rfl, rfl, rfl⟩, ⟨rfl, rfl, Fit.refl _, trivial⟩, trivial⟩
        · have h3 : x.rep = false := h3
          rw [if_pos (by unfold FDP.holds; simp [h2, h3])] at i1
          obtain ⟨hx0, hx1⟩ := hhx h2
          refine a_if hT rfl rfl (fun h4 => ?_) (fun h4 => ?_)
          · have h4 : x.ty = t := eq_of_beq h4
            rw [if_pos h4] at i1
            refine a_ret hT [30, 31, 32] rfl rfl rfl rfl rfl rfl ?_
            rw [← i1]
            exact ⟨rfl, rfl⟩
          · have h4 : ¬ x.ty = t := ne_of_beq_false h4
            rw [if_neg h4] at i1
            have hgd : se[x.ty.toNat]? = some (se.getD x.ty.toNat false) := by
              rw [List.getD_eq_getElem?_getD, List.getElem?_eq_getElem (by omega)]; rfl
            have hge : (se.map eBo)[x.ty.toNat]? = some (eBo (se.getD x.ty.toNat false)) := by rw [List.getElem?_map, hgd]; rfl
            generalize hbb : se.getD x.ty.toNat false = b at hgd hge i1
            refine a_rix hT x.ty.toNat rfl rfl rfl rfl rfl rfl (by omega) (by omega) ?_
            refine a_rld hT x.ty.toNat 0 (eBo b) (.d (.v (.bool b))) rfl rfl rfl rfl rfl rfl (by omega) hge rfl ?_
            cases b with
            | true =>
              rw [if_pos rfl] at i1
              refine a_f hT rfl rfl rfl ?_
              exact a_next hT (i + 1, se) [30, 31, 32] rfl rfl ⟨⟨i1, by omega, i3, i4⟩, by dsimp only; omega⟩ ⟨rfl, rfl, rfl, rfl, rfl, by show Value.int .i64 _ = Value.int .i64 _; rw [hw], trivial⟩ rfl ⟨⟨rfl, rfl, rfl, trivial⟩, ⟨rfl, rfl, rfl, rfl⟩, ⟨rfl, rfl, Fit.refl _, trivial⟩, trivial⟩
            | false =>
              rw [if_neg Bool.false_ne_true] at i1
              refine a_t hT rfl rfl rfl ?_
              refine a_rix hT x.ty.toNat rfl rfl rfl rfl rfl rfl (by omega) (by omega) ?_
              refine a_rst hT x.ty.toNat 0 (eBo false) (.v (.bool true)) rfl rfl rfl rfl rfl rfl rfl (by omega) hge (by omega) rfl ?_
              have hset : (se.map eBo).set x.ty.toNat ((eBo false).set 0 (.v (.bool true))) = (se.set x.ty.toNat true).map eBo := by rw [List.map_set]; rfl
              have hcs := count_set se x.ty.toNat hgd
              have hmo := hmono x.ty (se.set x.ty.toNat true)
              have hls : (se.set x.ty.toNat true).length = s.ms.length := by rw [List.length_set]; exact i3
              have hS := ih x.ty 0 (se.set x.ty.toNat true) hx0 hx1 hls (by omega)
              generalize rec x.ty (se.set x.ty.toNat true) = r at hS hmo i1
              obtain ⟨r1, s1⟩ := r
              dsimp only at hmo hS
              unfold seenC at hS
              rw [← hset] at hS
              refine a_callv hT rfl rfl rfl rfl (by kernel_rfl) hS [30, 31, 32] [30, 31, 32] rfl rfl ?_
              rintro _ _ ⟨rfl, rfl⟩
              cases r1 with
              | true =>
                dsimp only at i1
                refine a_t hT rfl rfl rfl ?_
                refine a_ret hT [30, 31, 32] rfl rfl rfl rfl rfl rfl ?_
                rw [← i1]
                exact ⟨rfl, rfl⟩
              | false =>
                dsimp only at i1
                refine a_f hT rfl rfl rfl ?_
                exact a_next hT (i + 1, s1) [30, 31, 32] rfl rfl ⟨⟨i1, by omega, by rw [hmo.1]; exact hls, by dsimp only; omega⟩, by dsimp only; omega⟩ ⟨rfl, rfl, rfl, rfl, rfl, by show Value.int .i64 _ = Value.int .i64 _; rw [hw], trivial⟩ rfl ⟨⟨rfl, rfl, rfl, trivial⟩, ⟨rfl, rfl, rfl, rfl⟩, ⟨rfl, rfl, Fit.refl _, trivial⟩, trivial⟩
    · have hnil : m.fs.drop i = [] := List.drop_eq_nil_of_le hil
      rw [hnil] at i1
      rw [← i1]
      refine a_f hT rfl rfl (decide_eq_false (by show ¬ (i : Int) < (m.fs.length : Int); omega)) ?_
      refine a_ret hT [30, 31, 32] rfl rfl rfl rfl rfl rfl ?_
      exact ⟨rfl, rfl⟩
end Go.Proofs.YtjcolfogmmjaoaaGreatDoor
end
