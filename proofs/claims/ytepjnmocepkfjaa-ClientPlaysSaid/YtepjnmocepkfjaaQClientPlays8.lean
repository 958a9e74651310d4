import Derived.Test.YtepjnmocepkfjaaQClientPlays6
import Derived.Sort.Defs
import Derived.Sort.AssemblyPlain
import Derived.Test.YtepjnmocepkfjaaQClientPlays7
section
/- Rows of numbers, as arrays: read, written. -/
set_option linter.unusedVariables false
set_option linter.unusedSectionVars false
set_option linter.unusedSimpArgs false
set_option maxRecDepth 100000
namespace Go.Proofs.Ytepjnmocepkfjaa
open V A
def eU (n : Int) : List A.Dat := [.v (kU n)]
abbrev rowU (v : Value) (d : Array Int) : Chunk := .row v 25 1 (d.toList.map eU)
abbrev slV (g : Nat) (d : Array Int) (cap : Nat) : Value := .slice (some ⟨g, 0, none⟩) d.size cap
theorem eU_at {d : Array Int} {i : Nat} (h : i < d.size) : (d.toList.map eU)[i]? = some (eU d[i]!) := by
  rw [List.getElem?_map, Array.getElem?_toList, getElem!_pos d i h, Array.getElem?_eq_getElem h]; rfl
theorem eU_set {d : Array Int} {i : Nat} (x : Int) : (d.toList.map eU).set i (eU x) = ((d.setIfInBounds i x).toList.map eU) := by
  rw [Array.toList_setIfInBounds, List.map_set]
theorem eU_swp {d : Array Int} {i j : Nat} (hi : i < d.size) (hj : j < d.size) : ((d.toList.map eU).set i (eU d[j]!)).set j (eU d[i]!) = ((Go.Sort.swp d i j).toList.map eU) := by
  rw [eU_set, eU_set]; rfl
theorem swp_size (d : Array Int) (i j : Nat) : (Go.Sort.swp d i j).size = d.size := by unfold Go.Sort.swp; simp

end Go.Proofs.Ytepjnmocepkfjaa
namespace Go.Proofs.Ytepjnmocepkfjaa.A
open V
section
variable {P : Program} {L : List TD} {n : Nat} {Q : Exit → Act → World → Prop} {c : Ctx}
variable {s : AMS} {f f' : AEnv} {σ σ' : Store} {ob : Obs} {κ : List Kt} {all : Array Oper} {dec : List Nat} {o : Oper} {al : Bool} {rest : List (Oper × Bool)} {m : Mode}
theorem a_uld (hT : TOk P L) {t e : TypeId} {x : Operand} {g hh l cap off : Nat} {v' : Value} (i : Nat) (d : Array Int) (h : machA L n fuel s f σ [] = ⟨.op m κ all dec o true rest, f', σ', ob⟩) (hob : ob.map (·.1) = ob.map (·.2)) (ho : o.op = .load t x)
    (hx : evA n f' x = .v (.pointer (some ⟨g, off, none⟩)) hh) (hl : look σ' hh = some (.row v' e 1 (d.toList.map eU))) (hv' : v' = .slice (some ⟨g, 0, none⟩) l cap) (hoff : off = i * 1) (hi : i < d.size) (ht : oneT (tl L t) = true)
    (hk : DenA c P n Q (.ops (m.hap true) κ all dec rest) (putA f' o.dst (.d (.v (kU d[i]!)))) σ') : DenA c P n Q s f σ :=
  a_rld hT i 0 (eU d[i]!) (.d (.v (kU d[i]!))) h hob ho hx hl hv' hoff (eU_at hi) (by unfold loadK; rw [ht]; rfl) hk
theorem a_uldP (hT : TOk P L) {t e : TypeId} {x : Operand} {g hh l cap off : Nat} {v' : Value} {σp : Store} {ex : Ex} {pre : Bool} (i : Nat) (d : Array Int) (h : machA L n fuel s f σ [] = ⟨.op (.reg pre σp ex) κ all dec o al rest, f', σ', ob⟩) (hob : ob.map (·.1) = ob.map (·.2)) (ho : o.op = .load t x)
    (hx : evA n f' x = .v (.pointer (some ⟨g, off, none⟩)) hh) (hl : look σp hh = some (.row v' e 1 (d.toList.map eU))) (hv' : v' = .slice (some ⟨g, 0, none⟩) l cap) (hoff : off = i * 1) (hi : i < d.size) (ht : oneT (tl L t) = true)
    (hk : DenA c P n Q (.ops (.reg pre σp ex) κ all dec rest) (putA f' o.dst (.d (.v (kU d[i]!)))) σ') : DenA c P n Q s f σ :=
  a_rldP hT i 0 (eU d[i]!) (.d (.v (kU d[i]!))) h hob ho hx hl hv' hoff (eU_at hi) (by unfold loadK; rw [ht]; rfl) hk
theorem a_ust (hT : TOk P L) {t e : TypeId} {x y : Operand} {g hh l cap off : Nat} {v' : Value} (j : Nat) (d : Array Int) (u : Int) (h : machA L n fuel s f σ [] = ⟨.op m κ all dec o true rest, f', σ', ob⟩) (hob : ob.map (·.1) = ob.map (·.2)) (ho : o.op = .store t x y) (ht : oneT (tl L t) = true)
    (hx : evA n f' x = .v (.pointer (some ⟨g, off, none⟩)) hh) (hl : look σ' hh = some (.row v' e 1 (d.toList.map eU))) (hv' : v' = .slice (some ⟨g, 0, none⟩) l cap) (hoff : off = j * 1) (hj : j < d.size) (hy : datK (evA n f' y) = some (.v (kU u)))
    (hk : DenA c P n Q (.ops (m.hap true) κ all dec rest) (putA f' o.dst (.v undef 0)) (upd σ' hh (.row v' e 1 ((d.setIfInBounds j u).toList.map eU)))) : DenA c P n Q s f σ := by
  refine a_rst hT j 0 (eU d[j]!) (.v (kU u)) h hob ho ht hx hl hv' hoff (eU_at hj) (by omega) hy ?_
  rw [show (eU d[j]!).set 0 (.v (kU u)) = eU u from rfl, eU_set]
  exact hk
end
end Go.Proofs.Ytepjnmocepkfjaa.A
end

section
/- slices.Sort of numbers: rows of numbers; Less; insertionSortOrdered. -/
set_option linter.unusedVariables false
set_option linter.unusedSimpArgs false
set_option maxRecDepth 100000
namespace Go.Proofs.Ytepjnmocepkfjaa
open V A
theorem isNaN_spec {x : Int} {h : Nat} : FSpec Try.prog 85 [.v (kU x) h] [] fun a cs => a = bA false ∧ cs = [] := by
  refine a_enter hT [.v (kU x) 0] [] Try.func85 rfl rfl rfl ⟨rfl, trivial⟩ fun c => ?_
  refine a_ret hT [] rfl rfl rfl rfl rfl rfl ?_
  exact ⟨by show AV.v (.bool (x != x)) 0 = _; simp; rfl, rfl⟩
theorem uless_spec {x y : Int} {h h1 : Nat} : FSpec Try.prog 74 [.v (kU x) h, .v (kU y) h1] [] fun a cs => a = bA (decide (x < y)) ∧ cs = [] := by
  refine a_enter hT [.v (kU x) 0, .v (kU y) 0] [] Try.func74 rfl rfl rfl ⟨rfl, rfl, trivial⟩ fun c => ?_
  refine a_call hT rfl rfl rfl (by kernel_rfl) isNaN_spec [] [] rfl rfl ?_
  rintro _ _ ⟨rfl, rfl⟩
  refine a_gf hT rfl rfl rfl rfl ?_
  refine a_gf hT rfl rfl rfl rfl ?_
  refine a_ret hT [] rfl rfl rfl rfl rfl rfl ?_
  first | exact ⟨rfl, rfl⟩ | rfl
open Go.Sort in
theorem ins_spec {g cap a b : Nat} {d : Array Int} {h h1 h2 : Nat} (ha : a ≤ b) (hb : b ≤ d.size) (hd : d.size < 1000000) : FSpec Try.prog 68 [.row (slV g d cap) h, .v (kI a) h1, .v (kI b) h2] [rowU (slV g d cap) d] fun _ cs => cs = [rowU (slV g d cap) (insertionSort ltInt d a b)] := by
  refine a_enter hT [.row (slV g d cap) 30, .v (kI a) 0, .v (kI b) 0] [30] Try.func68 rfl rfl rfl ⟨rfl, rfl, rfl, trivial⟩ fun c => ?_
  have hw1 : IntKind.i64.wrap ((a : Int) + 1) = ((a + 1 : Nat) : Int) := by rw [w64 (by omega) (by omega)]; omega
  refine a_loop hT [0, 1, 2, 6] (fun x : Nat × Array Int => [.row (slV g d cap) 30, .v (kI a) 0, .v (kI b) 0, .v (kI x.1) 0]) (fun x => [(30, rowU (slV g d cap) x.2)]) (fun x => x.2.size = d.size ∧ insOuter ltInt a b x.1 x.2 = insertionSort ltInt d a b ∧ a + 1 ≤ x.1 ∧ x.1 ≤ 1000001) (fun x => 1000001 - x.1) (a + 1, d) [30] rfl rfl ⟨rfl, rfl, Nat.le_refl _, by show a + 1 ≤ 1000001; omega⟩ ⟨rfl, rfl, rfl, by rw [hw1]; rfl, trivial⟩ rfl ⟨⟨rfl, rfl, rfl, rfl⟩, trivial⟩ ?_
  rintro ⟨i, e⟩ ⟨hs, he, hi, hi2⟩
  dsimp only at hs he hi hi2 ⊢
  have hs : e.size = d.size := hs
  have he : insOuter ltInt a b i e = insertionSort ltInt d a b := he
  have hi : a + 1 ≤ i := hi
  have hi2 : i ≤ 1000001 := hi2
  refine a_if hT rfl rfl (fun h3 => ?_) (fun h3 => ?_)
  · have h3 := of_decide_eq_true h3
    have he2 : insOuter ltInt a b (i + 1) (insInner ltInt a i e) = insertionSort ltInt d a b := by rw [← he]; conv => rhs; unfold insOuter; rw [if_pos (by omega)]
    refine a_loop hT [0, 1, 2, 6, 7] (fun x : Nat × Array Int => [.row (slV g d cap) 30, .v (kI a) 0, .v (kI b) 0, .v (kI i) 0, .v (kI x.1) 0]) (fun x => [(30, rowU (slV g d cap) x.2)]) (fun x => x.2.size = d.size ∧ insInner ltInt a x.1 x.2 = insInner ltInt a i e ∧ a ≤ x.1 ∧ x.1 ≤ i) (fun x => x.1) (i, e) [30] rfl rfl ⟨hs, rfl, by show a ≤ i; omega, Nat.le_refl _⟩ ⟨rfl, rfl, rfl, rfl, rfl, trivial⟩ rfl ⟨⟨rfl, rfl, rfl, rfl⟩, trivial⟩ ?_
    rintro ⟨j, q⟩ ⟨hq, hqe, hj, hji⟩
    dsimp only at hq hqe hj hji ⊢
    have hq : q.size = d.size := hq
    have hqe : insInner ltInt a j q = insInner ltInt a i e := hqe
    have hj : a ≤ j := hj
    have hji : j ≤ i := hji
    have hw2 : IntKind.i64.wrap ((j : Int) - 1) = (j : Int) - 1 := w64 (by omega) (by omega)
    refine a_drawX hT [] 13 [(0, false), (1, false), (2, false), (3, false), (4, false), (5, false), (6, false), (7, false), (8, false), (9, false), (10, false), (11, false), (12, false), (13, true)] rfl rfl (by kernel_rfl) (by kernel_rfl) rfl ?_
    refine a_g hT rfl rfl rfl (fun h4 => ?_) (fun h4 => ?_)
    · have h4 := of_decide_eq_true h4
      refine a_rix hT (j) rfl rfl rfl rfl rfl rfl (by first | rfl | omega) (by omega) ?_
      refine a_uldP hT (j) (q) rfl rfl rfl rfl rfl rfl rfl (by first | omega | (simp only [Array.size_setIfInBounds, swp_size]; omega)) rfl ?_
      refine a_rix hT (j - 1) rfl rfl rfl rfl rfl rfl (by first | rfl | omega) (by omega) ?_
      refine a_uldP hT (j - 1) (q) rfl rfl rfl rfl rfl rfl rfl (by first | omega | (simp only [Array.size_setIfInBounds, swp_size]; omega)) rfl ?_
      refine a_callF hT rfl rfl rfl (by kernel_rfl) (uless_spec (h := 0) (h1 := 0)) [] [] ⟨rfl, rfl, trivial⟩ rfl trivial ?_
      rintro _ _ ⟨rfl, rfl⟩
      refine a_rest hT [(14, true)] rfl rfl (by kernel_rfl) ?_
      refine a_if hT rfl rfl (fun h5 => ?_) (fun h5 => ?_)
      · have h5 := of_decide_eq_true h5
        refine a_treeN hT [0, 1, 2, 6, 7] (fun _ : Unit => [.row (slV g d cap) 30, .v (kI ↑a) 0, .v (kI ↑b) 0, .v (kI ↑i) 0, .v (kI ↑j) 0]) (fun _ => [(30, rowU (slV g d cap) (swp q j (j - 1)))]) (fun _ => True) [30] 18 [(0, false), (1, false), (2, false), (3, false), (4, false), (5, false), (6, false), (7, false), (8, false), (10, false), (11, false), (12, false)] rfl rfl (by kernel_rfl) (by kernel_rfl) rfl ?_ fun _ _ => ?_
        · refine a_rix hT (j - 1) rfl rfl rfl rfl rfl rfl (by first | rfl | omega) (by omega) ?_
          refine a_rix hT (j) rfl rfl rfl rfl rfl rfl (by first | rfl | omega) (by omega) ?_
          refine a_alt hT [([(9, true), (13, true), (14, true), (15, true), (16, true), (17, true)], true), ([(13, true), (9, true), (14, true), (15, true), (16, true), (17, true)], true)] rfl rfl (by kernel_rfl) ⟨?_, ?_, trivial⟩
          · refine a_uld hT (j - 1) (q) rfl rfl rfl rfl rfl rfl rfl (by first | omega | (simp only [Array.size_setIfInBounds, swp_size]; omega)) rfl ?_
            refine a_uld hT (j) (q) rfl rfl rfl rfl rfl rfl rfl (by first | omega | (simp only [Array.size_setIfInBounds, swp_size]; omega)) rfl ?_
            refine a_rix hT (j) rfl rfl rfl rfl rfl rfl (by first | rfl | omega) (by omega) ?_
            refine a_ust hT (j) (q) _ rfl rfl rfl rfl rfl rfl rfl rfl (by first | omega | (simp only [Array.size_setIfInBounds, swp_size]; omega)) rfl ?_
            refine a_rix hT (j - 1) rfl rfl rfl rfl rfl rfl (by first | rfl | omega) (by omega) ?_
            refine a_ust hT (j - 1) (Array.setIfInBounds q j q[j - 1]!) _ rfl rfl rfl rfl rfl rfl rfl rfl (by first | omega | (simp only [Array.size_setIfInBounds, swp_size]; omega)) rfl ?_
            exact a_next hT () [30] rfl rfl trivial ⟨rfl, rfl, rfl, rfl, rfl, trivial⟩ rfl ⟨⟨rfl, rfl, rfl, rfl⟩, trivial⟩
          · refine a_uld hT (j) (q) rfl rfl rfl rfl rfl rfl rfl (by first | omega | (simp only [Array.size_setIfInBounds, swp_size]; omega)) rfl ?_
            refine a_uld hT (j - 1) (q) rfl rfl rfl rfl rfl rfl rfl (by first | omega | (simp only [Array.size_setIfInBounds, swp_size]; omega)) rfl ?_
            refine a_rix hT (j) rfl rfl rfl rfl rfl rfl (by first | rfl | omega) (by omega) ?_
            refine a_ust hT (j) (q) _ rfl rfl rfl rfl rfl rfl rfl rfl (by first | omega | (simp only [Array.size_setIfInBounds, swp_size]; omega)) rfl ?_
            refine a_rix hT (j - 1) rfl rfl rfl rfl rfl rfl (by first | rfl | omega) (by omega) ?_
            refine a_ust hT (j - 1) (Array.setIfInBounds q j q[j - 1]!) _ rfl rfl rfl rfl rfl rfl rfl rfl (by first | omega | (simp only [Array.size_setIfInBounds, swp_size]; omega)) rfl ?_
            exact a_next hT () [30] rfl rfl trivial ⟨rfl, rfl, rfl, rfl, rfl, trivial⟩ rfl ⟨⟨rfl, rfl, rfl, rfl⟩, trivial⟩
        · refine a_next hT (j - 1, swp q j (j - 1)) [30] rfl rfl ⟨⟨by rw [swp_size]; exact hq, ?_, by show a ≤ j - 1; omega, by show j - 1 ≤ i; omega⟩, by show j - 1 < j; omega⟩ ⟨rfl, rfl, rfl, rfl, by show Value.int .i64 _ = Value.int .i64 _; rw [hw2]; congr 1; show (j : Int) - 1 = ((j - 1 : Nat) : Int); omega, trivial⟩ rfl ⟨⟨rfl, rfl, rfl, rfl⟩, trivial⟩
          rw [← hqe]
          show insInner ltInt a (j - 1) (swp q j (j - 1)) = insInner ltInt a j q
          obtain ⟨j', rfl⟩ : ∃ j', j = j' + 1 := ⟨j - 1, by omega⟩
          conv => rhs; unfold insInner
          rw [if_pos (by simp only [Bool.and_eq_true, decide_eq_true_eq]; exact ⟨by omega, by unfold ltInt; exact decide_eq_true h5⟩)]
          rfl
      · have h5 := of_decide_eq_false h5
        refine a_next hT (i + 1, q) [30] rfl rfl ⟨⟨hq, ?_, by show a + 1 ≤ i + 1; omega, by show i + 1 ≤ 1000001; omega⟩, by show 1000001 - (i + 1) < 1000001 - i; omega⟩ ⟨rfl, rfl, rfl, by show Value.int .i64 _ = Value.int .i64 _; rw [w64 (by omega) (by omega)]; rfl, trivial⟩ rfl ⟨⟨rfl, rfl, rfl, rfl⟩, trivial⟩
        rw [← he2, ← hqe]
        show insOuter ltInt a b (i + 1) q = _
        obtain ⟨j', rfl⟩ : ∃ j', j = j' + 1 := ⟨j - 1, by omega⟩
        conv => rhs; unfold insInner
        rw [if_neg]
        simp only [Bool.and_eq_true, decide_eq_true_eq, not_and]
        exact fun _ h => h5 (of_decide_eq_true h)
    · have h4 := of_decide_eq_false h4
      refine a_rest hT [(14, true)] rfl rfl (by kernel_rfl) ?_
      refine a_f hT rfl rfl rfl ?_
      refine a_next hT (i + 1, q) [30] rfl rfl ⟨⟨hq, ?_, by show a + 1 ≤ i + 1; omega, by show i + 1 ≤ 1000001; omega⟩, by show 1000001 - (i + 1) < 1000001 - i; omega⟩ ⟨rfl, rfl, rfl, by show Value.int .i64 _ = Value.int .i64 _; rw [w64 (by omega) (by omega)]; rfl, trivial⟩ rfl ⟨⟨rfl, rfl, rfl, rfl⟩, trivial⟩
      rw [← he2, ← hqe]
      show insOuter ltInt a b (i + 1) q = _
      cases j with
      | zero => rfl
      | succ j' =>
        conv => rhs; unfold insInner
        rw [if_neg]
        simp only [Bool.and_eq_true, decide_eq_true_eq, not_and]
        intro h; omega
  · have h3 := of_decide_eq_false h3
    refine a_end hT [30] rfl rfl rfl rfl rfl rfl ?_
    show [rowU (slV g d cap) e] = _
    rw [← he]; unfold insOuter; rw [if_neg (by omega)]
end Go.Proofs.Ytepjnmocepkfjaa
end

section
/- slices.Sort of numbers: the pivot's choice, reverseRangeOrdered. -/
set_option linter.unusedVariables false
set_option linter.unusedSimpArgs false
set_option maxRecDepth 100000
namespace Go.Proofs.Ytepjnmocepkfjaa
open V A Go.Sort
abbrev swB (gs : Nat) (s : Int) : Chunk := .blk gs 3 [.v (kI s) 0]
theorem order2_spec {g cap gs : Nat} {d : Array Int} {a b s h h1 h2 h3 : Nat} (ha : a < d.size) (hb : b < d.size) (hd : d.size < 1000000) (hs : s < 1000) : FSpec Try.prog 86 [.row (slV g d cap) h, .v (kI a) h1, .v (kI b) h2, .v (.pointer (some ⟨gs, 0, none⟩)) h3] [rowU (slV g d cap) d, swB gs s]
    fun r cs => r = .tup [.v (kI (order2 ltInt d a b s).1) 0, .v (kI (order2 ltInt d a b s).2.1) 0] ∧ cs = [rowU (slV g d cap) d, swB gs (order2 ltInt d a b s).2.2] := by
  have hw : IntKind.i64.wrap ((s : Int) + 1) = ((s + 1 : Nat) : Int) := by rw [w64 (by omega) (by omega)]; omega
  refine a_enter hT [.row (slV g d cap) 30, .v (kI a) 0, .v (kI b) 0, .v (.pointer (some ⟨gs, 0, none⟩)) 31] [30, 31] Try.func86 rfl rfl rfl ⟨rfl, rfl, rfl, rfl, trivial⟩ fun c => ?_
  refine a_draw hT [] true [(0, false), (1, false), (2, false), (3, false), (4, false), (5, false), (6, false), (7, false), (8, true)] rfl rfl (by kernel_rfl) (by kernel_rfl) rfl ?_
  refine a_rix hT (b) rfl rfl rfl rfl rfl rfl (by first | rfl | omega) (by omega) ?_
  refine a_uldP hT (b) (d) rfl rfl rfl rfl rfl rfl rfl (by first | omega | (simp only [Array.size_setIfInBounds, swp_size]; omega)) rfl ?_
  refine a_rix hT (a) rfl rfl rfl rfl rfl rfl (by first | rfl | omega) (by omega) ?_
  refine a_uldP hT (a) (d) rfl rfl rfl rfl rfl rfl rfl (by first | omega | (simp only [Array.size_setIfInBounds, swp_size]; omega)) rfl ?_
  refine a_callF hT rfl rfl rfl (by kernel_rfl) (uless_spec (h := 0) (h1 := 0)) [] [] ⟨rfl, rfl, trivial⟩ rfl trivial ?_
  rintro _ _ ⟨rfl, rfl⟩
  refine a_if hT rfl rfl (fun h4 => ?_) (fun h4 => ?_)
  · have h4 := of_decide_eq_true h4
    refine a_ret hT [30, 31] rfl rfl rfl rfl rfl rfl ?_
    have e : order2 ltInt d a b s = (b, a, s + 1) := by unfold order2; rw [if_pos (by unfold ltInt; simpa using h4)]
    rw [e]
    exact ⟨rfl, by rw [hw]; rfl⟩
  · have h4 := of_decide_eq_false h4
    refine a_ret hT [30, 31] rfl rfl rfl rfl rfl rfl ?_
    have e : order2 ltInt d a b s = (a, b, s) := by unfold order2; rw [if_neg (by unfold ltInt; simpa using h4)]
    rw [e]
    exact ⟨rfl, rfl⟩
theorem order2_in {d : Array Int} {a b s n : Nat} (ha : a < n) (hb : b < n) : (order2 ltInt d a b s).1 < n ∧ (order2 ltInt d a b s).2.1 < n ∧ (order2 ltInt d a b s).2.2 ≤ s + 1 := by
  unfold order2; split <;> exact ⟨by assumption, by assumption, by simp⟩
theorem median_spec {g cap gs : Nat} {d : Array Int} {a b e s h h1 h2 h3 h4 : Nat} (ha : a < d.size) (hb : b < d.size) (he : e < d.size) (hd : d.size < 1000000) (hs : s < 900) : FSpec Try.prog 84 [.row (slV g d cap) h, .v (kI a) h1, .v (kI b) h2, .v (kI e) h3, .v (.pointer (some ⟨gs, 0, none⟩)) h4] [rowU (slV g d cap) d, swB gs s]
    fun r cs => r = .v (kI (median ltInt d a b e s).1) 0 ∧ cs = [rowU (slV g d cap) d, swB gs (median ltInt d a b e s).2] := by
  refine a_enter hT [.row (slV g d cap) 30, .v (kI a) 0, .v (kI b) 0, .v (kI e) 0, .v (.pointer (some ⟨gs, 0, none⟩)) 31] [30, 31] Try.func84 rfl rfl rfl ⟨rfl, rfl, rfl, rfl, rfl, trivial⟩ fun c => ?_
  have o1 := order2_in (d := d) (s := s) ha hb
  have o2 := order2_in (d := d) (s := (order2 ltInt d a b s).2.2) o1.2.1 he
  have o3 := order2_in (d := d) (s := (order2 ltInt d (order2 ltInt d a b s).2.1 e (order2 ltInt d a b s).2.2).2.2) o1.1 o2.1
  refine a_call hT rfl rfl rfl (by kernel_rfl) (order2_spec (a := a) (b := b) (s := s) (by first | assumption | rfl | decide | omega | (dsimp only; omega)) (by first | assumption | rfl | decide | omega | (dsimp only; omega)) (by first | assumption | rfl | decide | omega | (dsimp only; omega)) (by first | assumption | rfl | decide | omega | (dsimp only; omega))) [30, 31] [30, 31] rfl rfl ?_
  rintro _ _ ⟨rfl, rfl⟩
  refine a_call hT rfl rfl rfl (by kernel_rfl) (order2_spec (a := (order2 ltInt d a b s).2.1) (b := e) (s := (order2 ltInt d a b s).2.2) (by first | assumption | rfl | decide | omega | (dsimp only; omega)) (by first | assumption | rfl | decide | omega | (dsimp only; omega)) (by first | assumption | rfl | decide | omega | (dsimp only; omega)) (by first | assumption | rfl | decide | omega | (dsimp only; omega))) [30, 31] [30, 31] rfl rfl ?_
  rintro _ _ ⟨rfl, rfl⟩
  refine a_call hT rfl rfl rfl (by kernel_rfl) (order2_spec (a := (order2 ltInt d a b s).1) (by first | assumption | rfl | decide | omega | (dsimp only; omega)) (by first | assumption | rfl | decide | omega | (dsimp only; omega)) (by first | assumption | rfl | decide | omega | (dsimp only; omega)) (by first | assumption | rfl | decide | omega | (dsimp only; omega))) [30, 31] [30, 31] rfl rfl ?_
  rintro _ _ ⟨rfl, rfl⟩
  refine a_ret hT [30, 31] rfl rfl rfl rfl rfl rfl ?_
  first | exact ⟨rfl, rfl⟩ | rfl
theorem reverse_spec {g cap : Nat} {d : Array Int} {a b h h1 h2 : Nat} (ha : a < b) (hb : b ≤ d.size) (hd : d.size < 1000000) : FSpec Try.prog 72 [.row (slV g d cap) h, .v (kI a) h1, .v (kI b) h2] [rowU (slV g d cap) d]
    fun _ cs => cs = [rowU (slV g d cap) (reverseRange d a b)] := by
  refine a_enter hT [.row (slV g d cap) 30, .v (kI a) 0, .v (kI b) 0] [30] Try.func72 rfl rfl rfl ⟨rfl, rfl, rfl, trivial⟩ fun c => ?_
  have hwb : IntKind.i64.wrap ((b : Int) - 1) = ((b - 1 : Nat) : Int) := by rw [w64 (by omega) (by omega)]; omega
  refine a_loop hT [0, 6, 7] (fun x : Nat × Nat × Array Int => [.row (slV g d cap) 30, .v (kI x.1) 0, .v (kI x.2.1) 0]) (fun x => [(30, rowU (slV g d cap) x.2.2)]) (fun x => x.2.2.size = d.size ∧ reverseLoop x.1 x.2.1 x.2.2 = reverseRange d a b ∧ x.2.1 < b ∧ x.1 ≤ b) (fun x => x.2.1 - x.1) (a, b - 1, d) [30] rfl rfl ⟨rfl, rfl, by show b - 1 < b; omega, by show a ≤ b; omega⟩ ⟨rfl, rfl, by rw [hwb]; rfl, trivial⟩ rfl ⟨⟨rfl, rfl, rfl, rfl⟩, trivial⟩ ?_
  rintro ⟨i, j, e⟩ ⟨hs, he, hj, hi⟩
  dsimp only at hs he hj hi ⊢
  have hw1 : IntKind.i64.wrap ((i : Int) + 1) = ((i + 1 : Nat) : Int) := by rw [w64 (by omega) (by omega)]; omega
  refine a_if hT rfl rfl (fun h3 => ?_) (fun h3 => ?_)
  · have h3 := of_decide_eq_true h3
    have hw2 : IntKind.i64.wrap ((j : Int) - 1) = ((j - 1 : Nat) : Int) := by rw [w64 (by omega) (by omega)]; omega
    refine a_treeN hT [0, 6, 7] (fun _ : Unit => [.row (slV g d cap) 30, .v (kI i) 0, .v (kI j) 0]) (fun _ => [(30, rowU (slV g d cap) (swp e i j))]) (fun _ => True) [30] 16 [(0, false), (1, false), (2, false), (3, false), (4, false), (5, false), (6, false), (8, false), (9, false), (10, false)] rfl rfl (by kernel_rfl) (by kernel_rfl) rfl ?_ fun _ _ => ?_
    · refine a_rix hT (j) rfl rfl rfl rfl rfl rfl (by first | rfl | omega) (by omega) ?_
      refine a_rix hT (i) rfl rfl rfl rfl rfl rfl (by first | rfl | omega) (by omega) ?_
      refine a_alt hT [([(7, true), (11, true), (12, true), (13, true), (14, true), (15, true)], true), ([(11, true), (7, true), (12, true), (13, true), (14, true), (15, true)], true)] rfl rfl (by kernel_rfl) ⟨?_, ?_, trivial⟩
      · refine a_uld hT (j) (e) rfl rfl rfl rfl rfl rfl rfl (by first | omega | (simp only [Array.size_setIfInBounds, swp_size]; omega)) rfl ?_
        refine a_uld hT (i) (e) rfl rfl rfl rfl rfl rfl rfl (by first | omega | (simp only [Array.size_setIfInBounds, swp_size]; omega)) rfl ?_
        refine a_rix hT (i) rfl rfl rfl rfl rfl rfl (by first | rfl | omega) (by omega) ?_
        refine a_ust hT (i) (e) _ rfl rfl rfl rfl rfl rfl rfl rfl (by first | omega | (simp only [Array.size_setIfInBounds, swp_size]; omega)) rfl ?_
        refine a_rix hT (j) rfl rfl rfl rfl rfl rfl (by first | rfl | omega) (by omega) ?_
        refine a_ust hT (j) (Array.setIfInBounds e i e[j]!) _ rfl rfl rfl rfl rfl rfl rfl rfl (by first | omega | (simp only [Array.size_setIfInBounds, swp_size]; omega)) rfl ?_
        exact a_next hT () [30] rfl rfl trivial ⟨rfl, rfl, rfl, trivial⟩ rfl ⟨⟨rfl, rfl, rfl, rfl⟩, trivial⟩
      · refine a_uld hT (i) (e) rfl rfl rfl rfl rfl rfl rfl (by first | omega | (simp only [Array.size_setIfInBounds, swp_size]; omega)) rfl ?_
        refine a_uld hT (j) (e) rfl rfl rfl rfl rfl rfl rfl (by first | omega | (simp only [Array.size_setIfInBounds, swp_size]; omega)) rfl ?_
        refine a_rix hT (i) rfl rfl rfl rfl rfl rfl (by first | rfl | omega) (by omega) ?_
        refine a_ust hT (i) (e) _ rfl rfl rfl rfl rfl rfl rfl rfl (by first | omega | (simp only [Array.size_setIfInBounds, swp_size]; omega)) rfl ?_
        refine a_rix hT (j) rfl rfl rfl rfl rfl rfl (by first | rfl | omega) (by omega) ?_
        refine a_ust hT (j) (Array.setIfInBounds e i e[j]!) _ rfl rfl rfl rfl rfl rfl rfl rfl (by first | omega | (simp only [Array.size_setIfInBounds, swp_size]; omega)) rfl ?_
        exact a_next hT () [30] rfl rfl trivial ⟨rfl, rfl, rfl, trivial⟩ rfl ⟨⟨rfl, rfl, rfl, rfl⟩, trivial⟩
    · refine a_next hT (i + 1, j - 1, swp e i j) [30] rfl rfl ⟨⟨by rw [swp_size]; exact hs, ?_, by show j - 1 < b; omega, by show i + 1 ≤ b; omega⟩, by show j - 1 - (i + 1) < j - i; omega⟩ ⟨rfl, by show Value.int .i64 _ = Value.int .i64 _; rw [hw1], by show Value.int .i64 _ = Value.int .i64 _; rw [hw2], trivial⟩ rfl ⟨⟨rfl, rfl, rfl, rfl⟩, trivial⟩
      rw [← he]
      show _ = reverseLoop i j e
      conv => rhs; unfold reverseLoop
      rw [if_pos (by omega)]
  · have h3 := of_decide_eq_false h3
    have : e = reverseRange d a b := by rw [← he]; unfold reverseLoop; rw [if_neg (by omega)]
    refine a_end hT [30] rfl rfl rfl rfl rfl rfl ?_
    (show [rowU (slV g d cap) e] = _; rw [this])
theorem choose_eq {d : Array Int} {a b : Nat} (hl : 8 ≤ b - a) (hl2 : b - a < 50) : choosePivot ltInt d a b = ((median ltInt d (a + (b - a) / 4 * 1) (a + (b - a) / 4 * 2) (a + (b - a) / 4 * 3) 0).1, if (median ltInt d (a + (b - a) / 4 * 1) (a + (b - a) / 4 * 2) (a + (b - a) / 4 * 3) 0).2 = 0 then .increasing else if (median ltInt d (a + (b - a) / 4 * 1) (a + (b - a) / 4 * 2) (a + (b - a) / 4 * 3) 0).2 = 12 then .decreasing else .unknown) := by
  unfold choosePivot
  simp only [ge_iff_le, hl, if_true, show ¬ 50 ≤ b - a by omega, if_false]
theorem choose_spec {g cap : Nat} {d : Array Int} {a b h h1 h2 : Nat} (ha : a < b) (hb : b ≤ d.size) (hd : d.size < 1000000) (hl : 8 ≤ b - a) (hl2 : b - a < 50) : FSpec Try.prog 71 [.row (slV g d cap) h, .v (kI a) h1, .v (kI b) h2] [rowU (slV g d cap) d]
    fun r cs => (∃ hh : Int, r = .tup [.v (kI (choosePivot ltInt d a b).1) 0, .v (kI hh) 0] ∧ (hh = 1 ↔ (choosePivot ltInt d a b).2 = .increasing) ∧ (hh = 2 ↔ (choosePivot ltInt d a b).2 = .decreasing)) ∧ cs = [rowU (slV g d cap) d] := by
  refine a_enter hT [.row (slV g d cap) 30, .v (kI a) 0, .v (kI b) 0] [30] Try.func71 rfl rfl rfl ⟨rfl, rfl, rfl, trivial⟩ fun c => ?_
  have hwl : IntKind.i64.wrap ((b : Int) - a) = ((b - a : Nat) : Int) := by rw [w64 (by omega) (by omega)]; omega
  have ht : Int.tdiv ((b - a : Nat) : Int) 4 = (((b - a) / 4 : Nat) : Int) := rfl
  have hq : IntKind.i64.wrap (Int.tdiv (IntKind.i64.wrap ((b : Int) - a)) 4) = (((b - a) / 4 : Nat) : Int) := by rw [hwl, ht]; exact w64 (by omega) (by omega)
  have hi : IntKind.i64.wrap ((a : Int) + IntKind.i64.wrap (IntKind.i64.wrap (Int.tdiv (IntKind.i64.wrap ((b : Int) - a)) 4) * 1)) = ((a + (b - a) / 4 * 1 : Nat) : Int) := by rw [hq, w64 (x := (((b - a) / 4 : Nat) : Int) * 1) (by omega) (by omega), w64 (by omega) (by omega)]; omega
  have hj : IntKind.i64.wrap ((a : Int) + IntKind.i64.wrap (IntKind.i64.wrap (Int.tdiv (IntKind.i64.wrap ((b : Int) - a)) 4) * 2)) = ((a + (b - a) / 4 * 2 : Nat) : Int) := by rw [hq, w64 (x := (((b - a) / 4 : Nat) : Int) * 2) (by omega) (by omega), w64 (by omega) (by omega)]; omega
  have hk : IntKind.i64.wrap ((a : Int) + IntKind.i64.wrap (IntKind.i64.wrap (Int.tdiv (IntKind.i64.wrap ((b : Int) - a)) 4) * 3)) = ((a + (b - a) / 4 * 3 : Nat) : Int) := by rw [hq, w64 (x := (((b - a) / 4 : Nat) : Int) * 3) (by omega) (by omega), w64 (by omega) (by omega)]; omega
  refine a_new hT hZ 31 rfl rfl rfl rfl fun g1 => ?_
  refine a_bin hT _ rfl rfl rfl (by decide) rfl rfl (fun w => (bin_quo (by decide) w)) ?_
  refine a_bin hT _ rfl rfl rfl (by decide) rfl rfl (fun w => (bin_quo (by decide) w)) ?_
  refine a_bin hT _ rfl rfl rfl (by decide) rfl rfl (fun w => (bin_quo (by decide) w)) ?_
  refine a_if hT rfl rfl (fun h3 => ?_) (fun h3 => ?_)
  · have h3 := of_decide_eq_true h3
    refine a_if hT rfl rfl (fun h4 => ?_) (fun h4 => ?_)
    · have h4 := of_decide_eq_true h4
      (exfalso; first | omega | contradiction)
    · have h4 := of_decide_eq_false h4
      refine a_run hT 7 rfl rfl ?_
      rw [hi]
      rw [hj]
      rw [hk]
      refine a_call hT rfl rfl rfl (by kernel_rfl) (median_spec (s := 0) (by first | assumption | rfl | decide | omega | (dsimp only; omega)) (by first | assumption | rfl | decide | omega | (dsimp only; omega)) (by first | assumption | rfl | decide | omega | (dsimp only; omega)) (by first | assumption | rfl | decide | omega | (dsimp only; omega)) (by first | assumption | rfl | decide | omega | (dsimp only; omega))) [30, 31] [30, 31] rfl rfl ?_
      rintro _ _ ⟨rfl, rfl⟩
      refine a_if hT rfl rfl (fun h5 => ?_) (fun h5 => ?_)
      · have h5 := eq_of_beq h5
        refine a_ret hT [30] rfl rfl rfl rfl rfl rfl ?_
        have hz : (median ltInt d (a + (b - a) / 4 * 1) (a + (b - a) / 4 * 2) (a + (b - a) / 4 * 3) 0).2 = 0 := by omega
        rw [choose_eq hl hl2]
        rw [if_pos hz]
        exact ⟨⟨1, rfl, by simp, by simp⟩, rfl⟩
      · have h5 := ne_of_beq_false h5
        refine a_if hT rfl rfl (fun h6 => ?_) (fun h6 => ?_)
        · have h6 := eq_of_beq h6
          refine a_ret hT [30] rfl rfl rfl rfl rfl rfl ?_
          have hz : (median ltInt d (a + (b - a) / 4 * 1) (a + (b - a) / 4 * 2) (a + (b - a) / 4 * 3) 0).2 = 12 := by omega
          rw [choose_eq hl hl2]
          rw [hz, if_neg (by decide), if_pos rfl]
          exact ⟨⟨2, rfl, by simp, by simp⟩, rfl⟩
        · have h6 := ne_of_beq_false h6
          refine a_ret hT [30] rfl rfl rfl rfl rfl rfl ?_
          have hz : ¬ (median ltInt d (a + (b - a) / 4 * 1) (a + (b - a) / 4 * 2) (a + (b - a) / 4 * 3) 0).2 = 0 := by omega
          have hz2 : ¬ (median ltInt d (a + (b - a) / 4 * 1) (a + (b - a) / 4 * 2) (a + (b - a) / 4 * 3) 0).2 = 12 := by omega
          rw [choose_eq hl hl2]
          rw [if_neg hz, if_neg hz2]
          exact ⟨⟨0, rfl, by simp, by simp⟩, rfl⟩
  · have h3 := of_decide_eq_false h3
    (exfalso; first | omega | contradiction)
end Go.Proofs.Ytepjnmocepkfjaa
end

section
/- slices.Sort of numbers: breakPatternsOrdered. -/
set_option linter.unusedVariables false
set_option linter.unusedSimpArgs false
set_option maxRecDepth 100000
set_option maxHeartbeats 4000000
namespace Go.Proofs.Ytepjnmocepkfjaa
open V A Go.Sort
theorem wrapU_range (x : Int) : 0 ≤ IntKind.u64.wrap x ∧ IntKind.u64.wrap x < 18446744073709551616 := by
  unfold IntKind.wrap
  simp [IntKind.bits, IntKind.signed]
  omega
abbrev rndB (gs : Nat) (s : Int) : Chunk := .blk gs 137 [.v (kU s) 0]
theorem xnext_spec {gs h : Nat} {s : Int} : FSpec Try.prog 82 [.v (.pointer (some ⟨gs, 0, none⟩)) h] [rndB gs s]
    fun r cs => ∃ s' : Int, 0 ≤ s' ∧ s' < 18446744073709551616 ∧ r = .v (kU s') 0 ∧ cs = [rndB gs s'] := by
  refine a_enter hT [.v (.pointer (some ⟨gs, 0, none⟩)) 31] [31] Try.func82 rfl rfl rfl ⟨rfl, trivial⟩ fun c => ?_
  refine a_draw hT [] true [(0, false), (1, false), (2, false), (3, false), (4, false), (5, false), (6, false), (7, false), (8, false), (9, true)] rfl rfl (by kernel_rfl) (by kernel_rfl) rfl ?_
  refine a_bin hT _ rfl rfl rfl (by decide) rfl rfl (fun w => (bin_shl (by omega) w)) ?_
  refine a_bin hT _ rfl rfl rfl (by decide) rfl rfl (fun w => (bin_xor w)) ?_
  refine a_draw hT [] true [(0, false), (1, false), (2, false), (3, false), (4, false), (5, false), (6, false), (7, false), (8, false), (9, true)] rfl rfl (by kernel_rfl) (by kernel_rfl) rfl ?_
  refine a_bin hT _ rfl rfl rfl (by decide) rfl rfl (fun w => (bin_shr (by omega) w)) ?_
  refine a_bin hT _ rfl rfl rfl (by decide) rfl rfl (fun w => (bin_xor w)) ?_
  refine a_draw hT [] true [(0, false), (1, false), (2, false), (3, false), (4, false), (5, false), (6, false), (7, false), (8, false), (9, true)] rfl rfl (by kernel_rfl) (by kernel_rfl) rfl ?_
  refine a_bin hT _ rfl rfl rfl (by decide) rfl rfl (fun w => (bin_shl (by omega) w)) ?_
  refine a_bin hT _ rfl rfl rfl (by decide) rfl rfl (fun w => (bin_xor w)) ?_
  refine a_ret hT [31] rfl rfl rfl rfl rfl rfl ?_
  exact ⟨_, (wrapU_range _).1, (wrapU_range _).2, rfl, rfl⟩
theorem bitsLen_spec {n k h : Nat} (hn : n = 13 ∧ k = 4 ∨ n = 14 ∧ k = 4 ∨ n = 15 ∧ k = 4 ∨ n = 16 ∧ k = 5) : FSpec Try.prog 78 [.v (kU n) h] [] fun r cs => r = .v (kI k) 0 ∧ cs = [] := by
  rcases hn with ⟨rfl, rfl⟩ | ⟨rfl, rfl⟩ | ⟨rfl, rfl⟩ | ⟨rfl, rfl⟩
  · refine a_enter hT [.v (kU 13) 0] [] Try.func78 rfl rfl rfl ⟨rfl, trivial⟩ fun c => ?_
    refine a_f hT rfl rfl rfl ?_
    refine a_f hT rfl rfl rfl ?_
    refine a_f hT rfl rfl rfl ?_
    refine a_sx hT rfl rfl rfl rfl rfl rfl (by first | omega | decide) (by first | omega | decide) ?_
    refine a_ret hT [] rfl rfl rfl rfl rfl rfl ?_
    first | exact ⟨rfl, rfl⟩ | rfl
  · refine a_enter hT [.v (kU 14) 0] [] Try.func78 rfl rfl rfl ⟨rfl, trivial⟩ fun c => ?_
    refine a_f hT rfl rfl rfl ?_
    refine a_f hT rfl rfl rfl ?_
    refine a_f hT rfl rfl rfl ?_
    refine a_sx hT rfl rfl rfl rfl rfl rfl (by first | omega | decide) (by first | omega | decide) ?_
    refine a_ret hT [] rfl rfl rfl rfl rfl rfl ?_
    first | exact ⟨rfl, rfl⟩ | rfl
  · refine a_enter hT [.v (kU 15) 0] [] Try.func78 rfl rfl rfl ⟨rfl, trivial⟩ fun c => ?_
    refine a_f hT rfl rfl rfl ?_
    refine a_f hT rfl rfl rfl ?_
    refine a_f hT rfl rfl rfl ?_
    refine a_sx hT rfl rfl rfl rfl rfl rfl (by first | omega | decide) (by first | omega | decide) ?_
    refine a_ret hT [] rfl rfl rfl rfl rfl rfl ?_
    first | exact ⟨rfl, rfl⟩ | rfl
  · refine a_enter hT [.v (kU 16) 0] [] Try.func78 rfl rfl rfl ⟨rfl, trivial⟩ fun c => ?_
    refine a_f hT rfl rfl rfl ?_
    refine a_f hT rfl rfl rfl ?_
    refine a_f hT rfl rfl rfl ?_
    refine a_sx hT rfl rfl rfl rfl rfl rfl (by first | omega | decide) (by first | omega | decide) ?_
    refine a_ret hT [] rfl rfl rfl rfl rfl rfl ?_
    first | exact ⟨rfl, rfl⟩ | rfl
theorem len_spec' {n k h : Nat} (hn : n = 13 ∧ k = 4 ∨ n = 14 ∧ k = 4 ∨ n = 15 ∧ k = 4 ∨ n = 16 ∧ k = 5) : FSpec Try.prog 56 [.v (kU n) h] [] fun r cs => r = .v (kI k) 0 ∧ cs = [] := by
  refine a_enter hT [.v (kU n) 0] [] Try.func56 rfl rfl rfl ⟨rfl, trivial⟩ fun c => ?_
  refine a_f hT rfl rfl rfl ?_
  refine a_call hT rfl rfl rfl (by kernel_rfl) (bitsLen_spec hn) [] [] rfl rfl ?_
  rintro _ _ ⟨rfl, rfl⟩
  refine a_ret hT [] rfl rfl rfl rfl rfl rfl ?_
  first | exact ⟨rfl, rfl⟩ | rfl
theorem pow_spec {n k h : Nat} (hn : n = 13 ∧ k = 4 ∨ n = 14 ∧ k = 4 ∨ n = 15 ∧ k = 4 ∨ n = 16 ∧ k = 5) : FSpec Try.prog 81 [.v (kI n) h] [] fun r cs => r = .v (kU (2 ^ k : Nat)) 0 ∧ cs = [] := by
  have hw : IntKind.u64.wrap (n : Int) = n := wrapU (by omega) (by omega)
  refine a_enter hT [.v (kI n) 0] [] Try.func81 rfl rfl rfl ⟨rfl, trivial⟩ fun c => ?_
  refine a_run hT 9 rfl rfl ?_
  rw [hw]
  refine a_call hT rfl rfl rfl (by kernel_rfl) (len_spec' hn) [] [] rfl rfl ?_
  rintro _ _ ⟨rfl, rfl⟩
  refine a_bin hT _ rfl rfl rfl (by decide) rfl rfl (fun w => (bin_shl (by omega) w)) ?_
  refine a_ret hT [] rfl rfl rfl rfl rfl rfl ?_
  rcases hn with ⟨rfl, rfl⟩ | ⟨rfl, rfl⟩ | ⟨rfl, rfl⟩ | ⟨rfl, rfl⟩ <;> exact ⟨rfl, rfl⟩
theorem and_lt {x : Int} {m : Nat} (h1 : 1 ≤ m) (h2 : m ≤ 32) : ∃ o : Nat, IntKind.u64.wrap ((BitVec.ofInt IntKind.u64.bits x &&& BitVec.ofInt IntKind.u64.bits (IntKind.u64.wrap ((m : Int) - 1))).toNat : Int) = o ∧ o < m := by
  rw [wrapU (x := (m : Int) - 1) (by omega) (by omega)]
  have e : (BitVec.ofInt IntKind.u64.bits ((m : Int) - 1)).toNat = m - 1 := by
    rw [BitVec.toNat_ofInt]
    simp only [IntKind.bits]
    omega
  have hlt : (BitVec.ofInt IntKind.u64.bits x &&& BitVec.ofInt IntKind.u64.bits ((m : Int) - 1)).toNat < m := by
    rw [BitVec.toNat_and, e]
    have := Nat.and_le_right (n := (BitVec.ofInt IntKind.u64.bits x).toNat) (m := m - 1)
    omega
  exact ⟨_, wrapU (by omega) (by omega), hlt⟩
theorem break_spec {g cap : Nat} {d : Array Int} {a b h h1 h2 : Nat} (ha : a + 13 ≤ b) (hb2 : b ≤ a + 16) (hb : b ≤ d.size) (hd : d.size < 1000000) : FSpec Try.prog 70 [.row (slV g d cap) h, .v (kI a) h1, .v (kI b) h2] [rowU (slV g d cap) d]
    fun _ cs => ∃ d', PermIn a b d d' ∧ cs = [rowU (slV g d cap) d'] := by
  obtain ⟨k, hk5, hk⟩ : ∃ k, k ≤ 5 ∧ (b - a = 13 ∧ k = 4 ∨ b - a = 14 ∧ k = 4 ∨ b - a = 15 ∧ k = 4 ∨ b - a = 16 ∧ k = 5) := by
    rcases Nat.lt_or_ge (b - a) 16 with h | h
    · exact ⟨4, by decide, by omega⟩
    · exact ⟨5, by decide, by omega⟩
  have hk2 : 2 ^ k ≤ 2 * (b - a) ∧ 1 ≤ 2 ^ k ∧ 2 ^ k ≤ 32 := by rcases hk with ⟨h, rfl⟩ | ⟨h, rfl⟩ | ⟨h, rfl⟩ | ⟨h, rfl⟩ <;> omega
  have hwl : IntKind.i64.wrap ((b : Int) - a) = ((b - a : Nat) : Int) := by rw [w64 (by omega) (by omega)]; omega
  have ht : Int.tdiv ((b - a : Nat) : Int) 4 = (((b - a) / 4 : Nat) : Int) := rfl
  have hq : IntKind.i64.wrap (Int.tdiv (IntKind.i64.wrap ((b : Int) - a)) 4) = (((b - a) / 4 : Nat) : Int) := by rw [hwl, ht]; exact w64 (by omega) (by omega)
  have hi : IntKind.i64.wrap ((a : Int) + IntKind.i64.wrap (IntKind.i64.wrap (Int.tdiv (IntKind.i64.wrap ((b : Int) - a)) 4) * 2)) = ((a + (b - a) / 4 * 2 : Nat) : Int) := by rw [hq, w64 (x := (((b - a) / 4 : Nat) : Int) * 2) (by omega) (by omega), w64 (by omega) (by omega)]; omega
  refine a_enter hT [.row (slV g d cap) 30, .v (kI a) 0, .v (kI b) 0] [30] Try.func70 rfl rfl rfl ⟨rfl, rfl, rfl, trivial⟩ fun c => ?_
  refine a_if hT rfl rfl (fun h3 => ?_) (fun h3 => ?_)
  · have h3 := of_decide_eq_true h3
    refine a_new hT hZ 31 rfl rfl rfl rfl fun g1 => ?_
    refine a_run hT 6 rfl rfl ?_
    rw [hwl]
    refine a_call hT rfl rfl rfl (by kernel_rfl) (pow_spec hk) [] [] rfl rfl ?_
    rintro _ _ ⟨rfl, rfl⟩
    refine a_bin hT _ rfl rfl rfl (by decide) rfl rfl (fun w => (bin_quo (by decide) w)) ?_
    have hq2 : IntKind.i64.wrap (Int.tdiv ((b - a : Nat) : Int) 4) = (((b - a) / 4 : Nat) : Int) := by rw [ht]; exact w64 (by omega) (by omega)
    have hi2 : IntKind.i64.wrap ((a : Int) + IntKind.i64.wrap (IntKind.i64.wrap (Int.tdiv ((b - a : Nat) : Int) 4) * 2)) = ((a + (b - a) / 4 * 2 : Nat) : Int) := by rw [hq2, w64 (x := (((b - a) / 4 : Nat) : Int) * 2) (by omega) (by omega), w64 (by omega) (by omega)]; omega
    have hi3 : IntKind.i64.wrap (IntKind.i64.wrap ((a : Int) + IntKind.i64.wrap (IntKind.i64.wrap (Int.tdiv ((b - a : Nat) : Int) 4) * 2)) - 1) = ((a + (b - a) / 4 * 2 - 1 : Nat) : Int) := by rw [hi2, w64 (by omega) (by omega)]; omega
    have hi4 : IntKind.i64.wrap (IntKind.i64.wrap ((a : Int) + IntKind.i64.wrap (IntKind.i64.wrap (Int.tdiv ((b - a : Nat) : Int) 4) * 2)) + 1) = ((a + (b - a) / 4 * 2 + 1 : Nat) : Int) := by rw [hi2, w64 (by omega) (by omega)]; omega
    refine a_loop hT [0, 1, 6, 7, 8, 9] (fun x : Nat × Array Int × Int => [.row (slV g d cap) 30, .v (kI a) 0, .v (kI (b - a : Nat)) 0, .v (.pointer (some ⟨g1, 0, none⟩)) 31, .v (kU (2 ^ k : Nat)) 0, .v (kI x.1) 0]) (fun x => [(30, rowU (slV g d cap) x.2.1), (31, rndB g1 x.2.2)]) (fun x => x.2.1.size = d.size ∧ PermIn a b d x.2.1 ∧ a + (b - a) / 4 * 2 - 1 ≤ x.1 ∧ x.1 ≤ a + (b - a) / 4 * 2 + 2) (fun x => a + (b - a) / 4 * 2 + 2 - x.1) (a + (b - a) / 4 * 2 - 1, d, IntKind.u64.wrap ((b - a : Nat) : Int)) [30, 31] rfl rfl ⟨rfl, permIn_refl d a b, Nat.le_refl _, by show a + (b - a) / 4 * 2 - 1 ≤ a + (b - a) / 4 * 2 + 2; omega⟩ ⟨rfl, rfl, rfl, rfl, rfl, by rw [hi3]; rfl, trivial⟩ rfl ⟨⟨rfl, rfl, rfl, rfl⟩, ⟨rfl, rfl, ⟨rfl, trivial⟩⟩, trivial⟩ ?_
    rintro ⟨i, e, r⟩ ⟨hs, hp, hi5, hi6⟩
    dsimp only at hs hp hi5 hi6 ⊢
    have hw1 : IntKind.i64.wrap ((i : Int) + 1) = ((i + 1 : Nat) : Int) := by rw [w64 (by omega) (by omega)]; omega
    refine a_bin hT _ rfl rfl rfl (by decide) rfl rfl (fun w => (bin_quo (by decide) w)) ?_
    refine a_if hT rfl rfl (fun h3 => ?_) (fun h3 => ?_)
    · have h3 := of_decide_eq_true h3
      have h4 : (i : Int) ≤ IntKind.i64.wrap (IntKind.i64.wrap ((a : Int) + IntKind.i64.wrap (IntKind.i64.wrap (Int.tdiv ((b - a : Nat) : Int) 4) * 2)) + 1) := h3
      rw [hi4] at h4
      refine a_call hT rfl rfl rfl (by kernel_rfl) xnext_spec [31] [31] rfl rfl ?_
      rintro _ _ ⟨s', hr, hr1, rfl, rfl⟩
      refine a_bin hT _ rfl rfl rfl (by decide) rfl rfl (fun w => (bin_and w)) ?_
      obtain ⟨ot, ho, hol⟩ := and_lt (x := s') (m := 2 ^ k) hk2.2.1 hk2.2.2
      rw [ho]
      have ho2 : IntKind.i64.wrap (ot : Int) = ot := w64 (by omega) (by omega)
      refine a_if hT rfl rfl (fun h5 => ?_) (fun h5 => ?_)
      · have h5 := of_decide_eq_true h5
        have h5 : IntKind.i64.wrap (ot : Int) ≥ ((b - a : Nat) : Int) := h5
        have h7 : IntKind.i64.wrap (IntKind.i64.wrap (ot : Int) - ((b - a : Nat) : Int)) = ((ot - (b - a) : Nat) : Int) := by rw [ho2, w64 (by omega) (by omega)]; omega
        have h6 : IntKind.i64.wrap ((a : Int) + IntKind.i64.wrap (IntKind.i64.wrap (ot : Int) - ((b - a : Nat) : Int))) = ((a + (ot - (b - a)) : Nat) : Int) := by rw [w64 (by omega) (by omega)]; omega
        refine a_treeN hT [0, 1, 6, 7, 8, 9] (fun _ : Unit => [.row (slV g d cap) 30, .v (kI a) 0, .v (kI (b - a : Nat)) 0, .v (.pointer (some ⟨g1, 0, none⟩)) 31, .v (kU (2 ^ k : Nat)) 0, .v (kI i) 0]) (fun _ => [(30, rowU (slV g d cap) (swp e i (a + (ot - (b - a))))), (31, rndB g1 s')]) (fun _ => True) [30] 20 [(0, false), (1, false), (2, false), (3, false), (4, false), (5, false), (6, false), (7, false), (8, false), (9, false), (10, false), (12, false), (13, false), (14, false)] rfl rfl (by kernel_rfl) (by kernel_rfl) rfl ?_ fun _ _ => ?_
        · refine a_rix hT (a + (ot - (b - a))) rfl rfl rfl rfl rfl rfl (by first | rfl | omega) (by omega) ?_
          refine a_rix hT (i) rfl rfl rfl rfl rfl rfl (by first | rfl | omega) (by omega) ?_
          refine a_alt hT [([(11, true), (15, true), (16, true), (17, true), (18, true), (19, true)], true), ([(15, true), (11, true), (16, true), (17, true), (18, true), (19, true)], true)] rfl rfl (by kernel_rfl) ⟨?_, ?_, trivial⟩
          · refine a_uld hT (a + (ot - (b - a))) (e) rfl rfl rfl rfl rfl rfl rfl (by first | omega | (simp only [Array.size_setIfInBounds, swp_size]; omega)) rfl ?_
            refine a_uld hT (i) (e) rfl rfl rfl rfl rfl rfl rfl (by first | omega | (simp only [Array.size_setIfInBounds, swp_size]; omega)) rfl ?_
            refine a_rix hT (i) rfl rfl rfl rfl rfl rfl (by first | rfl | omega) (by omega) ?_
            refine a_ust hT (i) (e) _ rfl rfl rfl rfl rfl rfl rfl rfl (by first | omega | (simp only [Array.size_setIfInBounds, swp_size]; omega)) rfl ?_
            refine a_rix hT (a + (ot - (b - a))) rfl rfl rfl rfl rfl rfl (by first | rfl | omega) (by omega) ?_
            refine a_ust hT (a + (ot - (b - a))) (Array.setIfInBounds e i e[a + (ot - (b - a))]!) _ rfl rfl rfl rfl rfl rfl rfl rfl (by first | omega | (simp only [Array.size_setIfInBounds, swp_size]; omega)) rfl ?_
            exact a_next hT () [30, 31] rfl rfl trivial ⟨rfl, rfl, rfl, rfl, rfl, rfl, trivial⟩ rfl ⟨⟨rfl, rfl, rfl, rfl⟩, ⟨rfl, rfl, ⟨rfl, trivial⟩⟩, trivial⟩
          · refine a_uld hT (i) (e) rfl rfl rfl rfl rfl rfl rfl (by first | omega | (simp only [Array.size_setIfInBounds, swp_size]; omega)) rfl ?_
            refine a_uld hT (a + (ot - (b - a))) (e) rfl rfl rfl rfl rfl rfl rfl (by first | omega | (simp only [Array.size_setIfInBounds, swp_size]; omega)) rfl ?_
            refine a_rix hT (i) rfl rfl rfl rfl rfl rfl (by first | rfl | omega) (by omega) ?_
            refine a_ust hT (i) (e) _ rfl rfl rfl rfl rfl rfl rfl rfl (by first | omega | (simp only [Array.size_setIfInBounds, swp_size]; omega)) rfl ?_
            refine a_rix hT (a + (ot - (b - a))) rfl rfl rfl rfl rfl rfl (by first | rfl | omega) (by omega) ?_
            refine a_ust hT (a + (ot - (b - a))) (Array.setIfInBounds e i e[a + (ot - (b - a))]!) _ rfl rfl rfl rfl rfl rfl rfl rfl (by first | omega | (simp only [Array.size_setIfInBounds, swp_size]; omega)) rfl ?_
            exact a_next hT () [30, 31] rfl rfl trivial ⟨rfl, rfl, rfl, rfl, rfl, rfl, trivial⟩ rfl ⟨⟨rfl, rfl, rfl, rfl⟩, ⟨rfl, rfl, ⟨rfl, trivial⟩⟩, trivial⟩
        · refine a_next hT (i + 1, swp e i (a + (ot - (b - a))), s') [30, 31] rfl rfl ⟨⟨by rw [swp_size]; exact hs, permIn_trans _ _ _ _ _ hp (swp_permIn e a b i (a + (ot - (b - a))) (by omega) (by omega) (by omega) (by omega) (by omega)), by show _ ≤ i + 1; omega, by show i + 1 ≤ _; omega⟩, by show _ - (i + 1) < _ - i; omega⟩ ⟨rfl, rfl, rfl, rfl, rfl, by show Value.int .i64 _ = Value.int .i64 _; rw [hw1], trivial⟩ rfl ⟨⟨rfl, rfl, rfl, rfl⟩, ⟨rfl, rfl, ⟨rfl, trivial⟩⟩, trivial⟩
      · have h5 := of_decide_eq_false h5
        have h5 : ¬ IntKind.i64.wrap (ot : Int) ≥ ((b - a : Nat) : Int) := h5
        have h6 : IntKind.i64.wrap ((a : Int) + IntKind.i64.wrap (ot : Int)) = ((a + ot : Nat) : Int) := by rw [w64 (by omega) (by omega)]; omega
        refine a_treeN hT [0, 1, 6, 7, 8, 9] (fun _ : Unit => [.row (slV g d cap) 30, .v (kI a) 0, .v (kI (b - a : Nat)) 0, .v (.pointer (some ⟨g1, 0, none⟩)) 31, .v (kU (2 ^ k : Nat)) 0, .v (kI i) 0]) (fun _ => [(30, rowU (slV g d cap) (swp e i (a + ot))), (31, rndB g1 s')]) (fun _ => True) [30] 20 [(0, false), (1, false), (2, false), (3, false), (4, false), (5, false), (6, false), (7, false), (8, false), (9, false), (10, false), (12, false), (13, false), (14, false)] rfl rfl (by kernel_rfl) (by kernel_rfl) rfl ?_ fun _ _ => ?_
        · refine a_rix hT (a + ot) rfl rfl rfl rfl rfl rfl (by first | rfl | omega) (by omega) ?_
          refine a_rix hT (i) rfl rfl rfl rfl rfl rfl (by first | rfl | omega) (by omega) ?_
          refine a_alt hT [([(11, true), (15, true), (16, true), (17, true), (18, true), (19, true)], true), ([(15, true), (11, true), (16, true), (17, true), (18, true), (19, true)], true)] rfl rfl (by kernel_rfl) ⟨?_, ?_, trivial⟩
          · refine a_uld hT (a + ot) (e) rfl rfl rfl rfl rfl rfl rfl (by first | omega | (simp only [Array.size_setIfInBounds, swp_size]; omega)) rfl ?_
            refine a_uld hT (i) (e) rfl rfl rfl rfl rfl rfl rfl (by first | omega | (simp only [Array.size_setIfInBounds, swp_size]; omega)) rfl ?_
            refine a_rix hT (i) rfl rfl rfl rfl rfl rfl (by first | rfl | omega) (by omega) ?_
            refine a_ust hT (i) (e) _ rfl rfl rfl rfl rfl rfl rfl rfl (by first | omega | (simp only [Array.size_setIfInBounds, swp_size]; omega)) rfl ?_
            refine a_rix hT (a + ot) rfl rfl rfl rfl rfl rfl (by first | rfl | omega) (by omega) ?_
            refine a_ust hT (a + ot) (Array.setIfInBounds e i e[a + ot]!) _ rfl rfl rfl rfl rfl rfl rfl rfl (by first | omega | (simp only [Array.size_setIfInBounds, swp_size]; omega)) rfl ?_
            exact a_next hT () [30, 31] rfl rfl trivial ⟨rfl, rfl, rfl, rfl, rfl, rfl, trivial⟩ rfl ⟨⟨rfl, rfl, rfl, rfl⟩, ⟨rfl, rfl, ⟨rfl, trivial⟩⟩, trivial⟩
          · refine a_uld hT (i) (e) rfl rfl rfl rfl rfl rfl rfl (by first | omega | (simp only [Array.size_setIfInBounds, swp_size]; omega)) rfl ?_
            refine a_uld hT (a + ot) (e) rfl rfl rfl rfl rfl rfl rfl (by first | omega | (simp only [Array.size_setIfInBounds, swp_size]; omega)) rfl ?_
            refine a_rix hT (i) rfl rfl rfl rfl rfl rfl (by first | rfl | omega) (by omega) ?_
            refine a_ust hT (i) (e) _ rfl rfl rfl rfl rfl rfl rfl rfl (by first | omega | (simp only [Array.size_setIfInBounds, swp_size]; omega)) rfl ?_
            refine a_rix hT (a + ot) rfl rfl rfl rfl rfl rfl (by first | rfl | omega) (by omega) ?_
            refine a_ust hT (a + ot) (Array.setIfInBounds e i e[a + ot]!) _ rfl rfl rfl rfl rfl rfl rfl rfl (by first | omega | (simp only [Array.size_setIfInBounds, swp_size]; omega)) rfl ?_
            exact a_next hT () [30, 31] rfl rfl trivial ⟨rfl, rfl, rfl, rfl, rfl, rfl, trivial⟩ rfl ⟨⟨rfl, rfl, rfl, rfl⟩, ⟨rfl, rfl, ⟨rfl, trivial⟩⟩, trivial⟩
        · refine a_next hT (i + 1, swp e i (a + ot), s') [30, 31] rfl rfl ⟨⟨by rw [swp_size]; exact hs, permIn_trans _ _ _ _ _ hp (swp_permIn e a b i (a + ot) (by omega) (by omega) (by omega) (by omega) (by omega)), by show _ ≤ i + 1; omega, by show i + 1 ≤ _; omega⟩, by show _ - (i + 1) < _ - i; omega⟩ ⟨rfl, rfl, rfl, rfl, rfl, by show Value.int .i64 _ = Value.int .i64 _; rw [hw1], trivial⟩ rfl ⟨⟨rfl, rfl, rfl, rfl⟩, ⟨rfl, rfl, ⟨rfl, trivial⟩⟩, trivial⟩
    · refine a_end hT [30] rfl rfl rfl rfl rfl rfl ?_
      exact ⟨e, hp, rfl⟩
  · have h3 := of_decide_eq_false h3
    (exfalso; first | omega | contradiction)
end Go.Proofs.Ytepjnmocepkfjaa
end

section
/- slices.Sort of numbers: partialInsertionSortOrdered, partitionOrdered. -/
set_option linter.unusedVariables false
set_option linter.unusedSimpArgs false
set_option maxRecDepth 100000
set_option maxHeartbeats 4000000
namespace Go.Proofs.Ytepjnmocepkfjaa
open V A Go.Sort
theorem scanUp_step {p : Int → Bool} {d : Array Int} {i j : Nat} (h : i ≤ j) (hp : p d[i]! = true) : scanUp p d j i = scanUp p d j (i + 1) := by
  conv => lhs; unfold scanUp
  rw [if_pos (by simp [h, hp])]
theorem scanUp_stop {p : Int → Bool} {d : Array Int} {i j : Nat} (h : ¬ (i ≤ j ∧ p d[i]! = true)) : scanUp p d j i = i := by
  unfold scanUp
  rw [if_neg (by simpa using h)]
theorem scanDown_step {p : Int → Bool} {d : Array Int} {i j : Nat} (h1 : 1 ≤ i) (h : i ≤ j) (hp : p d[j]! = true) : scanDown p d i j = scanDown p d i (j - 1) := by
  obtain ⟨j, rfl⟩ : ∃ k, j = k + 1 := ⟨j - 1, by omega⟩
  conv => lhs; unfold scanDown
  rw [if_pos (by simp [h, hp])]
  rfl
theorem scanDown_stop {p : Int → Bool} {d : Array Int} {i j : Nat} (h : ¬ (i ≤ j ∧ p d[j]! = true)) : scanDown p d i j = j := by
  cases j with
  | zero => rfl
  | succ j =>
    unfold scanDown
    rw [if_neg (by simpa using h)]
theorem scanDown_ge {p : Int → Bool} {d : Array Int} {i a : Nat} (hi : a < i) : ∀ (j : Nat), a ≤ j → a ≤ scanDown p d i j
  | 0, h => h
  | j + 1, h => by
    unfold scanDown
    split
    · rename_i hc
      simp only [Bool.and_eq_true, decide_eq_true_eq] at hc
      exact scanDown_ge hi j (by omega)
    · exact h
theorem scanSorted_step {d : Array Int} {b i : Nat} (h : i < b) (hp : ¬ d[i]! < d[i - 1]!) : scanSorted ltInt d b i = scanSorted ltInt d b (i + 1) := by
  conv => lhs; unfold scanSorted
  rw [if_pos (by unfold ltInt; simp only [Bool.and_eq_true, decide_eq_true_eq, Bool.not_eq_true', decide_eq_false_iff_not]; exact ⟨h, hp⟩)]
theorem scanSorted_stop {d : Array Int} {b i : Nat} (h : ¬ (i < b ∧ ¬ d[i]! < d[i - 1]!)) : scanSorted ltInt d b i = i := by
  unfold scanSorted
  rw [if_neg (by unfold ltInt; simpa using h)]
theorem partialIns_spec {g cap : Nat} {d : Array Int} {a b h h1 h2 : Nat} (ha : a < b) (hl : b - a < 50) (hb : b ≤ d.size) (hd : d.size < 1000000) : FSpec Try.prog 73 [.row (slV g d cap) h, .v (kI a) h1, .v (kI b) h2] [rowU (slV g d cap) d]
    fun r cs => r = bA (partialInsertionSort ltInt d a b).2 ∧ (partialInsertionSort ltInt d a b).1 = d ∧ cs = [rowU (slV g d cap) d] := by
  have hw1 : IntKind.i64.wrap ((a : Int) + 1) = ((a + 1 : Nat) : Int) := by rw [w64 (by omega) (by omega)]; omega
  have hwl : IntKind.i64.wrap ((b : Int) - a) = ((b - a : Nat) : Int) := by rw [w64 (by omega) (by omega)]; omega
  refine a_enter hT [.row (slV g d cap) 30, .v (kI a) 0, .v (kI b) 0] [30] Try.func73 rfl rfl rfl ⟨rfl, rfl, rfl, trivial⟩ fun c => ?_
  refine a_loop hT [0, 1, 2, 7, 8] (fun _ : Unit => [.row (slV g d cap) 30, .v (kI a) 0, .v (kI b) 0, .v (kI (a + 1 : Nat)) 0, .v (kI 0) 0]) (fun _ => [(30, rowU (slV g d cap) d)]) (fun _ => True) (fun _ => 0) () [30] rfl rfl trivial ⟨rfl, rfl, rfl, by rw [hw1]; rfl, rfl, trivial⟩ rfl ⟨⟨rfl, rfl, rfl, rfl⟩, trivial⟩ fun _ _ => ?_
  refine a_t hT rfl rfl rfl ?_
  refine a_cutM hT [0, 1, 2, 7] (fun i : Nat => [.row (slV g d cap) 30, .v (kI a) 0, .v (kI b) 0, .v (kI i) 0]) (fun _ => [(30, rowU (slV g d cap) d)]) (fun i => i = scanSorted ltInt d b (a + 1)) 4 rfl rfl ?_ fun i hi => ?_
  · refine a_loop hT [0, 1, 2, 7] (fun i : Nat => [.row (slV g d cap) 30, .v (kI a) 0, .v (kI b) 0, .v (kI i) 0]) (fun _ => [(30, rowU (slV g d cap) d)]) (fun i => scanSorted ltInt d b i = scanSorted ltInt d b (a + 1) ∧ a + 1 ≤ i ∧ i ≤ b) (fun i => b - i) (a + 1) [30] rfl rfl ⟨rfl, Nat.le_refl _, ha⟩ ⟨rfl, rfl, rfl, rfl, trivial⟩ rfl ⟨⟨rfl, rfl, rfl, rfl⟩, trivial⟩ ?_
    rintro i ⟨hs, hi1, hi2⟩
    have hwi : IntKind.i64.wrap ((i : Int) + 1) = ((i + 1 : Nat) : Int) := by rw [w64 (by omega) (by omega)]; omega
    have hwj : IntKind.i64.wrap ((i : Int) - 1) = ((i - 1 : Nat) : Int) := by rw [w64 (by omega) (by omega)]; omega
    refine a_drawX hT [] 13 [(0, false), (1, false), (2, false), (3, false), (4, false), (5, false), (6, false), (7, false), (8, false), (9, false), (10, false), (11, false), (12, false), (13, true)] rfl rfl (by kernel_rfl) (by kernel_rfl) rfl ?_
    refine a_g hT rfl rfl rfl (fun h3 => ?_) (fun h3 => ?_)
    · have h3 := of_decide_eq_true h3
      refine a_rix hT (i) rfl rfl rfl rfl rfl rfl (by first | rfl | omega) (by omega) ?_
      refine a_uldP hT (i) (d) rfl rfl rfl rfl rfl rfl rfl (by first | omega | (simp only [Array.size_setIfInBounds, swp_size]; omega)) rfl ?_
      refine a_rix hT (i - 1) rfl rfl rfl rfl rfl rfl (by first | rfl | omega) (by omega) ?_
      refine a_uldP hT (i - 1) (d) rfl rfl rfl rfl rfl rfl rfl (by first | omega | (simp only [Array.size_setIfInBounds, swp_size]; omega)) rfl ?_
      refine a_callF hT rfl rfl rfl (by kernel_rfl) (uless_spec (h := 0) (h1 := 0)) [] [] ⟨rfl, rfl, trivial⟩ rfl trivial ?_
      rintro _ _ ⟨rfl, rfl⟩
      refine a_rest hT [(14, true), (15, true)] rfl rfl (by kernel_rfl) ?_
      refine a_if hT rfl rfl (fun h4 => ?_) (fun h4 => ?_)
      · simp at h4
        exact a_next hT (i + 1) [30] rfl rfl ⟨⟨(scanSorted_step (by omega) (by first | assumption | omega | simp_all)).symm.trans hs, by omega, by omega⟩, by omega⟩ ⟨rfl, rfl, rfl, by show Value.int .i64 _ = Value.int .i64 _; rw [hwi], trivial⟩ rfl ⟨⟨rfl, rfl, rfl, rfl⟩, trivial⟩
      · simp at h4
        exact a_next hT i [30] rfl rfl ((scanSorted_stop (by rintro ⟨_, h⟩; first | exact h (by assumption) | omega | simp_all)).symm.trans hs) ⟨rfl, rfl, rfl, rfl, trivial⟩ rfl ⟨⟨rfl, rfl, rfl, rfl⟩, trivial⟩
    · have h3 := of_decide_eq_false h3
      refine a_rest hT [(14, true), (15, true)] rfl rfl (by kernel_rfl) ?_
      refine a_f hT rfl rfl rfl ?_
      exact a_next hT i [30] rfl rfl ((scanSorted_stop (by rintro ⟨h, _⟩; omega)).symm.trans hs) ⟨rfl, rfl, rfl, rfl, trivial⟩ rfl ⟨⟨rfl, rfl, rfl, rfl⟩, trivial⟩
  · subst hi
    refine a_if hT rfl rfl (fun h3 => ?_) (fun h3 => ?_)
    · have h3 := eq_of_beq h3
      refine a_ret hT [30] rfl rfl rfl rfl rfl rfl ?_
      have e : partialInsertionSort ltInt d a b = (d, true) := by unfold partialInsertionSort partialIns; simp only; rw [if_pos (by omega)]
      rw [e]; exact ⟨rfl, rfl, rfl⟩
    · have h3 := ne_of_beq_false h3
      refine a_if hT rfl rfl (fun h4 => ?_) (fun h4 => ?_)
      · have h4 := of_decide_eq_true h4
        refine a_ret hT [30] rfl rfl rfl rfl rfl rfl ?_
        have e : partialInsertionSort ltInt d a b = (d, false) := by unfold partialInsertionSort partialIns; simp only; rw [if_neg (by omega), if_pos (by omega)]
        rw [e]; exact ⟨rfl, rfl, rfl⟩
      · have h4 := of_decide_eq_false h4
        (exfalso; first | omega | contradiction)
theorem partition_spec {g cap : Nat} {d : Array Int} {a b p h h1 h2 h3 : Nat} (ha : a ≤ p) (hp : p < b) (hb : b ≤ d.size) (hd : d.size < 1000000) : FSpec Try.prog 76 [.row (slV g d cap) h, .v (kI a) h1, .v (kI b) h2, .v (kI p) h3] [rowU (slV g d cap) d]
    fun r cs => r = .tup [.v (kI (Go.Sort.partition ltInt d a b p).1) 0, bA (Go.Sort.partition ltInt d a b p).2.1] ∧ cs = [rowU (slV g d cap) (Go.Sort.partition ltInt d a b p).2.2] := by
  have hw1 : IntKind.i64.wrap ((a : Int) + 1) = ((a + 1 : Nat) : Int) := by rw [w64 (by omega) (by omega)]; omega
  have hwb : IntKind.i64.wrap ((b : Int) - 1) = ((b - 1 : Nat) : Int) := by rw [w64 (by omega) (by omega)]; omega
  refine a_enter hT [.row (slV g d cap) 30, .v (kI a) 0, .v (kI b) 0, .v (kI p) 0] [30] Try.func76 rfl rfl rfl ⟨rfl, rfl, rfl, rfl, trivial⟩ fun c => ?_
  refine a_treeN hT [0, 1, 2] (fun _ : Unit => [.row (slV g d cap) 30, .v (kI ↑a) 0, .v (kI ↑b) 0]) (fun _ => [(30, rowU (slV g d cap) (swp d a p))]) (fun _ => True) [30] 16 [(0, false), (1, false), (2, false), (3, false), (4, false), (5, false), (6, false), (8, false), (9, false), (10, false)] rfl rfl (by kernel_rfl) (by kernel_rfl) rfl ?_ fun _ _ => ?_
  · refine a_rix hT (p) rfl rfl rfl rfl rfl rfl (by first | rfl | omega) (by omega) ?_
    refine a_rix hT (a) rfl rfl rfl rfl rfl rfl (by first | rfl | omega) (by omega) ?_
    refine a_alt hT [([(7, true), (11, true), (12, true), (13, true), (14, true), (15, true)], true), ([(11, true), (7, true), (12, true), (13, true), (14, true), (15, true)], true)] rfl rfl (by kernel_rfl) ⟨?_, ?_, trivial⟩
    · refine a_uld hT (p) (d) rfl rfl rfl rfl rfl rfl rfl (by first | omega | (simp only [Array.size_setIfInBounds, swp_size]; omega)) rfl ?_
      refine a_uld hT (a) (d) rfl rfl rfl rfl rfl rfl rfl (by first | omega | (simp only [Array.size_setIfInBounds, swp_size]; omega)) rfl ?_
      refine a_rix hT (a) rfl rfl rfl rfl rfl rfl (by first | rfl | omega) (by omega) ?_
      refine a_ust hT (a) (d) _ rfl rfl rfl rfl rfl rfl rfl rfl (by first | omega | (simp only [Array.size_setIfInBounds, swp_size]; omega)) rfl ?_
      refine a_rix hT (p) rfl rfl rfl rfl rfl rfl (by first | rfl | omega) (by omega) ?_
      refine a_ust hT (p) (Array.setIfInBounds d a d[p]!) _ rfl rfl rfl rfl rfl rfl rfl rfl (by first | omega | (simp only [Array.size_setIfInBounds, swp_size]; omega)) rfl ?_
      exact a_next hT () [30] rfl rfl trivial ⟨rfl, rfl, rfl, trivial⟩ rfl ⟨⟨rfl, rfl, rfl, rfl⟩, trivial⟩
    · refine a_uld hT (a) (d) rfl rfl rfl rfl rfl rfl rfl (by first | omega | (simp only [Array.size_setIfInBounds, swp_size]; omega)) rfl ?_
      refine a_uld hT (p) (d) rfl rfl rfl rfl rfl rfl rfl (by first | omega | (simp only [Array.size_setIfInBounds, swp_size]; omega)) rfl ?_
      refine a_rix hT (a) rfl rfl rfl rfl rfl rfl (by first | rfl | omega) (by omega) ?_
      refine a_ust hT (a) (d) _ rfl rfl rfl rfl rfl rfl rfl rfl (by first | omega | (simp only [Array.size_setIfInBounds, swp_size]; omega)) rfl ?_
      refine a_rix hT (p) rfl rfl rfl rfl rfl rfl (by first | rfl | omega) (by omega) ?_
      refine a_ust hT (p) (Array.setIfInBounds d a d[p]!) _ rfl rfl rfl rfl rfl rfl rfl rfl (by first | omega | (simp only [Array.size_setIfInBounds, swp_size]; omega)) rfl ?_
      exact a_next hT () [30] rfl rfl trivial ⟨rfl, rfl, rfl, trivial⟩ rfl ⟨⟨rfl, rfl, rfl, rfl⟩, trivial⟩
  · refine a_cutM hT [0, 1, 10, 11] (fun i : Nat => [.row (slV g d cap) 30, .v (kI a) 0, .v (kI i) 0, .v (kI (b - 1 : Nat)) 0]) (fun _ => [(30, rowU (slV g d cap) (swp d a p))]) (fun i => i = scanUp (fun x => ltInt x (swp d a p)[a]!) (swp d a p) (b - 1) (a + 1)) 11 rfl rfl ?_ fun i hi => ?_
    · refine a_loop hT [0, 1, 10, 11] (fun i : Nat => [.row (slV g d cap) 30, .v (kI a) 0, .v (kI i) 0, .v (kI (b - 1 : Nat)) 0]) (fun _ => [(30, rowU (slV g d cap) (swp d a p))]) (fun i => scanUp (fun x => ltInt x (swp d a p)[a]!) (swp d a p) (b - 1) i = scanUp (fun x => ltInt x (swp d a p)[a]!) (swp d a p) (b - 1) (a + 1) ∧ a + 1 ≤ i ∧ i ≤ b) (fun i => b - i) (a + 1) [30] rfl rfl ⟨rfl, Nat.le_refl _, by omega⟩ ⟨rfl, rfl, by rw [hw1]; rfl, by rw [hwb]; rfl, trivial⟩ rfl ⟨⟨rfl, rfl, rfl, rfl⟩, trivial⟩ ?_
      rintro i ⟨hs, hi1, hi2⟩
      have hz := swp_size d a p
      have hwi : IntKind.i64.wrap ((i : Int) + 1) = ((i + 1 : Nat) : Int) := by rw [w64 (by omega) (by omega)]; omega
      refine a_drawX hT [] 12 [(0, false), (1, false), (2, false), (3, false), (4, false), (5, false), (6, false), (7, false), (8, false), (9, false), (10, false), (11, false), (12, true)] rfl rfl (by kernel_rfl) (by kernel_rfl) rfl ?_
      refine a_g hT rfl rfl rfl (fun h4 => ?_) (fun h4 => ?_)
      · have h4 := of_decide_eq_true h4
        refine a_rix hT (i) rfl rfl rfl rfl rfl rfl (by first | rfl | omega) (by omega) ?_
        refine a_uldP hT (i) (swp d a p) rfl rfl rfl rfl rfl rfl rfl (by first | omega | (simp only [Array.size_setIfInBounds, swp_size]; omega)) rfl ?_
        refine a_rix hT (a) rfl rfl rfl rfl rfl rfl (by first | rfl | omega) (by omega) ?_
        refine a_uldP hT (a) (swp d a p) rfl rfl rfl rfl rfl rfl rfl (by first | omega | (simp only [Array.size_setIfInBounds, swp_size]; omega)) rfl ?_
        refine a_callF hT rfl rfl rfl (by kernel_rfl) (uless_spec (h := 0) (h1 := 0)) [] [] ⟨rfl, rfl, trivial⟩ rfl trivial ?_
        rintro _ _ ⟨rfl, rfl⟩
        refine a_rest hT [(13, true)] rfl rfl (by kernel_rfl) ?_
        refine a_if hT rfl rfl (fun h5 => ?_) (fun h5 => ?_)
        · have h5 := of_decide_eq_true h5
          exact a_next hT (i + 1) [30] rfl rfl ⟨⟨(scanUp_step (by omega) (by unfold ltInt; exact decide_eq_true (by assumption))).symm.trans hs, by omega, by omega⟩, by omega⟩ ⟨rfl, rfl, by show Value.int .i64 _ = Value.int .i64 _; rw [hwi], rfl, trivial⟩ rfl ⟨⟨rfl, rfl, rfl, rfl⟩, trivial⟩
        · have h5 := of_decide_eq_false h5
          exact a_next hT i [30] rfl rfl ((scanUp_stop (by rintro ⟨_, h⟩; unfold ltInt at h; have h := of_decide_eq_true h; omega)).symm.trans hs) ⟨rfl, rfl, rfl, rfl, trivial⟩ rfl ⟨⟨rfl, rfl, rfl, rfl⟩, trivial⟩
      · have h4 := of_decide_eq_false h4
        refine a_rest hT [(13, true)] rfl rfl (by kernel_rfl) ?_
        refine a_f hT rfl rfl rfl ?_
        exact a_next hT i [30] rfl rfl ((scanUp_stop (by rintro ⟨h, _⟩; omega)).symm.trans hs) ⟨rfl, rfl, rfl, rfl, trivial⟩ rfl ⟨⟨rfl, rfl, rfl, rfl⟩, trivial⟩
    · have hz := swp_size d a p
      have hup := scanUp_ge (fun x => ltInt x (swp d a p)[a]!) (swp d a p) (b - 1) (a + 1)
      rw [← hi] at hup
      refine a_cutM hT [0, 1, 10, 11] (fun j : Nat => [.row (slV g d cap) 30, .v (kI a) 0, .v (kI i) 0, .v (kI j) 0]) (fun _ => [(30, rowU (slV g d cap) (swp d a p))]) (fun j => j = scanDown (fun x => !ltInt x (swp d a p)[a]!) (swp d a p) i (b - 1)) 0 rfl rfl ?_ fun j hj => ?_
      · refine a_loop hT [0, 1, 10, 11] (fun j : Nat => [.row (slV g d cap) 30, .v (kI a) 0, .v (kI i) 0, .v (kI j) 0]) (fun _ => [(30, rowU (slV g d cap) (swp d a p))]) (fun j => scanDown (fun x => !ltInt x (swp d a p)[a]!) (swp d a p) i j = scanDown (fun x => !ltInt x (swp d a p)[a]!) (swp d a p) i (b - 1) ∧ j ≤ b - 1) (fun j => j) (b - 1) [30] rfl rfl ⟨rfl, Nat.le_refl _⟩ ⟨rfl, rfl, rfl, rfl, trivial⟩ rfl ⟨⟨rfl, rfl, rfl, rfl⟩, trivial⟩ ?_
        rintro j ⟨hs, hj1⟩
        have hwj : 1 ≤ j → IntKind.i64.wrap ((j : Int) - 1) = ((j - 1 : Nat) : Int) := fun h => by rw [w64 (by omega) (by omega)]; omega
        refine a_drawX hT [] 12 [(0, false), (1, false), (2, false), (3, false), (4, false), (5, false), (6, false), (7, false), (8, false), (9, false), (10, false), (11, false), (12, true)] rfl rfl (by kernel_rfl) (by kernel_rfl) rfl ?_
        refine a_g hT rfl rfl rfl (fun h4 => ?_) (fun h4 => ?_)
        · have h4 := of_decide_eq_true h4
          refine a_rix hT (j) rfl rfl rfl rfl rfl rfl (by first | rfl | omega) (by omega) ?_
          refine a_uldP hT (j) (swp d a p) rfl rfl rfl rfl rfl rfl rfl (by first | omega | (simp only [Array.size_setIfInBounds, swp_size]; omega)) rfl ?_
          refine a_rix hT (a) rfl rfl rfl rfl rfl rfl (by first | rfl | omega) (by omega) ?_
          refine a_uldP hT (a) (swp d a p) rfl rfl rfl rfl rfl rfl rfl (by first | omega | (simp only [Array.size_setIfInBounds, swp_size]; omega)) rfl ?_
          refine a_callF hT rfl rfl rfl (by kernel_rfl) (uless_spec (h := 0) (h1 := 0)) [] [] ⟨rfl, rfl, trivial⟩ rfl trivial ?_
          rintro _ _ ⟨rfl, rfl⟩
          refine a_rest hT [(13, true), (14, true)] rfl rfl (by kernel_rfl) ?_
          refine a_if hT rfl rfl (fun h5 => ?_) (fun h5 => ?_)
          · simp at h5
            exact a_next hT (j - 1) [30] rfl rfl ⟨⟨(scanDown_step (by omega) (by omega) (by unfold ltInt; simp only [Bool.not_eq_true', decide_eq_false_iff_not]; omega)).symm.trans hs, by omega⟩, by omega⟩ ⟨rfl, rfl, rfl, by show Value.int .i64 _ = Value.int .i64 _; rw [hwj (by omega)], trivial⟩ rfl ⟨⟨rfl, rfl, rfl, rfl⟩, trivial⟩
          · simp at h5
            exact a_next hT j [30] rfl rfl ((scanDown_stop (by rintro ⟨_, h⟩; unfold ltInt at h; simp only [Bool.not_eq_true', decide_eq_false_iff_not] at h; omega)).symm.trans hs) ⟨rfl, rfl, rfl, rfl, trivial⟩ rfl ⟨⟨rfl, rfl, rfl, rfl⟩, trivial⟩
        · have h4 := of_decide_eq_false h4
          refine a_rest hT [(13, true), (14, true)] rfl rfl (by kernel_rfl) ?_
          refine a_f hT rfl rfl rfl ?_
          exact a_next hT j [30] rfl rfl ((scanDown_stop (by rintro ⟨h, _⟩; omega)).symm.trans hs) ⟨rfl, rfl, rfl, rfl, trivial⟩ rfl ⟨⟨rfl, rfl, rfl, rfl⟩, trivial⟩
      · have hdn := scanDown_le (fun x => !ltInt x (swp d a p)[a]!) (swp d a p) i (b - 1)
        rw [← hj] at hdn
        refine a_if hT rfl rfl (fun h4 => ?_) (fun h4 => ?_)
        · have h4 := of_decide_eq_true h4
          have hja : a ≤ j := by
            have := scanDown_ge (p := fun x => !ltInt x (swp d a p)[a]!) (d := swp d a p) (i := i) (a := a) (by omega) (b - 1) (by omega)
            rw [← hj] at this
            exact this
          have ep : Go.Sort.partition ltInt d a b p = (j, true, swp (swp d a p) j a) := by
            unfold Go.Sort.partition
            simp only
            rw [← hi, ← hj, if_pos (by omega)]
          rw [ep]
          refine a_treeN hT [0, 1, 10, 11] (fun _ : Unit => [.row (slV g d cap) 30, .v (kI ↑a) 0, .v (kI ↑i) 0, .v (kI ↑j) 0]) (fun _ => [(30, rowU (slV g d cap) (swp (swp d a p) j a))]) (fun _ => True) [30] 16 [(0, false), (1, false), (2, false), (3, false), (4, false), (5, false), (6, false), (8, false), (9, false), (10, false)] rfl rfl (by kernel_rfl) (by kernel_rfl) rfl ?_ fun _ _ => ?_
          · refine a_rix hT (a) rfl rfl rfl rfl rfl rfl (by first | rfl | omega) (by omega) ?_
            refine a_rix hT (j) rfl rfl rfl rfl rfl rfl (by first | rfl | omega) (by omega) ?_
            refine a_alt hT [([(7, true), (11, true), (12, true), (13, true), (14, true), (15, true)], true), ([(11, true), (7, true), (12, true), (13, true), (14, true), (15, true)], true)] rfl rfl (by kernel_rfl) ⟨?_, ?_, trivial⟩
            · refine a_uld hT (a) (swp d a p) rfl rfl rfl rfl rfl rfl rfl (by first | omega | (simp only [Array.size_setIfInBounds, swp_size]; omega)) rfl ?_
              refine a_uld hT (j) (swp d a p) rfl rfl rfl rfl rfl rfl rfl (by first | omega | (simp only [Array.size_setIfInBounds, swp_size]; omega)) rfl ?_
              refine a_rix hT (j) rfl rfl rfl rfl rfl rfl (by first | rfl | omega) (by omega) ?_
              refine a_ust hT (j) (swp d a p) _ rfl rfl rfl rfl rfl rfl rfl rfl (by first | omega | (simp only [Array.size_setIfInBounds, swp_size]; omega)) rfl ?_
              refine a_rix hT (a) rfl rfl rfl rfl rfl rfl (by first | rfl | omega) (by omega) ?_
              refine a_ust hT (a) (Array.setIfInBounds (swp d a p) j (swp d a p)[a]!) _ rfl rfl rfl rfl rfl rfl rfl rfl (by first | omega | (simp only [Array.size_setIfInBounds, swp_size]; omega)) rfl ?_
              exact a_next hT () [30] rfl rfl trivial ⟨rfl, rfl, rfl, rfl, trivial⟩ rfl ⟨⟨rfl, rfl, rfl, rfl⟩, trivial⟩
            · refine a_uld hT (j) (swp d a p) rfl rfl rfl rfl rfl rfl rfl (by first | omega | (simp only [Array.size_setIfInBounds, swp_size]; omega)) rfl ?_
              refine a_uld hT (a) (swp d a p) rfl rfl rfl rfl rfl rfl rfl (by first | omega | (simp only [Array.size_setIfInBounds, swp_size]; omega)) rfl ?_
              refine a_rix hT (j) rfl rfl rfl rfl rfl rfl (by first | rfl | omega) (by omega) ?_
              refine a_ust hT (j) (swp d a p) _ rfl rfl rfl rfl rfl rfl rfl rfl (by first | omega | (simp only [Array.size_setIfInBounds, swp_size]; omega)) rfl ?_
              refine a_rix hT (a) rfl rfl rfl rfl rfl rfl (by first | rfl | omega) (by omega) ?_
              refine a_ust hT (a) (Array.setIfInBounds (swp d a p) j (swp d a p)[a]!) _ rfl rfl rfl rfl rfl rfl rfl rfl (by first | omega | (simp only [Array.size_setIfInBounds, swp_size]; omega)) rfl ?_
              exact a_next hT () [30] rfl rfl trivial ⟨rfl, rfl, rfl, rfl, trivial⟩ rfl ⟨⟨rfl, rfl, rfl, rfl⟩, trivial⟩
          · refine a_ret hT [30] rfl rfl rfl rfl rfl rfl ?_
            first | exact ⟨rfl, rfl⟩ | rfl
        · have h4 := of_decide_eq_false h4
          have hz2 := swp_size (swp d a p) i j
          have ep : Go.Sort.partition ltInt d a b p = ((partLoop ltInt a (i + 1) (j - 1) (swp (swp d a p) i j)).1, false, swp (partLoop ltInt a (i + 1) (j - 1) (swp (swp d a p) i j)).2 (partLoop ltInt a (i + 1) (j - 1) (swp (swp d a p) i j)).1 a) := by
            unfold Go.Sort.partition
            simp only
            rw [← hi, ← hj, if_neg (by omega)]
          rw [ep]
          have hwi : IntKind.i64.wrap ((i : Int) + 1) = ((i + 1 : Nat) : Int) := by rw [w64 (by omega) (by omega)]; omega
          have hwj : IntKind.i64.wrap ((j : Int) - 1) = ((j - 1 : Nat) : Int) := by rw [w64 (by omega) (by omega)]; omega
          refine a_treeN hT [0, 1, 10, 11] (fun _ : Unit => [.row (slV g d cap) 30, .v (kI ↑a) 0, .v (kI ↑i) 0, .v (kI ↑j) 0]) (fun _ => [(30, rowU (slV g d cap) (swp (swp d a p) i j))]) (fun _ => True) [30] 16 [(0, false), (1, false), (2, false), (3, false), (4, false), (5, false), (6, false), (8, false), (9, false), (10, false)] rfl rfl (by kernel_rfl) (by kernel_rfl) rfl ?_ fun _ _ => ?_
          · refine a_rix hT (j) rfl rfl rfl rfl rfl rfl (by first | rfl | omega) (by omega) ?_
            refine a_rix hT (i) rfl rfl rfl rfl rfl rfl (by first | rfl | omega) (by omega) ?_
            refine a_alt hT [([(7, true), (11, true), (12, true), (13, true), (14, true), (15, true)], true), ([(11, true), (7, true), (12, true), (13, true), (14, true), (15, true)], true)] rfl rfl (by kernel_rfl) ⟨?_, ?_, trivial⟩
            · refine a_uld hT (j) (swp d a p) rfl rfl rfl rfl rfl rfl rfl (by first | omega | (simp only [Array.size_setIfInBounds, swp_size]; omega)) rfl ?_
              refine a_uld hT (i) (swp d a p) rfl rfl rfl rfl rfl rfl rfl (by first | omega | (simp only [Array.size_setIfInBounds, swp_size]; omega)) rfl ?_
              refine a_rix hT (i) rfl rfl rfl rfl rfl rfl (by first | rfl | omega) (by omega) ?_
              refine a_ust hT (i) (swp d a p) _ rfl rfl rfl rfl rfl rfl rfl rfl (by first | omega | (simp only [Array.size_setIfInBounds, swp_size]; omega)) rfl ?_
              refine a_rix hT (j) rfl rfl rfl rfl rfl rfl (by first | rfl | omega) (by omega) ?_
              refine a_ust hT (j) (Array.setIfInBounds (swp d a p) i (swp d a p)[j]!) _ rfl rfl rfl rfl rfl rfl rfl rfl (by first | omega | (simp only [Array.size_setIfInBounds, swp_size]; omega)) rfl ?_
              exact a_next hT () [30] rfl rfl trivial ⟨rfl, rfl, rfl, rfl, trivial⟩ rfl ⟨⟨rfl, rfl, rfl, rfl⟩, trivial⟩
            · refine a_uld hT (i) (swp d a p) rfl rfl rfl rfl rfl rfl rfl (by first | omega | (simp only [Array.size_setIfInBounds, swp_size]; omega)) rfl ?_
              refine a_uld hT (j) (swp d a p) rfl rfl rfl rfl rfl rfl rfl (by first | omega | (simp only [Array.size_setIfInBounds, swp_size]; omega)) rfl ?_
              refine a_rix hT (i) rfl rfl rfl rfl rfl rfl (by first | rfl | omega) (by omega) ?_
              refine a_ust hT (i) (swp d a p) _ rfl rfl rfl rfl rfl rfl rfl rfl (by first | omega | (simp only [Array.size_setIfInBounds, swp_size]; omega)) rfl ?_
              refine a_rix hT (j) rfl rfl rfl rfl rfl rfl (by first | rfl | omega) (by omega) ?_
              refine a_ust hT (j) (Array.setIfInBounds (swp d a p) i (swp d a p)[j]!) _ rfl rfl rfl rfl rfl rfl rfl rfl (by first | omega | (simp only [Array.size_setIfInBounds, swp_size]; omega)) rfl ?_
              exact a_next hT () [30] rfl rfl trivial ⟨rfl, rfl, rfl, rfl, trivial⟩ rfl ⟨⟨rfl, rfl, rfl, rfl⟩, trivial⟩
          · refine a_loop hT [0, 1, 10, 11] (fun x : Nat × Nat × Array Int => [.row (slV g d cap) 30, .v (kI a) 0, .v (kI x.1) 0, .v (kI x.2.1) 0]) (fun x => [(30, rowU (slV g d cap) x.2.2)]) (fun x => x.2.2.size = d.size ∧ partLoop ltInt a x.1 x.2.1 x.2.2 = partLoop ltInt a (i + 1) (j - 1) (swp (swp d a p) i j) ∧ a < x.1 ∧ a ≤ x.2.1 ∧ x.2.1 < b ∧ x.1 ≤ b + 1) (fun x => x.2.1 + 1 - x.1) (i + 1, j - 1, swp (swp d a p) i j) [30] rfl rfl ⟨by rw [hz2, hz], rfl, by show a < i + 1; omega, by show a ≤ j - 1; omega, by show j - 1 < b; omega, by show i + 1 ≤ b + 1; omega⟩ ⟨rfl, rfl, by rw [hwi]; rfl, by rw [hwj]; rfl, trivial⟩ rfl ⟨⟨rfl, rfl, rfl, rfl⟩, trivial⟩ ?_
            rintro ⟨i2, j2, e⟩ ⟨hse, hpe, hi2, hj2, hj3, hi3⟩
            dsimp only at hse hpe hi2 hj2 hj3 hi3 ⊢
            have hup2 := scanUp_ge (fun x => ltInt x e[a]!) e j2 i2
            refine a_cutM hT [0, 1, 10, 11] (fun u : Nat => [.row (slV g d cap) 30, .v (kI a) 0, .v (kI u) 0, .v (kI j2) 0]) (fun _ => [(30, rowU (slV g d cap) e)]) (fun u => u = scanUp (fun x => ltInt x e[a]!) e j2 i2) 1 rfl rfl ?_ fun u hu => ?_
            · refine a_loop hT [0, 1, 10, 11] (fun u : Nat => [.row (slV g d cap) 30, .v (kI a) 0, .v (kI u) 0, .v (kI j2) 0]) (fun _ => [(30, rowU (slV g d cap) e)]) (fun u => scanUp (fun x => ltInt x e[a]!) e j2 u = scanUp (fun x => ltInt x e[a]!) e j2 i2 ∧ i2 ≤ u ∧ u ≤ b + 1) (fun u => b + 1 - u) i2 [30] rfl rfl ⟨rfl, Nat.le_refl _, by omega⟩ ⟨rfl, rfl, rfl, rfl, trivial⟩ rfl ⟨⟨rfl, rfl, rfl, rfl⟩, trivial⟩ ?_
              rintro u ⟨hs, hu1, hu2⟩
              have hwu : IntKind.i64.wrap ((u : Int) + 1) = ((u + 1 : Nat) : Int) := by rw [w64 (by omega) (by omega)]; omega
              refine a_drawX hT [] 12 [(0, false), (1, false), (2, false), (3, false), (4, false), (5, false), (6, false), (7, false), (8, false), (9, false), (10, false), (11, false), (12, true)] rfl rfl (by kernel_rfl) (by kernel_rfl) rfl ?_
              refine a_g hT rfl rfl rfl (fun h5 => ?_) (fun h5 => ?_)
              · have h5 := of_decide_eq_true h5
                refine a_rix hT (u) rfl rfl rfl rfl rfl rfl (by first | rfl | omega) (by omega) ?_
                refine a_uldP hT (u) (e) rfl rfl rfl rfl rfl rfl rfl (by first | omega | (simp only [Array.size_setIfInBounds, swp_size]; omega)) rfl ?_
                refine a_rix hT (a) rfl rfl rfl rfl rfl rfl (by first | rfl | omega) (by omega) ?_
                refine a_uldP hT (a) (e) rfl rfl rfl rfl rfl rfl rfl (by first | omega | (simp only [Array.size_setIfInBounds, swp_size]; omega)) rfl ?_
                refine a_callF hT rfl rfl rfl (by kernel_rfl) (uless_spec (h := 0) (h1 := 0)) [] [] ⟨rfl, rfl, trivial⟩ rfl trivial ?_
                rintro _ _ ⟨rfl, rfl⟩
                refine a_rest hT [(13, true)] rfl rfl (by kernel_rfl) ?_
                refine a_if hT rfl rfl (fun h6 => ?_) (fun h6 => ?_)
                · have h6 := of_decide_eq_true h6
                  exact a_next hT (u + 1) [30] rfl rfl ⟨⟨(scanUp_step (by omega) (by unfold ltInt; exact decide_eq_true (by assumption))).symm.trans hs, by omega, by omega⟩, by omega⟩ ⟨rfl, rfl, by show Value.int .i64 _ = Value.int .i64 _; rw [hwu], rfl, trivial⟩ rfl ⟨⟨rfl, rfl, rfl, rfl⟩, trivial⟩
                · have h6 := of_decide_eq_false h6
                  exact a_next hT u [30] rfl rfl ((scanUp_stop (by rintro ⟨_, h⟩; unfold ltInt at h; have h := of_decide_eq_true h; omega)).symm.trans hs) ⟨rfl, rfl, rfl, rfl, trivial⟩ rfl ⟨⟨rfl, rfl, rfl, rfl⟩, trivial⟩
              · have h5 := of_decide_eq_false h5
                refine a_rest hT [(13, true)] rfl rfl (by kernel_rfl) ?_
                refine a_f hT rfl rfl rfl ?_
                exact a_next hT u [30] rfl rfl ((scanUp_stop (by rintro ⟨h, _⟩; omega)).symm.trans hs) ⟨rfl, rfl, rfl, rfl, trivial⟩ rfl ⟨⟨rfl, rfl, rfl, rfl⟩, trivial⟩
            · rw [← hu] at hup2
              have hdn2 := scanDown_le (fun x => !ltInt x e[a]!) e u j2
              have hdg2 := scanDown_ge (p := fun x => !ltInt x e[a]!) (d := e) (i := u) (a := a) (by omega) j2 hj2
              refine a_cutM hT [0, 1, 10, 11] (fun v : Nat => [.row (slV g d cap) 30, .v (kI a) 0, .v (kI u) 0, .v (kI v) 0]) (fun _ => [(30, rowU (slV g d cap) e)]) (fun v => v = scanDown (fun x => !ltInt x e[a]!) e u j2) 0 rfl rfl ?_ fun v hv => ?_
              · refine a_loop hT [0, 1, 10, 11] (fun v : Nat => [.row (slV g d cap) 30, .v (kI a) 0, .v (kI u) 0, .v (kI v) 0]) (fun _ => [(30, rowU (slV g d cap) e)]) (fun v => scanDown (fun x => !ltInt x e[a]!) e u v = scanDown (fun x => !ltInt x e[a]!) e u j2 ∧ v ≤ j2) (fun v => v) j2 [30] rfl rfl ⟨rfl, Nat.le_refl _⟩ ⟨rfl, rfl, rfl, rfl, trivial⟩ rfl ⟨⟨rfl, rfl, rfl, rfl⟩, trivial⟩ ?_
                rintro v ⟨hs, hv1⟩
                have hwv : 1 ≤ v → IntKind.i64.wrap ((v : Int) - 1) = ((v - 1 : Nat) : Int) := fun h => by rw [w64 (by omega) (by omega)]; omega
                refine a_drawX hT [] 12 [(0, false), (1, false), (2, false), (3, false), (4, false), (5, false), (6, false), (7, false), (8, false), (9, false), (10, false), (11, false), (12, true)] rfl rfl (by kernel_rfl) (by kernel_rfl) rfl ?_
                refine a_g hT rfl rfl rfl (fun h5 => ?_) (fun h5 => ?_)
                · have h5 := of_decide_eq_true h5
                  refine a_rix hT (v) rfl rfl rfl rfl rfl rfl (by first | rfl | omega) (by omega) ?_
                  refine a_uldP hT (v) (e) rfl rfl rfl rfl rfl rfl rfl (by first | omega | (simp only [Array.size_setIfInBounds, swp_size]; omega)) rfl ?_
                  refine a_rix hT (a) rfl rfl rfl rfl rfl rfl (by first | rfl | omega) (by omega) ?_
                  refine a_uldP hT (a) (e) rfl rfl rfl rfl rfl rfl rfl (by first | omega | (simp only [Array.size_setIfInBounds, swp_size]; omega)) rfl ?_
                  refine a_callF hT rfl rfl rfl (by kernel_rfl) (uless_spec (h := 0) (h1 := 0)) [] [] ⟨rfl, rfl, trivial⟩ rfl trivial ?_
                  rintro _ _ ⟨rfl, rfl⟩
                  refine a_rest hT [(13, true), (14, true)] rfl rfl (by kernel_rfl) ?_
                  refine a_if hT rfl rfl (fun h6 => ?_) (fun h6 => ?_)
                  · simp at h6
                    exact a_next hT (v - 1) [30] rfl rfl ⟨⟨(scanDown_step (by omega) (by omega) (by unfold ltInt; simp only [Bool.not_eq_true', decide_eq_false_iff_not]; omega)).symm.trans hs, by omega⟩, by omega⟩ ⟨rfl, rfl, rfl, by show Value.int .i64 _ = Value.int .i64 _; rw [hwv (by omega)], trivial⟩ rfl ⟨⟨rfl, rfl, rfl, rfl⟩, trivial⟩
                  · simp at h6
                    exact a_next hT v [30] rfl rfl ((scanDown_stop (by rintro ⟨_, h⟩; unfold ltInt at h; simp only [Bool.not_eq_true', decide_eq_false_iff_not] at h; omega)).symm.trans hs) ⟨rfl, rfl, rfl, rfl, trivial⟩ rfl ⟨⟨rfl, rfl, rfl, rfl⟩, trivial⟩
                · have h5 := of_decide_eq_false h5
                  refine a_rest hT [(13, true), (14, true)] rfl rfl (by kernel_rfl) ?_
                  refine a_f hT rfl rfl rfl ?_
                  exact a_next hT v [30] rfl rfl ((scanDown_stop (by rintro ⟨h, _⟩; omega)).symm.trans hs) ⟨rfl, rfl, rfl, rfl, trivial⟩ rfl ⟨⟨rfl, rfl, rfl, rfl⟩, trivial⟩
              · rw [← hv] at hdn2 hdg2
                have hrec := partLoop_eq (lt := ltInt) a i2 j2 e
                rw [← hu, ← hv] at hrec
                refine a_if hT rfl rfl (fun h5 => ?_) (fun h5 => ?_)
                · have h5 := of_decide_eq_true h5
                  have hpl : partLoop ltInt a (i + 1) (j - 1) (swp (swp d a p) i j) = (v, e) := by rw [← hpe, hrec, if_pos (by omega)]
                  rw [hpl]
                  refine a_treeN hT [0, 1, 10, 11] (fun _ : Unit => [.row (slV g d cap) 30, .v (kI ↑a) 0, .v (kI ↑u) 0, .v (kI ↑v) 0]) (fun _ => [(30, rowU (slV g d cap) (swp e v a))]) (fun _ => True) [30] 16 [(0, false), (1, false), (2, false), (3, false), (4, false), (5, false), (6, false), (8, false), (9, false), (10, false)] rfl rfl (by kernel_rfl) (by kernel_rfl) rfl ?_ fun _ _ => ?_
                  · refine a_rix hT (a) rfl rfl rfl rfl rfl rfl (by first | rfl | omega) (by omega) ?_
                    refine a_rix hT (v) rfl rfl rfl rfl rfl rfl (by first | rfl | omega) (by omega) ?_
                    refine a_alt hT [([(7, true), (11, true), (12, true), (13, true), (14, true), (15, true)], true), ([(11, true), (7, true), (12, true), (13, true), (14, true), (15, true)], true)] rfl rfl (by kernel_rfl) ⟨?_, ?_, trivial⟩
                    · refine a_uld hT (a) (e) rfl rfl rfl rfl rfl rfl rfl (by first | omega | (simp only [Array.size_setIfInBounds, swp_size]; omega)) rfl ?_
                      refine a_uld hT (v) (e) rfl rfl rfl rfl rfl rfl rfl (by first | omega | (simp only [Array.size_setIfInBounds, swp_size]; omega)) rfl ?_
                      refine a_rix hT (v) rfl rfl rfl rfl rfl rfl (by first | rfl | omega) (by omega) ?_
                      refine a_ust hT (v) (e) _ rfl rfl rfl rfl rfl rfl rfl rfl (by first | omega | (simp only [Array.size_setIfInBounds, swp_size]; omega)) rfl ?_
                      refine a_rix hT (a) rfl rfl rfl rfl rfl rfl (by first | rfl | omega) (by omega) ?_
                      refine a_ust hT (a) (Array.setIfInBounds e v e[a]!) _ rfl rfl rfl rfl rfl rfl rfl rfl (by first | omega | (simp only [Array.size_setIfInBounds, swp_size]; omega)) rfl ?_
                      exact a_next hT () [30] rfl rfl trivial ⟨rfl, rfl, rfl, rfl, trivial⟩ rfl ⟨⟨rfl, rfl, rfl, rfl⟩, trivial⟩
                    · refine a_uld hT (v) (e) rfl rfl rfl rfl rfl rfl rfl (by first | omega | (simp only [Array.size_setIfInBounds, swp_size]; omega)) rfl ?_
                      refine a_uld hT (a) (e) rfl rfl rfl rfl rfl rfl rfl (by first | omega | (simp only [Array.size_setIfInBounds, swp_size]; omega)) rfl ?_
                      refine a_rix hT (v) rfl rfl rfl rfl rfl rfl (by first | rfl | omega) (by omega) ?_
                      refine a_ust hT (v) (e) _ rfl rfl rfl rfl rfl rfl rfl rfl (by first | omega | (simp only [Array.size_setIfInBounds, swp_size]; omega)) rfl ?_
                      refine a_rix hT (a) rfl rfl rfl rfl rfl rfl (by first | rfl | omega) (by omega) ?_
                      refine a_ust hT (a) (Array.setIfInBounds e v e[a]!) _ rfl rfl rfl rfl rfl rfl rfl rfl (by first | omega | (simp only [Array.size_setIfInBounds, swp_size]; omega)) rfl ?_
                      exact a_next hT () [30] rfl rfl trivial ⟨rfl, rfl, rfl, rfl, trivial⟩ rfl ⟨⟨rfl, rfl, rfl, rfl⟩, trivial⟩
                  · refine a_ret hT [30] rfl rfl rfl rfl rfl rfl ?_
                    first | exact ⟨rfl, rfl⟩ | rfl
                · have h5 := of_decide_eq_false h5
                  have hwu2 : IntKind.i64.wrap ((u : Int) + 1) = ((u + 1 : Nat) : Int) := by rw [w64 (by omega) (by omega)]; omega
                  have hwv2 : IntKind.i64.wrap ((v : Int) - 1) = ((v - 1 : Nat) : Int) := by rw [w64 (by omega) (by omega)]; omega
                  refine a_treeN hT [0, 1, 10, 11] (fun _ : Unit => [.row (slV g d cap) 30, .v (kI ↑a) 0, .v (kI ↑u) 0, .v (kI ↑v) 0]) (fun _ => [(30, rowU (slV g d cap) (swp e u v))]) (fun _ => True) [30] 16 [(0, false), (1, false), (2, false), (3, false), (4, false), (5, false), (6, false), (8, false), (9, false), (10, false)] rfl rfl (by kernel_rfl) (by kernel_rfl) rfl ?_ fun _ _ => ?_
                  · refine a_rix hT (v) rfl rfl rfl rfl rfl rfl (by first | rfl | omega) (by omega) ?_
                    refine a_rix hT (u) rfl rfl rfl rfl rfl rfl (by first | rfl | omega) (by omega) ?_
                    refine a_alt hT [([(7, true), (11, true), (12, true), (13, true), (14, true), (15, true)], true), ([(11, true), (7, true), (12, true), (13, true), (14, true), (15, true)], true)] rfl rfl (by kernel_rfl) ⟨?_, ?_, trivial⟩
                    · refine a_uld hT (v) (e) rfl rfl rfl rfl rfl rfl rfl (by first | omega | (simp only [Array.size_setIfInBounds, swp_size]; omega)) rfl ?_
                      refine a_uld hT (u) (e) rfl rfl rfl rfl rfl rfl rfl (by first | omega | (simp only [Array.size_setIfInBounds, swp_size]; omega)) rfl ?_
                      refine a_rix hT (u) rfl rfl rfl rfl rfl rfl (by first | rfl | omega) (by omega) ?_
                      refine a_ust hT (u) (e) _ rfl rfl rfl rfl rfl rfl rfl rfl (by first | omega | (simp only [Array.size_setIfInBounds, swp_size]; omega)) rfl ?_
                      refine a_rix hT (v) rfl rfl rfl rfl rfl rfl (by first | rfl | omega) (by omega) ?_
                      refine a_ust hT (v) (Array.setIfInBounds e u e[v]!) _ rfl rfl rfl rfl rfl rfl rfl rfl (by first | omega | (simp only [Array.size_setIfInBounds, swp_size]; omega)) rfl ?_
                      exact a_next hT () [30] rfl rfl trivial ⟨rfl, rfl, rfl, rfl, trivial⟩ rfl ⟨⟨rfl, rfl, rfl, rfl⟩, trivial⟩
                    · refine a_uld hT (u) (e) rfl rfl rfl rfl rfl rfl rfl (by first | omega | (simp only [Array.size_setIfInBounds, swp_size]; omega)) rfl ?_
                      refine a_uld hT (v) (e) rfl rfl rfl rfl rfl rfl rfl (by first | omega | (simp only [Array.size_setIfInBounds, swp_size]; omega)) rfl ?_
                      refine a_rix hT (u) rfl rfl rfl rfl rfl rfl (by first | rfl | omega) (by omega) ?_
                      refine a_ust hT (u) (e) _ rfl rfl rfl rfl rfl rfl rfl rfl (by first | omega | (simp only [Array.size_setIfInBounds, swp_size]; omega)) rfl ?_
                      refine a_rix hT (v) rfl rfl rfl rfl rfl rfl (by first | rfl | omega) (by omega) ?_
                      refine a_ust hT (v) (Array.setIfInBounds e u e[v]!) _ rfl rfl rfl rfl rfl rfl rfl rfl (by first | omega | (simp only [Array.size_setIfInBounds, swp_size]; omega)) rfl ?_
                      exact a_next hT () [30] rfl rfl trivial ⟨rfl, rfl, rfl, rfl, trivial⟩ rfl ⟨⟨rfl, rfl, rfl, rfl⟩, trivial⟩
                  · exact a_next hT (u + 1, v - 1, swp e u v) [30] rfl rfl ⟨⟨by rw [swp_size]; exact hse, by rw [← hpe, hrec, if_neg (by omega)], by show a < u + 1; omega, by show a ≤ v - 1; omega, by show v - 1 < b; omega, by show u + 1 ≤ b + 1; omega⟩, by show v - 1 + 1 - (u + 1) < j2 + 1 - i2; omega⟩ ⟨rfl, rfl, by show Value.int .i64 _ = Value.int .i64 _; rw [hwu2], by show Value.int .i64 _ = Value.int .i64 _; rw [hwv2], trivial⟩ rfl ⟨⟨rfl, rfl, rfl, rfl⟩, trivial⟩
end Go.Proofs.Ytepjnmocepkfjaa
end

section
/- slices.Sort of numbers: partitionEqualOrdered. -/
set_option linter.unusedVariables false
set_option linter.unusedSimpArgs false
set_option maxRecDepth 100000
set_option maxHeartbeats 4000000
namespace Go.Proofs.Ytepjnmocepkfjaa
open V A Go.Sort
theorem partEq_spec {g cap : Nat} {d : Array Int} {a b p h h1 h2 h3 : Nat} (ha : a ≤ p) (hp : p < b) (hb : b ≤ d.size) (hd : d.size < 1000000) : FSpec Try.prog 75 [.row (slV g d cap) h, .v (kI a) h1, .v (kI b) h2, .v (kI p) h3] [rowU (slV g d cap) d]
    fun r cs => r = .v (kI (partitionEqual ltInt d a b p).1) 0 ∧ cs = [rowU (slV g d cap) (partitionEqual ltInt d a b p).2] := by
  have hw1 : IntKind.i64.wrap ((a : Int) + 1) = ((a + 1 : Nat) : Int) := by rw [w64 (by omega) (by omega)]; omega
  have hwb : IntKind.i64.wrap ((b : Int) - 1) = ((b - 1 : Nat) : Int) := by rw [w64 (by omega) (by omega)]; omega
  have hz := swp_size d a p
  refine a_enter hT [.row (slV g d cap) 30, .v (kI a) 0, .v (kI b) 0, .v (kI p) 0] [30] Try.func75 rfl rfl rfl ⟨rfl, rfl, rfl, rfl, trivial⟩ fun c => ?_
  refine a_treeN hT [0, 1, 2] (fun _ : Unit => [.row (slV g d cap) 30, .v (kI ↑a) 0, .v (kI ↑b) 0]) (fun _ => [(30, rowU (slV g d cap) (swp d a p))]) (fun _ => True) [30] 16 [(0, false), (1, false), (2, false), (3, false), (4, false), (5, false), (6, false), (8, false), (9, false), (10, false)] rfl rfl (by kernel_rfl) (by kernel_rfl) rfl ?_ fun _ _ => ?_
  · refine a_rix hT (p) rfl rfl rfl rfl rfl rfl (by first | rfl | omega) (by omega) ?_
    refine a_rix hT (a) rfl rfl rfl rfl rfl rfl (by first | rfl | omega) (by omega) ?_
    refine a_alt hT [([(7, true), (11, true), (12, true), (13, true), (14, true), (15, true)], true), ([(11, true), (7, true), (12, true), (13, true), (14, true), (15, true)], true)] rfl rfl (by kernel_rfl) ⟨?_, ?_, trivial⟩
    · refine a_uld hT (p) (d) rfl rfl rfl rfl rfl rfl rfl (by first | omega | (simp only [Array.size_setIfInBounds, swp_size]; omega)) rfl ?_
      refine a_uld hT (a) (d) rfl rfl rfl rfl rfl rfl rfl (by first | omega | (simp only [Array.size_setIfInBounds, swp_size]; omega)) rfl ?_
      refine a_rix hT (a) rfl rfl rfl rfl rfl rfl (by first | rfl | omega) (by omega) ?_
      refine a_ust hT (a) (d) _ rfl rfl rfl rfl rfl rfl rfl rfl (by first | omega | (simp only [Array.size_setIfInBounds, swp_size]; omega)) rfl ?_
      refine a_rix hT (p) rfl rfl rfl rfl rfl rfl (by first | rfl | omega) (by omega) ?_
      refine a_ust hT (p) (Array.setIfInBounds d a d[p]!) _ rfl rfl rfl rfl rfl rfl rfl rfl (by first | omega | (simp only [Array.size_setIfInBounds, swp_size]; omega)) rfl ?_
      exact a_next hT () [30] rfl rfl trivial ⟨rfl, rfl, rfl, trivial⟩ rfl ⟨⟨rfl, rfl, rfl, rfl⟩, trivial⟩
    · refine a_uld hT (a) (d) rfl rfl rfl rfl rfl rfl rfl (by first | omega | (simp only [Array.size_setIfInBounds, swp_size]; omega)) rfl ?_
      refine a_uld hT (p) (d) rfl rfl rfl rfl rfl rfl rfl (by first | omega | (simp only [Array.size_setIfInBounds, swp_size]; omega)) rfl ?_
      refine a_rix hT (a) rfl rfl rfl rfl rfl rfl (by first | rfl | omega) (by omega) ?_
      refine a_ust hT (a) (d) _ rfl rfl rfl rfl rfl rfl rfl rfl (by first | omega | (simp only [Array.size_setIfInBounds, swp_size]; omega)) rfl ?_
      refine a_rix hT (p) rfl rfl rfl rfl rfl rfl (by first | rfl | omega) (by omega) ?_
      refine a_ust hT (p) (Array.setIfInBounds d a d[p]!) _ rfl rfl rfl rfl rfl rfl rfl rfl (by first | omega | (simp only [Array.size_setIfInBounds, swp_size]; omega)) rfl ?_
      exact a_next hT () [30] rfl rfl trivial ⟨rfl, rfl, rfl, trivial⟩ rfl ⟨⟨rfl, rfl, rfl, rfl⟩, trivial⟩
  · refine a_loop hT [0, 1, 9, 10] (fun x : Nat × Nat × Array Int => [.row (slV g d cap) 30, .v (kI a) 0, .v (kI x.1) 0, .v (kI x.2.1) 0]) (fun x => [(30, rowU (slV g d cap) x.2.2)]) (fun x => x.2.2.size = d.size ∧ partEqLoop ltInt a x.1 x.2.1 x.2.2 = partEqLoop ltInt a (a + 1) (b - 1) (swp d a p) ∧ a < x.1 ∧ a ≤ x.2.1 ∧ x.2.1 < b ∧ x.1 ≤ b + 1) (fun x => x.2.1 + 1 - x.1) (a + 1, b - 1, swp d a p) [30] rfl rfl ⟨hz, rfl, by show a < a + 1; omega, by show a ≤ b - 1; omega, by show b - 1 < b; omega, by show a + 1 ≤ b + 1; omega⟩ ⟨rfl, rfl, by rw [hw1]; rfl, by rw [hwb]; rfl, trivial⟩ rfl ⟨⟨rfl, rfl, rfl, rfl⟩, trivial⟩ ?_
    rintro ⟨i2, j2, e⟩ ⟨hse, hpe, hi2, hj2, hj3, hi3⟩
    dsimp only at hse hpe hi2 hj2 hj3 hi3 ⊢
    have hup2 := scanUp_ge (fun x => !ltInt e[a]! x) e j2 i2
    refine a_cutM hT [0, 1, 9, 10] (fun u : Nat => [.row (slV g d cap) 30, .v (kI a) 0, .v (kI u) 0, .v (kI j2) 0]) (fun _ => [(30, rowU (slV g d cap) e)]) (fun u => u = scanUp (fun x => !ltInt e[a]! x) e j2 i2) 1 rfl rfl ?_ fun u hu => ?_
    · refine a_loop hT [0, 1, 9, 10] (fun u : Nat => [.row (slV g d cap) 30, .v (kI a) 0, .v (kI u) 0, .v (kI j2) 0]) (fun _ => [(30, rowU (slV g d cap) e)]) (fun u => scanUp (fun x => !ltInt e[a]! x) e j2 u = scanUp (fun x => !ltInt e[a]! x) e j2 i2 ∧ i2 ≤ u ∧ u ≤ b + 1) (fun u => b + 1 - u) i2 [30] rfl rfl ⟨rfl, Nat.le_refl _, by omega⟩ ⟨rfl, rfl, rfl, rfl, trivial⟩ rfl ⟨⟨rfl, rfl, rfl, rfl⟩, trivial⟩ ?_
      rintro u ⟨hs, hu1, hu2⟩
      have hwu : IntKind.i64.wrap ((u : Int) + 1) = ((u + 1 : Nat) : Int) := by rw [w64 (by omega) (by omega)]; omega
      refine a_drawX hT [] 12 [(0, false), (1, false), (2, false), (3, false), (4, false), (5, false), (6, false), (7, false), (8, false), (9, false), (10, false), (11, false), (12, true)] rfl rfl (by kernel_rfl) (by kernel_rfl) rfl ?_
      refine a_g hT rfl rfl rfl (fun h4 => ?_) (fun h4 => ?_)
      · have h4 := of_decide_eq_true h4
        refine a_rix hT (a) rfl rfl rfl rfl rfl rfl (by first | rfl | omega) (by omega) ?_
        refine a_uldP hT (a) (e) rfl rfl rfl rfl rfl rfl rfl (by first | omega | (simp only [Array.size_setIfInBounds, swp_size]; omega)) rfl ?_
        refine a_rix hT (u) rfl rfl rfl rfl rfl rfl (by first | rfl | omega) (by omega) ?_
        refine a_uldP hT (u) (e) rfl rfl rfl rfl rfl rfl rfl (by first | omega | (simp only [Array.size_setIfInBounds, swp_size]; omega)) rfl ?_
        refine a_callF hT rfl rfl rfl (by kernel_rfl) (uless_spec (h := 0) (h1 := 0)) [] [] ⟨rfl, rfl, trivial⟩ rfl trivial ?_
        rintro _ _ ⟨rfl, rfl⟩
        refine a_rest hT [(13, true), (14, true)] rfl rfl (by kernel_rfl) ?_
        refine a_if hT rfl rfl (fun h5 => ?_) (fun h5 => ?_)
        · simp at h5
          exact a_next hT (u + 1) [30] rfl rfl ⟨⟨(scanUp_step (by omega) (by unfold ltInt; simp only [Bool.not_eq_true', decide_eq_false_iff_not]; omega)).symm.trans hs, by omega, by omega⟩, by omega⟩ ⟨rfl, rfl, by show Value.int .i64 _ = Value.int .i64 _; rw [hwu], rfl, trivial⟩ rfl ⟨⟨rfl, rfl, rfl, rfl⟩, trivial⟩
        · simp at h5
          exact a_next hT u [30] rfl rfl ((scanUp_stop (by rintro ⟨_, h⟩; unfold ltInt at h; simp only [Bool.not_eq_true', decide_eq_false_iff_not] at h; omega)).symm.trans hs) ⟨rfl, rfl, rfl, rfl, trivial⟩ rfl ⟨⟨rfl, rfl, rfl, rfl⟩, trivial⟩
      · have h4 := of_decide_eq_false h4
        refine a_rest hT [(13, true), (14, true)] rfl rfl (by kernel_rfl) ?_
        refine a_f hT rfl rfl rfl ?_
        exact a_next hT u [30] rfl rfl ((scanUp_stop (by rintro ⟨h, _⟩; omega)).symm.trans hs) ⟨rfl, rfl, rfl, rfl, trivial⟩ rfl ⟨⟨rfl, rfl, rfl, rfl⟩, trivial⟩
    · rw [← hu] at hup2
      have hdn2 := scanDown_le (fun x => ltInt e[a]! x) e u j2
      have hdg2 := scanDown_ge (p := fun x => ltInt e[a]! x) (d := e) (i := u) (a := a) (by omega) j2 hj2
      refine a_cutM hT [0, 1, 9, 10] (fun v : Nat => [.row (slV g d cap) 30, .v (kI a) 0, .v (kI u) 0, .v (kI v) 0]) (fun _ => [(30, rowU (slV g d cap) e)]) (fun v => v = scanDown (fun x => ltInt e[a]! x) e u j2) 0 rfl rfl ?_ fun v hv => ?_
      · refine a_loop hT [0, 1, 9, 10] (fun v : Nat => [.row (slV g d cap) 30, .v (kI a) 0, .v (kI u) 0, .v (kI v) 0]) (fun _ => [(30, rowU (slV g d cap) e)]) (fun v => scanDown (fun x => ltInt e[a]! x) e u v = scanDown (fun x => ltInt e[a]! x) e u j2 ∧ v ≤ j2) (fun v => v) j2 [30] rfl rfl ⟨rfl, Nat.le_refl _⟩ ⟨rfl, rfl, rfl, rfl, trivial⟩ rfl ⟨⟨rfl, rfl, rfl, rfl⟩, trivial⟩ ?_
        rintro v ⟨hs, hv1⟩
        have hwv : 1 ≤ v → IntKind.i64.wrap ((v : Int) - 1) = ((v - 1 : Nat) : Int) := fun h => by rw [w64 (by omega) (by omega)]; omega
        refine a_drawX hT [] 12 [(0, false), (1, false), (2, false), (3, false), (4, false), (5, false), (6, false), (7, false), (8, false), (9, false), (10, false), (11, false), (12, true)] rfl rfl (by kernel_rfl) (by kernel_rfl) rfl ?_
        refine a_g hT rfl rfl rfl (fun h4 => ?_) (fun h4 => ?_)
        · have h4 := of_decide_eq_true h4
          refine a_rix hT (a) rfl rfl rfl rfl rfl rfl (by first | rfl | omega) (by omega) ?_
          refine a_uldP hT (a) (e) rfl rfl rfl rfl rfl rfl rfl (by first | omega | (simp only [Array.size_setIfInBounds, swp_size]; omega)) rfl ?_
          refine a_rix hT (v) rfl rfl rfl rfl rfl rfl (by first | rfl | omega) (by omega) ?_
          refine a_uldP hT (v) (e) rfl rfl rfl rfl rfl rfl rfl (by first | omega | (simp only [Array.size_setIfInBounds, swp_size]; omega)) rfl ?_
          refine a_callF hT rfl rfl rfl (by kernel_rfl) (uless_spec (h := 0) (h1 := 0)) [] [] ⟨rfl, rfl, trivial⟩ rfl trivial ?_
          rintro _ _ ⟨rfl, rfl⟩
          refine a_rest hT [(13, true)] rfl rfl (by kernel_rfl) ?_
          refine a_if hT rfl rfl (fun h5 => ?_) (fun h5 => ?_)
          · have h5 := of_decide_eq_true h5
            exact a_next hT (v - 1) [30] rfl rfl ⟨⟨(scanDown_step (by omega) (by omega) (by unfold ltInt; exact decide_eq_true (by assumption))).symm.trans hs, by omega⟩, by omega⟩ ⟨rfl, rfl, rfl, by show Value.int .i64 _ = Value.int .i64 _; rw [hwv (by omega)], trivial⟩ rfl ⟨⟨rfl, rfl, rfl, rfl⟩, trivial⟩
          · have h5 := of_decide_eq_false h5
            exact a_next hT v [30] rfl rfl ((scanDown_stop (by rintro ⟨_, h⟩; unfold ltInt at h; have h := of_decide_eq_true h; omega)).symm.trans hs) ⟨rfl, rfl, rfl, rfl, trivial⟩ rfl ⟨⟨rfl, rfl, rfl, rfl⟩, trivial⟩
        · have h4 := of_decide_eq_false h4
          refine a_rest hT [(13, true)] rfl rfl (by kernel_rfl) ?_
          refine a_f hT rfl rfl rfl ?_
          exact a_next hT v [30] rfl rfl ((scanDown_stop (by rintro ⟨h, _⟩; omega)).symm.trans hs) ⟨rfl, rfl, rfl, rfl, trivial⟩ rfl ⟨⟨rfl, rfl, rfl, rfl⟩, trivial⟩
      · rw [← hv] at hdn2 hdg2
        have hrec := partEqLoop_eq (lt := ltInt) a i2 j2 e
        rw [← hu, ← hv] at hrec
        refine a_if hT rfl rfl (fun h4 => ?_) (fun h4 => ?_)
        · have h4 := of_decide_eq_true h4
          refine a_ret hT [30] rfl rfl rfl rfl rfl rfl ?_
          have hpl : partitionEqual ltInt d a b p = (u, e) := by unfold partitionEqual; rw [← hpe, hrec, if_pos (by omega)]
          rw [hpl]; exact ⟨rfl, rfl⟩
        · have h4 := of_decide_eq_false h4
          have hwu2 : IntKind.i64.wrap ((u : Int) + 1) = ((u + 1 : Nat) : Int) := by rw [w64 (by omega) (by omega)]; omega
          have hwv2 : IntKind.i64.wrap ((v : Int) - 1) = ((v - 1 : Nat) : Int) := by rw [w64 (by omega) (by omega)]; omega
          refine a_treeN hT [0, 1, 9, 10] (fun _ : Unit => [.row (slV g d cap) 30, .v (kI ↑a) 0, .v (kI ↑u) 0, .v (kI ↑v) 0]) (fun _ => [(30, rowU (slV g d cap) (swp e u v))]) (fun _ => True) [30] 16 [(0, false), (1, false), (2, false), (3, false), (4, false), (5, false), (6, false), (8, false), (9, false), (10, false)] rfl rfl (by kernel_rfl) (by kernel_rfl) rfl ?_ fun _ _ => ?_
          · refine a_rix hT (v) rfl rfl rfl rfl rfl rfl (by first | rfl | omega) (by omega) ?_
            refine a_rix hT (u) rfl rfl rfl rfl rfl rfl (by first | rfl | omega) (by omega) ?_
            refine a_alt hT [([(7, true), (11, true), (12, true), (13, true), (14, true), (15, true)], true), ([(11, true), (7, true), (12, true), (13, true), (14, true), (15, true)], true)] rfl rfl (by kernel_rfl) ⟨?_, ?_, trivial⟩
            · refine a_uld hT (v) (e) rfl rfl rfl rfl rfl rfl rfl (by first | omega | (simp only [Array.size_setIfInBounds, swp_size]; omega)) rfl ?_
              refine a_uld hT (u) (e) rfl rfl rfl rfl rfl rfl rfl (by first | omega | (simp only [Array.size_setIfInBounds, swp_size]; omega)) rfl ?_
              refine a_rix hT (u) rfl rfl rfl rfl rfl rfl (by first | rfl | omega) (by omega) ?_
              refine a_ust hT (u) (e) _ rfl rfl rfl rfl rfl rfl rfl rfl (by first | omega | (simp only [Array.size_setIfInBounds, swp_size]; omega)) rfl ?_
              refine a_rix hT (v) rfl rfl rfl rfl rfl rfl (by first | rfl | omega) (by omega) ?_
              refine a_ust hT (v) (Array.setIfInBounds e u e[v]!) _ rfl rfl rfl rfl rfl rfl rfl rfl (by first | omega | (simp only [Array.size_setIfInBounds, swp_size]; omega)) rfl ?_
              exact a_next hT () [30] rfl rfl trivial ⟨rfl, rfl, rfl, rfl, trivial⟩ rfl ⟨⟨rfl, rfl, rfl, rfl⟩, trivial⟩
            · refine a_uld hT (u) (e) rfl rfl rfl rfl rfl rfl rfl (by first | omega | (simp only [Array.size_setIfInBounds, swp_size]; omega)) rfl ?_
              refine a_uld hT (v) (e) rfl rfl rfl rfl rfl rfl rfl (by first | omega | (simp only [Array.size_setIfInBounds, swp_size]; omega)) rfl ?_
              refine a_rix hT (u) rfl rfl rfl rfl rfl rfl (by first | rfl | omega) (by omega) ?_
              refine a_ust hT (u) (e) _ rfl rfl rfl rfl rfl rfl rfl rfl (by first | omega | (simp only [Array.size_setIfInBounds, swp_size]; omega)) rfl ?_
              refine a_rix hT (v) rfl rfl rfl rfl rfl rfl (by first | rfl | omega) (by omega) ?_
              refine a_ust hT (v) (Array.setIfInBounds e u e[v]!) _ rfl rfl rfl rfl rfl rfl rfl rfl (by first | omega | (simp only [Array.size_setIfInBounds, swp_size]; omega)) rfl ?_
              exact a_next hT () [30] rfl rfl trivial ⟨rfl, rfl, rfl, rfl, trivial⟩ rfl ⟨⟨rfl, rfl, rfl, rfl⟩, trivial⟩
          · exact a_next hT (u + 1, v - 1, swp e u v) [30] rfl rfl ⟨⟨by rw [swp_size]; exact hse, by rw [← hpe, hrec, if_neg (by omega)], by show a < u + 1; omega, by show a ≤ v - 1; omega, by show v - 1 < b; omega, by show u + 1 ≤ b + 1; omega⟩, by show v - 1 + 1 - (u + 1) < j2 + 1 - i2; omega⟩ ⟨rfl, rfl, by show Value.int .i64 _ = Value.int .i64 _; rw [hwu2], by show Value.int .i64 _ = Value.int .i64 _; rw [hwv2], trivial⟩ rfl ⟨⟨rfl, rfl, rfl, rfl⟩, trivial⟩
end Go.Proofs.Ytepjnmocepkfjaa
end

section
/- slices.Sort of at most 16 numbers. -/
set_option linter.unusedVariables false
set_option linter.unusedSimpArgs false
set_option maxRecDepth 100000
set_option maxHeartbeats 4000000
namespace Go.Proofs.Ytepjnmocepkfjaa
open V A Go.Sort
abbrev lt0 := ltInt
/-- Where the loop stands: what is still to be sorted, and that this will do. -/
structure PdqI (d0 : Array Int) (a0 b0 : Nat) (a b : Nat) (lim : Nat) (e : Array Int) : Prop where
  sz : e.size = d0.size
  ab1 : a ≤ b
  aa : a0 ≤ a
  bb : b ≤ b0
  li : b - a < lim + 12
  lim2 : lim ≤ 100
  bel : Below ltInt a b e
  glue : ∀ R, PermIn a b e R → SortedIn ltInt a b R → PermIn a0 b0 d0 R ∧ SortedIn ltInt a0 b0 R
theorem pdq_spec : ∀ (n : Nat) {g cap : Nat} {d : Array Int} {a b lim h h1 h2 h3 : Nat}, b - a ≤ n → a ≤ b → b ≤ d.size → d.size < 1000000 → b - a ≤ 16 → b - a < lim + 12 → lim ≤ 100 → Below ltInt a b d →
    FSpec Try.prog 55 [.row (slV g d cap) h, .v (kI a) h1, .v (kI b) h2, .v (kI lim) h3] [rowU (slV g d cap) d] fun _ cs => ∃ d', PermIn a b d d' ∧ SortedIn ltInt a b d' ∧ cs = [rowU (slV g d cap) d'] := by
  intro n
  induction n using Nat.strongRecOn with
  | _ n ih =>
  intro g cap d a b lim h h1 h2 h3 hn hab hb hd hl hlim hlim2 hbel
  refine a_enter hT [.row (slV g d cap) 30, .v (kI a) 0, .v (kI b) 0, .v (kI lim) 0] [30] Try.func55 rfl rfl rfl ⟨rfl, rfl, rfl, rfl, trivial⟩ fun c => ?_
  refine a_loop hT [0, 1, 2, 3, 8, 9] (fun x : Nat × Nat × Nat × Bool × Bool × Array Int => [.row (slV g d cap) 30, .v (kI x.1) 0, .v (kI x.2.1) 0, .v (kI x.2.2.1) 0, .v (.bool x.2.2.2.1) 0, .v (.bool x.2.2.2.2.1) 0]) (fun x => [(30, rowU (slV g d cap) x.2.2.2.2.2)]) (fun x => PdqI d a b x.1 x.2.1 x.2.2.1 x.2.2.2.2.2) (fun x => x.2.1 - x.1) (a, b, lim, true, true, d) [30] rfl rfl ⟨rfl, hab, Nat.le_refl _, Nat.le_refl _, hlim, hlim2, hbel, fun R h1 h2 => ⟨h1, h2⟩⟩ ⟨rfl, rfl, rfl, rfl, rfl, rfl, trivial⟩ rfl ⟨⟨rfl, rfl, rfl, rfl⟩, trivial⟩ ?_
  rintro ⟨a1, b1, l1, wb, wp, e⟩ hI
  dsimp only at hI ⊢
  obtain ⟨hs, hab1, ha0, hb0, hl1, hl2, hbel1, hg⟩ := hI
  have hse : slV g e cap = slV g d cap := by unfold slV; rw [hs]
  have hwl : IntKind.i64.wrap ((b1 : Int) - a1) = ((b1 - a1 : Nat) : Int) := by rw [w64 (by omega) (by omega)]; omega
  refine a_if hT rfl rfl (fun h4 => ?_) (fun h4 => ?_)
  · have h4 := of_decide_eq_true h4
    obtain ⟨q1, q2⟩ := insertionSort_holds (lt := ltInt) swo_ltInt e a1 b1 hab1 (by omega)
    obtain ⟨q3, q4⟩ := hg _ q1 q2
    have S1 := @ins_spec g cap a1 b1 e 30 0 0 hab1 (by omega) (by omega)
    rw [hse] at S1
    refine a_call hT rfl rfl rfl (by kernel_rfl) S1 [30] [30] rfl rfl ?_
    rintro _ _ rfl
    refine a_ret hT [30] rfl rfl rfl rfl rfl rfl ?_
    exact ⟨_, q3, q4, rfl⟩
  · have h4 := of_decide_eq_false h4
    have h4 : 12 < b1 - a1 := by have h4 : ¬ IntKind.i64.wrap ((b1 : Int) - a1) ≤ 12 := h4; omega
    refine a_f hT rfl rfl (by simp; omega) ?_
    refine a_cutK hT [0, 1, 2, 3, 8, 9, 10] (fun x : Nat × Array Int => [.row (slV g d cap) 30, .v (kI a1) 0, .v (kI b1) 0, .v (kI x.1) 0, .v (.bool wb) 0, .v (.bool wp) 0, .v (kI (b1 - a1 : Nat)) 0]) (fun x => [(30, rowU (slV g d cap) x.2)]) (fun x => l1 ≤ x.1 + 1 ∧ x.1 ≤ l1 ∧ PermIn a1 b1 e x.2) 9 rfl rfl ?_ ?_
    · have hwm : IntKind.i64.wrap ((l1 : Int) - 1) = ((l1 - 1 : Nat) : Int) := by rw [w64 (by omega) (by omega)]; omega
      have S2 := @break_spec g cap e a1 b1 30 0 0 (by omega) (by omega) (by omega) (by omega)
      rw [hse] at S2
      refine a_if hT rfl rfl (fun h5 => ?_) (fun h5 => ?_)
      · simp at h5
        refine a_call hT rfl rfl rfl (by kernel_rfl) S2 [30] [30] rfl rfl ?_
        rintro _ _ ⟨d', hr, rfl⟩
        obtain ⟨p1, p2, p3⟩ := hr
        exact a_next hT (l1 - 1, d') [30] rfl rfl ⟨by show l1 ≤ l1 - 1 + 1; omega, by show l1 - 1 ≤ l1; omega, ⟨p1, p2, p3⟩⟩ ⟨rfl, rfl, rfl, by show Value.int .i64 _ = Value.int .i64 _; rw [hwm], rfl, rfl, by show Value.int .i64 _ = Value.int .i64 _; rw [hwl], trivial⟩ rfl ⟨⟨rfl, rfl, rfl, rfl⟩, trivial⟩
      · simp at h5
        exact a_next hT (l1, e) [30] rfl rfl ⟨by show l1 ≤ l1 + 1; omega, Nat.le_refl _, permIn_refl e a1 b1⟩ ⟨rfl, rfl, rfl, rfl, rfl, rfl, by show Value.int .i64 _ = Value.int .i64 _; rw [hwl], trivial⟩ rfl ⟨⟨rfl, rfl, rfl, rfl⟩, trivial⟩
    rintro ⟨l2, e1⟩ ⟨hl3, hl4, hp1⟩
    dsimp only at hl3 hl4 hp1 ⊢
    have hs1 : e1.size = e.size := hp1.1
    have hse1 : slV g e1 cap = slV g d cap := by unfold slV; rw [hs1, hs]
    have S3 := @choose_spec g cap e1 a1 b1 30 0 0 (by omega) (by omega) (by omega) (by omega) (by omega)
    rw [hse1] at S3
    obtain ⟨c1, c2⟩ := choosePivot_holds ltInt e1 a1 b1 (by omega)
    have S4 := @reverse_spec g cap e1 a1 b1 30 0 0 (by omega) (by omega) (by omega)
    rw [hse1] at S4
    refine a_call hT rfl rfl rfl (by kernel_rfl) S3 [30] [30] rfl rfl ?_
    rintro _ _ ⟨⟨hh, rfl, hr, hr1⟩, rfl⟩
    refine a_cutK hT [0, 1, 2, 3, 8, 9, 10, 11, 12] (fun x : Nat × Int × Array Int => [.row (slV g d cap) 30, .v (kI a1) 0, .v (kI b1) 0, .v (kI l2) 0, .v (.bool wb) 0, .v (.bool wp) 0, .v (kI (b1 - a1 : Nat)) 0, .v (kI x.1) 0, .v (kI x.2.1) 0]) (fun x => [(30, rowU (slV g d cap) x.2.2)]) (fun x => a1 ≤ x.1 ∧ x.1 < b1 ∧ PermIn a1 b1 e1 x.2.2) 14 rfl rfl ?_ ?_
    · have hwp : IntKind.i64.wrap (IntKind.i64.wrap ((b1 : Int) - 1) - IntKind.i64.wrap (((choosePivot ltInt e1 a1 b1).1 : Int) - a1)) = ((b1 - 1 - ((choosePivot ltInt e1 a1 b1).1 - a1) : Nat) : Int) := by rw [w64 (x := (b1 : Int) - 1) (by omega) (by omega), w64 (x := ((choosePivot ltInt e1 a1 b1).1 : Int) - a1) (by omega) (by omega), w64 (by omega) (by omega)]; omega
      refine a_if hT rfl rfl (fun h5 => ?_) (fun h5 => ?_)
      · have h5 := eq_of_beq h5
        refine a_call hT rfl rfl rfl (by kernel_rfl) S4 [30] [30] rfl rfl ?_
        rintro _ _ rfl
        exact a_next hT (b1 - 1 - ((choosePivot ltInt e1 a1 b1).1 - a1), (1 : Int), reverseRange e1 a1 b1) [30] rfl rfl ⟨by show a1 ≤ b1 - 1 - ((choosePivot ltInt e1 a1 b1).1 - a1); omega, by show b1 - 1 - ((choosePivot ltInt e1 a1 b1).1 - a1) < b1; omega, reverseRange_holds e1 a1 b1 (by omega) (by omega)⟩ ⟨rfl, rfl, rfl, rfl, rfl, rfl, rfl, by show Value.int .i64 _ = Value.int .i64 _; rw [hwp], rfl, trivial⟩ rfl ⟨⟨rfl, rfl, rfl, rfl⟩, trivial⟩
      · have h5 := ne_of_beq_false h5
        exact a_next hT ((choosePivot ltInt e1 a1 b1).1, hh, e1) [30] rfl rfl ⟨c1, c2, permIn_refl e1 a1 b1⟩ ⟨rfl, rfl, rfl, rfl, rfl, rfl, rfl, rfl, rfl, trivial⟩ rfl ⟨⟨rfl, rfl, rfl, rfl⟩, trivial⟩
    rintro ⟨pv, h2', e2⟩ ⟨hv1, hv2, hp2⟩
    dsimp only at hv1 hv2 hp2 ⊢
    have hs2 : e2.size = e1.size := hp2.1
    have hse2 : slV g e2 cap = slV g d cap := by unfold slV; rw [hs2, hs1, hs]
    have S5 := @partialIns_spec g cap e2 a1 b1 30 0 0 (by omega) (by omega) (by omega) (by omega)
    rw [hse2] at S5
    refine a_cutK hT [0, 1, 2, 3, 8, 9, 10, 11, 68] (fun y : Bool => [.row (slV g d cap) 30, .v (kI a1) 0, .v (kI b1) 0, .v (kI l2) 0, .v (.bool wb) 0, .v (.bool wp) 0, .v (kI (b1 - a1 : Nat)) 0, .v (kI pv) 0, .v (.bool y) 0]) (fun _ => [(30, rowU (slV g d cap) e2)]) (fun _ => True) 2 rfl rfl ?_ fun y _ => ?_
    · refine a_g hT rfl rfl rfl (fun h5 => ?_) (fun h5 => ?_)
      · refine a_g hT rfl rfl rfl (fun h6 => ?_) (fun h6 => ?_)
        · exact a_next hT (h2' == 1) [30] rfl rfl trivial ⟨rfl, rfl, rfl, rfl, rfl, rfl, rfl, rfl, rfl, trivial⟩ rfl ⟨⟨rfl, rfl, rfl, rfl⟩, trivial⟩
        · exact a_next hT false [30] rfl rfl trivial ⟨rfl, rfl, rfl, rfl, rfl, rfl, rfl, rfl, rfl, trivial⟩ rfl ⟨⟨rfl, rfl, rfl, rfl⟩, trivial⟩
      · refine a_gf hT rfl rfl rfl rfl ?_
        exact a_next hT false [30] rfl rfl trivial ⟨rfl, rfl, rfl, rfl, rfl, rfl, rfl, rfl, rfl, trivial⟩ rfl ⟨⟨rfl, rfl, rfl, rfl⟩, trivial⟩
    have hpt : PermIn a1 b1 e e2 := permIn_trans _ _ _ a1 b1 hp1 hp2
    refine a_cutK hT [0, 1, 2, 3, 8, 9, 10, 11] (fun _ : Unit => [.row (slV g d cap) 30, .v (kI a1) 0, .v (kI b1) 0, .v (kI l2) 0, .v (.bool wb) 0, .v (.bool wp) 0, .v (kI (b1 - a1 : Nat)) 0, .v (kI pv) 0]) (fun _ => [(30, rowU (slV g d cap) e2)]) (fun _ => True) 0 rfl rfl ?_ fun _ _ => ?_
    · refine a_if hT rfl rfl (fun h5 => ?_) (fun h5 => ?_)
      · refine a_call hT rfl rfl rfl (by kernel_rfl) S5 [30] [30] rfl rfl ?_
        rintro _ _ ⟨rfl, hr2, rfl⟩
        refine a_if hT rfl rfl (fun h6 => ?_) (fun h6 => ?_)
        · refine a_ret hT [30] rfl rfl rfl rfl rfl rfl ?_
          obtain ⟨_, q2⟩ := partialInsertionSort_holds (lt := ltInt) swo_ltInt e2 a1 b1 (by omega) (by omega) (hbel1.perm (by omega) hpt)
          rw [hr2] at q2
          obtain ⟨q3, q4⟩ := hg _ hpt (q2 h6)
          exact ⟨_, q3, q4, rfl⟩
        · exact a_next hT () [30] rfl rfl trivial ⟨rfl, rfl, rfl, rfl, rfl, rfl, rfl, rfl, trivial⟩ rfl ⟨⟨rfl, rfl, rfl, rfl⟩, trivial⟩
      · exact a_next hT () [30] rfl rfl trivial ⟨rfl, rfl, rfl, rfl, rfl, rfl, rfl, rfl, trivial⟩ rfl ⟨⟨rfl, rfl, rfl, rfl⟩, trivial⟩
    have hz2 : e2.size = d.size := by omega
    have hw1 : 0 < a1 → IntKind.i64.wrap ((a1 : Int) - 1) = ((a1 - 1 : Nat) : Int) := fun h => by rw [w64 (by omega) (by omega)]; omega
    have hw2 : IntKind.i64.wrap ((a1 : Int) + 1) = ((a1 + 1 : Nat) : Int) := by rw [w64 (by omega) (by omega)]; omega
    obtain ⟨m1, f1⟩ : ∃ x, partitionEqual ltInt e2 a1 b1 pv = x := ⟨_, rfl⟩
    obtain ⟨m2, ap2, f2⟩ : ∃ x, partition ltInt e2 a1 b1 pv = x := ⟨_, rfl⟩
    have hhd : 13 ≤ b1 - a1 := by omega
    refine a_cutK hT [0, 1, 2, 3, 8, 9, 10, 11, 87] (fun y : Bool => [.row (slV g d cap) 30, .v (kI a1) 0, .v (kI b1) 0, .v (kI l2) 0, .v (.bool wb) 0, .v (.bool wp) 0, .v (kI (b1 - a1 : Nat)) 0, .v (kI pv) 0, .v (.bool y) 0]) (fun _ => [(30, rowU (slV g d cap) e2)]) (fun y => y = true → 0 < a1 ∧ ltInt e2[a1 - 1]! e2[pv]! = false) 2 rfl rfl ?_ fun y hy => ?_
    · refine a_drawX hT [] 12 [(0, false), (1, false), (2, false), (3, false), (4, false), (5, false), (6, false), (7, false), (8, false), (9, false), (10, false), (11, false), (12, true)] rfl rfl (by kernel_rfl) (by kernel_rfl) rfl ?_
      refine a_g hT rfl rfl rfl (fun h5 => ?_) (fun h5 => ?_)
      · have h5 := of_decide_eq_true h5
        refine a_rix hT (a1 - 1) rfl rfl rfl rfl rfl rfl (by first | rfl | omega) (by omega) ?_
        refine a_uldP hT (a1 - 1) (e2) rfl rfl rfl rfl rfl rfl rfl (by first | omega | (simp only [Array.size_setIfInBounds, swp_size]; omega)) rfl ?_
        refine a_rix hT (pv) rfl rfl rfl rfl rfl rfl (by first | rfl | omega) (by omega) ?_
        refine a_uldP hT (pv) (e2) rfl rfl rfl rfl rfl rfl rfl (by first | omega | (simp only [Array.size_setIfInBounds, swp_size]; omega)) rfl ?_
        refine a_callF hT rfl rfl rfl (by kernel_rfl) (uless_spec (h := 0) (h1 := 0)) [] [] ⟨rfl, rfl, trivial⟩ rfl trivial ?_
        rintro _ _ ⟨rfl, rfl⟩
        refine a_rest hT [(13, true), (14, true)] rfl rfl (by kernel_rfl) ?_
        exact a_next hT (!decide (e2[a1 - 1]! < e2[pv]!)) [30] rfl rfl (fun h => ⟨by omega, by unfold ltInt; simpa using h⟩) ⟨rfl, rfl, rfl, rfl, rfl, rfl, rfl, rfl, rfl, trivial⟩ rfl ⟨⟨rfl, rfl, rfl, rfl⟩, trivial⟩
      · have h5 := of_decide_eq_false h5
        refine a_rest hT [(13, true), (14, true)] rfl rfl (by kernel_rfl) ?_
        exact a_next hT false [30] rfl rfl (fun h => nomatch h) ⟨rfl, rfl, rfl, rfl, rfl, rfl, rfl, rfl, rfl, trivial⟩ rfl ⟨⟨rfl, rfl, rfl, rfl⟩, trivial⟩
    have hB2 : Below ltInt a1 b1 e2 := hbel1.perm (by omega) hpt
    have S8 := @partEq_spec g cap e2 a1 b1 pv 30 0 0 0 hv1 hv2 (by omega) (by omega)
    have S9 := @partition_spec g cap e2 a1 b1 pv 30 0 0 0 hv1 hv2 (by omega) (by omega)
    obtain ⟨m1, e3, f1⟩ : ∃ m e3, partitionEqual ltInt e2 a1 b1 pv = (m, e3) := ⟨_, _, rfl⟩
    obtain ⟨m2, ap2, e4, f2⟩ : ∃ m ap e4, Go.Sort.partition ltInt e2 a1 b1 pv = (m, ap, e4) := ⟨_, _, _, rfl⟩
    rw [hse2, f1] at S8
    rw [hse2, f2] at S9
    dsimp only at S8 S9
    obtain ⟨r1, r2, r3, r4, r5, r6, r7⟩ := round_part (lt := ltInt) swo_ltInt (partition_holds ltInt) hv1 hv2 (by omega) hB2 f2
    have hse4 : slV g e4 cap = slV g d cap := by unfold slV; rw [r3, hz2]
    have S10 := @ih (m2 - a1) (by omega) g cap e4 a1 m2 l2 30 0 0 0 (Nat.le_refl _) r1 (by omega) (by omega) (by omega) (by omega) (by omega) r4
    have S11 := @ih (b1 - (m2 + 1)) (by omega) g cap e4 (m2 + 1) b1 l2 30 0 0 0 (Nat.le_refl _) (by omega) (by omega) (by omega) (by omega) (by omega) (by omega) r5
    rw [hse4] at S10 S11
    have hwm : IntKind.i64.wrap ((m2 : Int) + 1) = ((m2 + 1 : Nat) : Int) := by rw [w64 (by omega) (by omega)]; omega
    rw [show AV.v (kI ((m2 + 1 : Nat) : Int)) 0 = AV.v (Value.int .i64 (IntKind.i64.wrap ((m2 : Int) + 1))) 0 by rw [hwm]; rfl] at S11
    refine a_if hT rfl rfl (fun h5 => ?_) (fun h5 => ?_)
    · obtain ⟨g1, g2⟩ := hy h5
      obtain ⟨t1, t2, t3, t4, t5⟩ := round_eq (lt := ltInt) swo_ltInt (partitionEqual_holds ltInt) g1 hv1 hv2 (by omega) hB2 g2 f1
      refine a_call hT rfl rfl rfl (by kernel_rfl) S8 [30] [30] rfl rfl ?_
      rintro _ _ ⟨rfl, rfl⟩
      exact a_next hT (m1, b1, l2, wb, wp, e3) [30] rfl rfl ⟨⟨by show e3.size = d.size; omega, by show m1 ≤ b1; omega, by show a ≤ m1; omega, hb0, by show b1 - m1 < l2 + 12; omega, by show l2 ≤ 100; omega, t4, fun R w1 w2 => (fun w => hg R (permIn_trans _ _ _ a1 b1 hpt w.1) w.2) (t5 R w1 w2)⟩, by show b1 - m1 < b1 - a1; omega⟩ ⟨rfl, rfl, rfl, rfl, rfl, rfl, trivial⟩ rfl ⟨⟨rfl, rfl, rfl, rfl⟩, trivial⟩
    · refine a_call hT rfl rfl rfl (by kernel_rfl) S9 [30] [30] rfl rfl ?_
      rintro _ _ ⟨rfl, rfl⟩
      refine a_bin hT _ rfl rfl rfl (by decide) rfl rfl (fun w => (bin_quo (by decide) w)) ?_
      refine a_if hT rfl rfl (fun h6 => ?_) (fun h6 => ?_)
      · have h6 := of_decide_eq_true h6
        refine a_call hT rfl rfl rfl (by kernel_rfl) S10 [30] [30] rfl rfl ?_
        rintro _ _ ⟨d', hr2, hr3, rfl⟩
        obtain ⟨u1, u2⟩ := r6 d' hr2 hr3
        have u3 : d'.size = e4.size := hr2.1
        exact a_next hT (m2 + 1, b1, l2, decide (IntKind.i64.wrap ((m2 : Int) - a1) ≥ IntKind.i64.wrap (Int.tdiv ((b1 - a1 : Nat) : Int) 8)), ap2, d') [30] rfl rfl ⟨⟨by show d'.size = d.size; omega, by show m2 + 1 ≤ b1; omega, by show a ≤ m2 + 1; omega, hb0, by show b1 - (m2 + 1) < l2 + 12; omega, by show l2 ≤ 100; omega, u1, fun R w1 w2 => (fun w => hg R (permIn_trans _ _ _ a1 b1 hpt w.1) w.2) (u2 R w1 w2)⟩, by show b1 - (m2 + 1) < b1 - a1; omega⟩ ⟨rfl, by show Value.int .i64 _ = Value.int .i64 _; rw [hwm], rfl, rfl, rfl, rfl, trivial⟩ rfl ⟨⟨rfl, rfl, rfl, rfl⟩, trivial⟩
      · have h6 := of_decide_eq_false h6
        refine a_call hT rfl rfl rfl (by kernel_rfl) S11 [30] [30] rfl rfl ?_
        rintro _ _ ⟨d', hr2, hr3, rfl⟩
        obtain ⟨u1, u2⟩ := r7 d' hr2 hr3
        have u3 : d'.size = e4.size := hr2.1
        exact a_next hT (a1, m2, l2, decide (IntKind.i64.wrap ((b1 : Int) - m2) ≥ IntKind.i64.wrap (Int.tdiv ((b1 - a1 : Nat) : Int) 8)), ap2, d') [30] rfl rfl ⟨⟨by show d'.size = d.size; omega, by show a1 ≤ m2; omega, ha0, by show m2 ≤ b; omega, by show m2 - a1 < l2 + 12; omega, by show l2 ≤ 100; omega, u1, fun R w1 w2 => (fun w => hg R (permIn_trans _ _ _ a1 b1 hpt w.1) w.2) (u2 R w1 w2)⟩, by show m2 - a1 < b1 - a1; omega⟩ ⟨rfl, rfl, rfl, rfl, rfl, rfl, trivial⟩ rfl ⟨⟨rfl, rfl, rfl, rfl⟩, trivial⟩
end Go.Proofs.Ytepjnmocepkfjaa
end

section
/- slices.Sort of at most 16 numbers: any row. -/
set_option linter.unusedVariables false
set_option linter.unusedSimpArgs false
set_option maxRecDepth 100000
namespace Go.Proofs.Ytepjnmocepkfjaa
open V A Go.Sort
theorem len64_any {n h : Nat} (hn : n ≤ 16) : ∃ k : Nat, n < k + 12 ∧ k ≤ 100 ∧ FSpec Try.prog 78 [.v (kU n) h] [] fun r cs => r = .v (kI k) 0 ∧ cs = [] := by
  have hc : n = 0 ∨ n = 1 ∨ n = 2 ∨ n = 3 ∨ n = 4 ∨ n = 5 ∨ n = 6 ∨ n = 7 ∨ n = 8 ∨ n = 9 ∨ n = 10 ∨ n = 11 ∨ n = 12 ∨ n = 13 ∨ n = 14 ∨ n = 15 ∨ n = 16 := by omega
  rcases hc with rfl | rfl | rfl | rfl | rfl | rfl | rfl | rfl | rfl | rfl | rfl | rfl | rfl | rfl | rfl | rfl | rfl
  · refine ⟨0, by omega, by omega, ?_⟩
    refine a_enter hT [.v (kU ((0 : Nat) : Int)) 0] [] Try.func78 rfl rfl rfl ⟨rfl, trivial⟩ fun c => ?_
    refine a_f hT rfl rfl rfl ?_
    refine a_f hT rfl rfl rfl ?_
    refine a_f hT rfl rfl rfl ?_
    refine a_sx hT rfl rfl rfl rfl rfl rfl (by first | omega | decide) (by first | omega | decide) ?_
    refine a_ret hT [] rfl rfl rfl rfl rfl rfl ?_
    first | exact ⟨rfl, rfl⟩ | rfl
  · refine ⟨1, by omega, by omega, ?_⟩
    refine a_enter hT [.v (kU ((1 : Nat) : Int)) 0] [] Try.func78 rfl rfl rfl ⟨rfl, trivial⟩ fun c => ?_
    refine a_f hT rfl rfl rfl ?_
    refine a_f hT rfl rfl rfl ?_
    refine a_f hT rfl rfl rfl ?_
    refine a_sx hT rfl rfl rfl rfl rfl rfl (by first | omega | decide) (by first | omega | decide) ?_
    refine a_ret hT [] rfl rfl rfl rfl rfl rfl ?_
    first | exact ⟨rfl, rfl⟩ | rfl
  · refine ⟨2, by omega, by omega, ?_⟩
    refine a_enter hT [.v (kU ((2 : Nat) : Int)) 0] [] Try.func78 rfl rfl rfl ⟨rfl, trivial⟩ fun c => ?_
    refine a_f hT rfl rfl rfl ?_
    refine a_f hT rfl rfl rfl ?_
    refine a_f hT rfl rfl rfl ?_
    refine a_sx hT rfl rfl rfl rfl rfl rfl (by first | omega | decide) (by first | omega | decide) ?_
    refine a_ret hT [] rfl rfl rfl rfl rfl rfl ?_
    first | exact ⟨rfl, rfl⟩ | rfl
  · refine ⟨2, by omega, by omega, ?_⟩
    refine a_enter hT [.v (kU ((3 : Nat) : Int)) 0] [] Try.func78 rfl rfl rfl ⟨rfl, trivial⟩ fun c => ?_
    refine a_f hT rfl rfl rfl ?_
    refine a_f hT rfl rfl rfl ?_
    refine a_f hT rfl rfl rfl ?_
    refine a_sx hT rfl rfl rfl rfl rfl rfl (by first | omega | decide) (by first | omega | decide) ?_
    refine a_ret hT [] rfl rfl rfl rfl rfl rfl ?_
    first | exact ⟨rfl, rfl⟩ | rfl
  · refine ⟨3, by omega, by omega, ?_⟩
    refine a_enter hT [.v (kU ((4 : Nat) : Int)) 0] [] Try.func78 rfl rfl rfl ⟨rfl, trivial⟩ fun c => ?_
    refine a_f hT rfl rfl rfl ?_
    refine a_f hT rfl rfl rfl ?_
    refine a_f hT rfl rfl rfl ?_
    refine a_sx hT rfl rfl rfl rfl rfl rfl (by first | omega | decide) (by first | omega | decide) ?_
    refine a_ret hT [] rfl rfl rfl rfl rfl rfl ?_
    first | exact ⟨rfl, rfl⟩ | rfl
  · refine ⟨3, by omega, by omega, ?_⟩
    refine a_enter hT [.v (kU ((5 : Nat) : Int)) 0] [] Try.func78 rfl rfl rfl ⟨rfl, trivial⟩ fun c => ?_
    refine a_f hT rfl rfl rfl ?_
    refine a_f hT rfl rfl rfl ?_
    refine a_f hT rfl rfl rfl ?_
    refine a_sx hT rfl rfl rfl rfl rfl rfl (by first | omega | decide) (by first | omega | decide) ?_
    refine a_ret hT [] rfl rfl rfl rfl rfl rfl ?_
    first | exact ⟨rfl, rfl⟩ | rfl
  · refine ⟨3, by omega, by omega, ?_⟩
    refine a_enter hT [.v (kU ((6 : Nat) : Int)) 0] [] Try.func78 rfl rfl rfl ⟨rfl, trivial⟩ fun c => ?_
    refine a_f hT rfl rfl rfl ?_
    refine a_f hT rfl rfl rfl ?_
    refine a_f hT rfl rfl rfl ?_
    refine a_sx hT rfl rfl rfl rfl rfl rfl (by first | omega | decide) (by first | omega | decide) ?_
    refine a_ret hT [] rfl rfl rfl rfl rfl rfl ?_
    first | exact ⟨rfl, rfl⟩ | rfl
  · refine ⟨3, by omega, by omega, ?_⟩
    refine a_enter hT [.v (kU ((7 : Nat) : Int)) 0] [] Try.func78 rfl rfl rfl ⟨rfl, trivial⟩ fun c => ?_
    refine a_f hT rfl rfl rfl ?_
    refine a_f hT rfl rfl rfl ?_
    refine a_f hT rfl rfl rfl ?_
    refine a_sx hT rfl rfl rfl rfl rfl rfl (by first | omega | decide) (by first | omega | decide) ?_
    refine a_ret hT [] rfl rfl rfl rfl rfl rfl ?_
    first | exact ⟨rfl, rfl⟩ | rfl
  · refine ⟨4, by omega, by omega, ?_⟩
    refine a_enter hT [.v (kU ((8 : Nat) : Int)) 0] [] Try.func78 rfl rfl rfl ⟨rfl, trivial⟩ fun c => ?_
    refine a_f hT rfl rfl rfl ?_
    refine a_f hT rfl rfl rfl ?_
    refine a_f hT rfl rfl rfl ?_
    refine a_sx hT rfl rfl rfl rfl rfl rfl (by first | omega | decide) (by first | omega | decide) ?_
    refine a_ret hT [] rfl rfl rfl rfl rfl rfl ?_
    first | exact ⟨rfl, rfl⟩ | rfl
  · refine ⟨4, by omega, by omega, ?_⟩
    refine a_enter hT [.v (kU ((9 : Nat) : Int)) 0] [] Try.func78 rfl rfl rfl ⟨rfl, trivial⟩ fun c => ?_
    refine a_f hT rfl rfl rfl ?_
    refine a_f hT rfl rfl rfl ?_
    refine a_f hT rfl rfl rfl ?_
    refine a_sx hT rfl rfl rfl rfl rfl rfl (by first | omega | decide) (by first | omega | decide) ?_
    refine a_ret hT [] rfl rfl rfl rfl rfl rfl ?_
    first | exact ⟨rfl, rfl⟩ | rfl
  · refine ⟨4, by omega, by omega, ?_⟩
    refine a_enter hT [.v (kU ((10 : Nat) : Int)) 0] [] Try.func78 rfl rfl rfl ⟨rfl, trivial⟩ fun c => ?_
    refine a_f hT rfl rfl rfl ?_
    refine a_f hT rfl rfl rfl ?_
    refine a_f hT rfl rfl rfl ?_
    refine a_sx hT rfl rfl rfl rfl rfl rfl (by first | omega | decide) (by first | omega | decide) ?_
    refine a_ret hT [] rfl rfl rfl rfl rfl rfl ?_
    first | exact ⟨rfl, rfl⟩ | rfl
  · refine ⟨4, by omega, by omega, ?_⟩
    refine a_enter hT [.v (kU ((11 : Nat) : Int)) 0] [] Try.func78 rfl rfl rfl ⟨rfl, trivial⟩ fun c => ?_
    refine a_f hT rfl rfl rfl ?_
    refine a_f hT rfl rfl rfl ?_
    refine a_f hT rfl rfl rfl ?_
    refine a_sx hT rfl rfl rfl rfl rfl rfl (by first | omega | decide) (by first | omega | decide) ?_
    refine a_ret hT [] rfl rfl rfl rfl rfl rfl ?_
    first | exact ⟨rfl, rfl⟩ | rfl
  · refine ⟨4, by omega, by omega, ?_⟩
    refine a_enter hT [.v (kU ((12 : Nat) : Int)) 0] [] Try.func78 rfl rfl rfl ⟨rfl, trivial⟩ fun c => ?_
    refine a_f hT rfl rfl rfl ?_
    refine a_f hT rfl rfl rfl ?_
    refine a_f hT rfl rfl rfl ?_
    refine a_sx hT rfl rfl rfl rfl rfl rfl (by first | omega | decide) (by first | omega | decide) ?_
    refine a_ret hT [] rfl rfl rfl rfl rfl rfl ?_
    first | exact ⟨rfl, rfl⟩ | rfl
  · refine ⟨4, by omega, by omega, ?_⟩
    refine a_enter hT [.v (kU ((13 : Nat) : Int)) 0] [] Try.func78 rfl rfl rfl ⟨rfl, trivial⟩ fun c => ?_
    refine a_f hT rfl rfl rfl ?_
    refine a_f hT rfl rfl rfl ?_
    refine a_f hT rfl rfl rfl ?_
    refine a_sx hT rfl rfl rfl rfl rfl rfl (by first | omega | decide) (by first | omega | decide) ?_
    refine a_ret hT [] rfl rfl rfl rfl rfl rfl ?_
    first | exact ⟨rfl, rfl⟩ | rfl
  · refine ⟨4, by omega, by omega, ?_⟩
    refine a_enter hT [.v (kU ((14 : Nat) : Int)) 0] [] Try.func78 rfl rfl rfl ⟨rfl, trivial⟩ fun c => ?_
    refine a_f hT rfl rfl rfl ?_
    refine a_f hT rfl rfl rfl ?_
    refine a_f hT rfl rfl rfl ?_
    refine a_sx hT rfl rfl rfl rfl rfl rfl (by first | omega | decide) (by first | omega | decide) ?_
    refine a_ret hT [] rfl rfl rfl rfl rfl rfl ?_
    first | exact ⟨rfl, rfl⟩ | rfl
  · refine ⟨4, by omega, by omega, ?_⟩
    refine a_enter hT [.v (kU ((15 : Nat) : Int)) 0] [] Try.func78 rfl rfl rfl ⟨rfl, trivial⟩ fun c => ?_
    refine a_f hT rfl rfl rfl ?_
    refine a_f hT rfl rfl rfl ?_
    refine a_f hT rfl rfl rfl ?_
    refine a_sx hT rfl rfl rfl rfl rfl rfl (by first | omega | decide) (by first | omega | decide) ?_
    refine a_ret hT [] rfl rfl rfl rfl rfl rfl ?_
    first | exact ⟨rfl, rfl⟩ | rfl
  · refine ⟨5, by omega, by omega, ?_⟩
    refine a_enter hT [.v (kU ((16 : Nat) : Int)) 0] [] Try.func78 rfl rfl rfl ⟨rfl, trivial⟩ fun c => ?_
    refine a_f hT rfl rfl rfl ?_
    refine a_f hT rfl rfl rfl ?_
    refine a_f hT rfl rfl rfl ?_
    refine a_sx hT rfl rfl rfl rfl rfl rfl (by first | omega | decide) (by first | omega | decide) ?_
    refine a_ret hT [] rfl rfl rfl rfl rfl rfl ?_
    first | exact ⟨rfl, rfl⟩ | rfl
theorem len_any {n h : Nat} (hn : n ≤ 16) : ∃ k : Nat, n < k + 12 ∧ k ≤ 100 ∧ FSpec Try.prog 56 [.v (kU n) h] [] fun r cs => r = .v (kI k) 0 ∧ cs = [] := by
  obtain ⟨k, h1, h2, h3⟩ := len64_any (h := 0) hn
  refine ⟨k, h1, h2, ?_⟩
  refine a_enter hT [.v (kU n) 0] [] Try.func56 rfl rfl rfl ⟨rfl, trivial⟩ fun c => ?_
  refine a_f hT rfl rfl rfl ?_
  refine a_call hT rfl rfl rfl (by kernel_rfl) h3 [] [] rfl rfl ?_
  rintro _ _ ⟨rfl, rfl⟩
  refine a_ret hT [] rfl rfl rfl rfl rfl rfl ?_
  first | exact ⟨rfl, rfl⟩ | rfl
theorem sortA_spec {g cap h : Nat} {d : Array Int} (hd : d.size ≤ 16) : FSpec Try.prog 34 [.row (slV g d cap) h] [rowU (slV g d cap) d] fun _ cs => ∃ d', PermIn 0 d.size d d' ∧ SortedIn ltInt 0 d.size d' ∧ cs = [rowU (slV g d cap) d'] := by
  obtain ⟨k, h1, h2, h3⟩ := len_any (h := 0) hd
  have hw : IntKind.u64.wrap (d.size : Int) = d.size := wrapU (by omega) (by omega)
  have S0 := @pdq_spec (d.size - 0) g cap d 0 d.size k 30 0 0 0 (Nat.le_refl _) (by omega) (Nat.le_refl _) (by omega) (by omega) (by omega) h2 (.inl rfl)
  have hlen : (d.size : Int) = ((d.toList.map eU).length : Nat) := by simp
  rw [show (d.size : Int) = IntKind.u64.wrap (((d.toList.map eU).length : Nat) : Int) by rw [← hlen, hw]] at h3
  rw [hlen] at S0
  refine a_enter hT [.row (slV g d cap) 30] [30] Try.func34 rfl rfl rfl ⟨rfl, trivial⟩ fun c => ?_
  refine a_call hT rfl rfl rfl (by kernel_rfl) h3 [] [] rfl rfl ?_
  rintro _ _ ⟨rfl, rfl⟩
  refine a_call hT rfl rfl rfl (by kernel_rfl) S0 [30] [30] rfl rfl ?_
  rintro _ _ ⟨d', hr, hr1, rfl⟩
  refine a_end hT [30] rfl rfl rfl rfl rfl rfl ?_
  exact ⟨_, hr, hr1, rfl⟩
theorem insN_spec {h h1 h2 : Nat} : FSpec Try.prog 68 [.row (.slice none 0 0) h, .v (kI 0) h1, .v (kI 0) h2] [.row (.slice none 0 0) 25 1 []] fun _ cs => cs = [.row (.slice none 0 0) 25 1 []] := by
  refine a_enter hT [.row (.slice none 0 0) 30, .v (kI 0) 0, .v (kI 0) 0] [30] Try.func68 rfl rfl rfl ⟨rfl, rfl, rfl, trivial⟩ fun c => ?_
  refine a_loop hT [0, 1, 2, 6] (fun _ : Unit => [.row (.slice none 0 0) 30, .v (kI 0) 0, .v (kI 0) 0, .v (kI 1) 0]) (fun _ => [(30, .row (.slice none 0 0) 25 1 [])]) (fun _ => True) (fun _ => 0) () [30] rfl rfl trivial ⟨rfl, rfl, rfl, rfl, trivial⟩ rfl ⟨⟨rfl, rfl, rfl, rfl⟩, trivial⟩ ?_
  rintro ⟨⟩ _
  refine a_f hT rfl rfl rfl ?_
  refine a_end hT [30] rfl rfl rfl rfl rfl rfl ?_
  first | exact ⟨rfl, rfl⟩ | rfl
theorem pdqN_spec {h h1 h2 h3 : Nat} {k : Nat} : FSpec Try.prog 55 [.row (.slice none 0 0) h, .v (kI 0) h1, .v (kI 0) h2, .v (kI k) h3] [.row (.slice none 0 0) 25 1 []] fun _ cs => cs = [.row (.slice none 0 0) 25 1 []] := by
  refine a_enter hT [.row (.slice none 0 0) 30, .v (kI 0) 0, .v (kI 0) 0, .v (kI k) 0] [30] Try.func55 rfl rfl rfl ⟨rfl, rfl, rfl, rfl, trivial⟩ fun c => ?_
  refine a_loop hT [0, 1, 2, 3, 8, 9] (fun _ : Unit => [.row (.slice none 0 0) 30, .v (kI 0) 0, .v (kI 0) 0, .v (kI k) 0, .v (.bool true) 0, .v (.bool true) 0]) (fun _ => [(30, .row (.slice none 0 0) 25 1 [])]) (fun _ => True) (fun _ => 0) () [30] rfl rfl trivial ⟨rfl, rfl, rfl, rfl, rfl, rfl, trivial⟩ rfl ⟨⟨rfl, rfl, rfl, rfl⟩, trivial⟩ ?_
  rintro ⟨⟩ _
  refine a_t hT rfl rfl rfl ?_
  refine a_call hT rfl rfl rfl (by kernel_rfl) insN_spec [30] [30] rfl rfl ?_
  rintro _ _ rfl
  refine a_ret hT [30] rfl rfl rfl rfl rfl rfl ?_
  first | exact ⟨rfl, rfl⟩ | rfl
theorem sortN_spec {h : Nat} : FSpec Try.prog 34 [.row (.slice none 0 0) h] [.row (.slice none 0 0) 25 1 []] fun _ cs => cs = [.row (.slice none 0 0) 25 1 []] := by
  obtain ⟨k, h1, h2, h3⟩ := len_any (n := 0) (h := 0) (by omega)
  refine a_enter hT [.row (.slice none 0 0) 30] [30] Try.func34 rfl rfl rfl ⟨rfl, trivial⟩ fun c => ?_
  refine a_call hT rfl rfl rfl (by kernel_rfl) h3 [] [] rfl rfl ?_
  rintro _ _ ⟨rfl, rfl⟩
  refine a_call hT rfl rfl rfl (by kernel_rfl) pdqN_spec [30] [30] rfl rfl ?_
  rintro _ _ rfl
  refine a_end hT [30] rfl rfl rfl rfl rfl rfl ?_
  first | exact ⟨rfl, rfl⟩ | rfl
def sortL (l : List Int) : List Int := l.mergeSort fun x y => !ltInt y x
theorem ltInt_tot (x y : Int) (h1 : ltInt x y = false) (h2 : ltInt y x = false) : x = y := by
  unfold ltInt at h1 h2; simp at h1 h2; omega
theorem sortL_of {l m : List Int} (hp : m.Perm l) (hs : m.Pairwise (· < ·)) : sortL l = m := by
  have := sorted_unique_holds (lt := ltInt) swo_ltInt ltInt_tot l.toArray m.toArray ⟨by simpa using hp.length_eq, fun i h => ?_, by have e := hp.length_eq; simp [← e]; rw [List.take_of_length_le (by omega)]; exact hp⟩ fun i j hi hij hj => ?_
  · exact this.symm
  · have h : l.length ≤ i := by simpa using h
    have h' : m.length ≤ i := by rw [hp.length_eq]; exact h
    simp [h, h']
  · have hj : j < m.length := by rw [hp.length_eq]; simpa using hj
    have h := List.pairwise_iff_getElem.1 hs i j (by omega) hj hij
    rw [getElem!_pos _ _ (by simpa using hj), getElem!_pos _ _ (by simp; omega)]
    unfold ltInt
    simp
    omega
theorem sort_spec {v : Value} {h : Nat} {l : List Int} (hf : (v = .slice none 0 0 ∧ l = []) ∨ ∃ g cap, v = .slice (some ⟨g, 0, none⟩) l.length cap) (hl : l.length ≤ 16) : FSpec Try.prog 34 [.row v h] [.row v 25 1 (l.map eU)] fun _ cs => cs = [.row v 25 1 ((sortL l).map eU)] := by
  rcases hf with ⟨rfl, rfl⟩ | ⟨g, cap, rfl⟩
  · have e : sortL [] = [] := sortL_of (List.Perm.refl _) List.Pairwise.nil
    rw [e]
    exact sortN_spec
  · exact (sortA_spec (g := g) (cap := cap) (d := l.toArray) (by simpa using hl)).mono fun a cs => by
      rintro ⟨d', h1, h2, rfl⟩
      have e := sorted_unique_holds (lt := ltInt) swo_ltInt ltInt_tot l.toArray d' h1 h2
      have hsz : d'.size = l.length := by simpa using h1.1
      show [Chunk.row _ _ _ (d'.toList.map eU)] = _
      rw [e]
      rfl
end Go.Proofs.Ytepjnmocepkfjaa
end

section
/- Layer 23's client: what a Tick does, plainly. -/
set_option linter.unusedVariables false
set_option linter.unusedSimpArgs false
set_option maxRecDepth 100000
namespace Go.Proofs.Ytepjnmocepkfjaa
open V A
def CP.next (x : CP) (now : Int) : CP := ⟨x.tok, x.meth, x.arg, x.dl, x.att + 1, now⟩
def CS.upd (C : CS) (x : CP) : CS := ⟨C.num, C.last, C.calls.map fun y => if y.tok = x.tok then x else y⟩
structure TK where
  C : CS
  ev : List Evt
  ag : List CP
def tickS (now : Int) (k : TK) (x : CP) : TK :=
  if x.dl ≤ now then ⟨k.C.drop x.tok, k.ev ++ [⟨3, k.C.num, x.tok, x.meth, 4, []⟩], k.ag⟩
  else if x.att = 5 then ⟨k.C.drop x.tok, k.ev ++ [⟨3, k.C.num, x.tok, x.meth, 14, []⟩], k.ag⟩
  else ⟨k.C.upd (x.next now), k.ev, k.ag ++ [x.next now]⟩
def dueL (C : CS) (now : Int) : List CP := C.calls.filter fun x => decide (wakeP x ≤ now)
def tickT (C : CS) (now : Int) : TK := (dueL C now).foldl (tickS now) ⟨C, [], []⟩
def CS.frame (C : CS) (x : CP) : Fr := ⟨1, C.num, x.tok, x.att, C.fl, x.meth, x.dl, 0, x.arg⟩
def tickP (C : CS) (now : Int) : CS × List Evt × List Fr := ((tickT C now).C, (tickT C now).ev, (tickT C now).ag.map (tickT C now).C.frame)
/-- How it stands when R is still to be looked at. -/
structure TkI (C : CS) (k : TK) (R : List CP) : Prop where
  ok : k.C.ok
  num : k.C.num = C.num
  last : k.C.last = C.last
  sub : ∀ x ∈ R, x ∈ k.C.calls
  nd : (R.map (·.tok)).Pairwise (· < ·)
  ag : ∀ x ∈ k.ag, x ∈ k.C.calls ∧ x.tok ∉ R.map (·.tok)
  len : k.C.calls.length ≤ C.calls.length
theorem wakeP_due {x : CP} {now last : Int} (hx : x.ok last) (hw : wakeP x ≤ now) : 0 ≤ now ∧ x.made ≤ now := by
  have := delayP_le x.att
  have h1 := hx.m
  have h2 := hx.md
  unfold wakeP mnI at hw
  split at hw <;> omega
theorem CP.ok.next {x : CP} {now last : Int} (hx : x.ok last) (hw : wakeP x ≤ now) (h1 : ¬ x.dl ≤ now) (h2 : ¬ x.att = 5) : (x.next now).ok last := by
  have h3 := wakeP_due hx hw
  have h4 := hx.a1
  have h5 := hx.a2
  exact ⟨hx.t1, hx.t2, hx.m1, hx.m2, hx.a, hx.d, h3.1, by show now < x.dl; omega, by show 0 ≤ x.att + 1; omega, by show x.att + 1 < 6; omega⟩
theorem upd_toks (C : CS) (x : CP) : (C.upd x).calls.map (·.tok) = C.calls.map (·.tok) := by
  unfold CS.upd
  rw [List.map_map]
  refine List.map_congr_left fun y _ => ?_
  show (if y.tok = x.tok then x else y).tok = y.tok
  split
  · rename_i h; exact h.symm
  · rfl
theorem CS.ok.upd {C : CS} (hC : C.ok) {x : CP} (hx : x.ok C.last) : (C.upd x).ok := by
  refine ⟨hC.n0, by rw [upd_toks]; exact hC.s, fun y hy => ?_, hC.l0, hC.l1⟩
  obtain ⟨z, hz, rfl⟩ := List.mem_map.1 hy
  show CP.ok (if z.tok = x.tok then x else z) C.last
  split
  · exact hx
  · exact hC.c z hz
theorem tk_step {C : CS} {k : TK} {x : CP} {R : List CP} {now : Int} (h : TkI C k (x :: R)) (hw : wakeP x ≤ now) : TkI C (tickS now k x) R := by
  have hx := h.ok.c x (h.sub x (by simp))
  have hnd := h.nd
  rw [List.map_cons, List.pairwise_cons] at hnd
  have hlt : ∀ y ∈ R, x.tok < y.tok := fun y hy => hnd.1 _ (List.mem_map.2 ⟨y, hy, rfl⟩)
  have hag : ∀ y ∈ k.ag, y ∈ k.C.calls ∧ y.tok ≠ x.tok ∧ y.tok ∉ R.map (·.tok) := fun y hy => by
    have := h.ag y hy
    rw [List.map_cons, List.mem_cons] at this
    exact ⟨this.1, fun e => this.2 (.inl e), fun e => this.2 (.inr e)⟩
  have hd : ∀ (ev : List Evt), TkI C ⟨k.C.drop x.tok, ev, k.ag⟩ R := fun ev => by
    refine ⟨h.ok.drop _, h.num, h.last, fun y hy => ?_, hnd.2, fun y hy => ⟨?_, (hag y hy).2.2⟩, Nat.le_trans (List.length_filter_le _ _) h.len⟩
    · have := hlt y hy
      exact List.mem_filter.2 ⟨h.sub y (by simp [hy]), by simp; omega⟩
    · exact List.mem_filter.2 ⟨(hag y hy).1, by simpa using (hag y hy).2.1⟩
  unfold tickS
  split
  · exact hd _
  split
  · exact hd _
  rename_i h1 h2
  have hn := hx.next hw h1 h2
  have hmem : ∀ y ∈ k.C.calls, y.tok ≠ x.tok → y ∈ (k.C.upd (x.next now)).calls := fun y hy hne => List.mem_map.2 ⟨y, hy, if_neg hne⟩
  refine ⟨h.ok.upd hn, h.num, h.last, fun y hy => ?_, hnd.2, fun y hy => ?_, by show (List.map _ _).length ≤ _; rw [List.length_map]; exact h.len⟩
  · have := hlt y hy
    exact hmem y (h.sub y (by simp [hy])) (by omega)
  · rcases List.mem_append.1 hy with hy | hy
    · exact ⟨hmem y (hag y hy).1 (hag y hy).2.1, (hag y hy).2.2⟩
    · simp at hy
      subst hy
      refine ⟨List.mem_map.2 ⟨x, h.sub x (by simp), if_pos rfl⟩, fun e => ?_⟩
      obtain ⟨z, hz, e⟩ := List.mem_map.1 e
      have := hlt z hz
      have e : z.tok = x.tok := e
      omega
theorem tk_start {C : CS} (hC : C.ok) (now : Int) : TkI C ⟨C, [], []⟩ (dueL C now) := by
  refine ⟨hC, rfl, rfl, fun x hx => (List.mem_filter.1 hx).1, ?_, fun x hx => by simp at hx, Nat.le_refl _⟩
  have h1 : (dueL C now).Sublist C.calls := List.filter_sublist
  exact hC.s.sublist (h1.map _)
theorem tk_fold {C : CS} {now : Int} : ∀ {R : List CP} {k : TK}, TkI C k R → (∀ x ∈ R, wakeP x ≤ now) → TkI C (R.foldl (tickS now) k) []
  | [], k, h, _ => h
  | x :: R, k, h, hw => by
    rw [List.foldl_cons]
    exact tk_fold (R := R) (k := tickS now k x) (tk_step h (hw x (by simp))) fun y hy => hw y (by simp [hy])
theorem tickP_ok {C : CS} (hC : C.ok) (now : Int) : (tickP C now).1.ok ∧ (tickP C now).1.last = C.last ∧ (tickP C now).1.num = C.num ∧ (tickP C now).1.calls.length ≤ C.calls.length := by
  have := tk_fold (now := now) (tk_start hC now) fun x hx => by simpa using (List.mem_filter.1 hx).2
  exact ⟨this.ok, this.last, this.num, this.len⟩
theorem map_self {α : Type} {f : α → α} : ∀ {l : List α}, (∀ y ∈ l, f y = y) → l.map f = l
  | [], _ => rfl
  | x :: l, h => by rw [List.map_cons, h x (by simp), map_self fun y hy => h y (by simp [hy])]
/-- The timers that stand when R is still to be looked at. -/
def restT (C : CS) (R : List CP) : TS := due (C.calls.filter fun y => decide (y.tok ∉ R.map (·.tok)))
theorem restT_nil (C : CS) : restT C [] = due C.calls := by
  unfold restT
  rw [List.filter_eq_self.2 fun y hy => by simp]
theorem restT_key {C : CS} {R : List CP} {x : CP} (hx : x ∈ R) : x.tok ∉ (restT C R).map (·.1) := fun h => by
  unfold restT due at h
  rw [List.map_map] at h
  obtain ⟨y, hy, e⟩ := List.mem_map.1 h
  have e : y.tok = x.tok := e
  have := (List.mem_filter.1 hy).2
  simp at this
  exact this x hx e.symm
theorem restT_drop {C : CS} {R : List CP} (x : CP) : restT (C.drop x.tok) R = restT C (x :: R) := by
  unfold restT CS.drop
  dsimp only
  rw [List.filter_filter]
  congr 1
  refine List.filter_congr fun y _ => ?_
  by_cases e1 : y.tok = x.tok <;> by_cases e2 : y.tok ∈ R.map (·.tok) <;> simp only [List.map_cons, List.mem_cons, e1, e2] <;> first | (simp; done) | (simp; exact e1)
theorem restT_upd {C : CS} (hC : C.ok) {R : List CP} {x x' : CP} (hx : x ∈ C.calls) (ht : x'.tok = x.tok) (hR : x.tok ∉ R.map (·.tok)) : (restT (C.upd x') R).Perm ((x.tok, wakeP x') :: restT C (x :: R)) := by
  obtain ⟨a, c, e⟩ := List.append_of_mem hx
  have hs := nodup_of_lt hC.s
  rw [e, List.map_append, List.map_cons, List.nodup_append] at hs
  obtain ⟨h1, h2, h3⟩ := hs
  rw [List.nodup_cons] at h2
  have ha : ∀ y ∈ a, y.tok ≠ x.tok := fun y hy => h3 _ (List.mem_map.2 ⟨y, hy, rfl⟩) _ (by simp)
  have hc : ∀ y ∈ c, y.tok ≠ x.tok := fun y hy e => h2.1 (List.mem_map.2 ⟨y, hy, e⟩)
  have e1 : (C.upd x').calls = a ++ x' :: c := by
    unfold CS.upd
    dsimp only
    rw [e, List.map_append, List.map_cons, if_pos ht.symm]
    congr 1
    · exact map_self fun y hy => if_neg (by rw [ht]; exact ha y hy)
    · congr 1
      exact map_self fun y hy => if_neg (by rw [ht]; exact hc y hy)
  have f : ∀ l : List CP, (∀ y ∈ l, y.tok ≠ x.tok) → l.filter (fun y => decide (y.tok ∉ (x :: R).map (·.tok))) = l.filter fun y => decide (y.tok ∉ R.map (·.tok)) := fun l hl => List.filter_congr fun y hy => by
    have := hl y hy
    simp [this]
  unfold restT
  rw [e1, e]
  unfold due
  rw [List.filter_append, List.filter_append, List.filter_cons_of_pos (by rw [ht]; simpa using hR), List.filter_cons_of_neg (by simp), f a ha, f c hc]
  rw [List.map_append, List.map_append, List.map_cons, ht]
  exact List.perm_middle
theorem filter_split {α : Type} (p : α → Bool) : ∀ l : List α, l.Perm (l.filter (fun x => !p x) ++ l.filter p)
  | [] => List.Perm.refl _
  | x :: l => by
    have ih := filter_split p l
    cases h : p x
    · rw [List.filter_cons_of_pos (by simp [h]), List.filter_cons_of_neg (by simp [h])]; exact ih.cons x
    · rw [List.filter_cons_of_neg (by simp [h]), List.filter_cons_of_pos (by simp [h])]; exact (ih.cons x).trans List.perm_middle.symm
theorem tok_inj {C : CS} (hC : C.ok) {x y : CP} (hx : x ∈ C.calls) (hy : y ∈ C.calls) (e : x.tok = y.tok) : x = y := by
  obtain ⟨i, hi, rfl⟩ := List.mem_iff_getElem.1 hx
  obtain ⟨j, hj, rfl⟩ := List.mem_iff_getElem.1 hy
  have hp := List.pairwise_iff_getElem.1 hC.s
  rcases Nat.lt_trichotomy i j with h | rfl | h
  · have := hp i j (by simpa using hi) (by simpa using hj) h
    simp at this; omega
  · rfl
  · have := hp j i (by simpa using hj) (by simpa using hi) h
    simp at this; omega
/-- What was taken, and what stays. -/
theorem taken_of {C : CS} (hC : C.ok) {now : Int} {S T : TS} (hp : (S ++ T).Perm (due C.calls)) (hT : ∀ p ∈ T, p.2 ≤ now) (hS : ∀ p ∈ S, now < p.2) : sortL (T.map (·.1)) = (dueL C now).map (·.tok) ∧ S.Perm (restT C (dueL C now)) := by
  have f1 : (S ++ T).filter (fun p => decide (p.2 ≤ now)) = T := by
    rw [List.filter_append, List.filter_eq_nil_iff.2 fun p hp => by have := hS p hp; simp; omega, List.filter_eq_self.2 fun p hp => by simpa using hT p hp]; rfl
  have f2 : (S ++ T).filter (fun p => !decide (p.2 ≤ now)) = S := by
    rw [List.filter_append, List.filter_eq_self.2 fun p hp => by have := hS p hp; simp; omega, List.filter_eq_nil_iff.2 fun p hp => by have := hT p hp; simp; omega, List.append_nil]
  have g1 : (due C.calls).filter (fun p => decide (p.2 ≤ now)) = due (dueL C now) := by unfold due dueL; rw [List.filter_map]; rfl
  have g2 : (due C.calls).filter (fun p => !decide (p.2 ≤ now)) = restT C (dueL C now) := by
    unfold due restT
    rw [List.filter_map]
    unfold due
    congr 1
    refine List.filter_congr fun y hy => ?_
    by_cases h : wakeP y ≤ now
    · have : y.tok ∈ (dueL C now).map (·.tok) := List.mem_map.2 ⟨y, List.mem_filter.2 ⟨hy, by simpa using h⟩, rfl⟩
      simp [h, this] <;> exact ⟨y, ⟨List.mem_filter.2 ⟨hy, by simpa using h⟩, rfl⟩⟩
    · have : y.tok ∉ (dueL C now).map (·.tok) := fun hm => by
        obtain ⟨z, hz, e⟩ := List.mem_map.1 hm
        obtain ⟨hz1, hz2⟩ := List.mem_filter.1 hz
        have : z = y := tok_inj hC hz1 hy e
        subst this
        exact h (by simpa using hz2)
      have t2 : decide (y.tok ∉ (dueL C now).map (·.tok)) = true := decide_eq_true this
      rw [t2]
      simpa using h
  have h1 := hp.filter (fun p => decide (p.2 ≤ now))
  have h2 := hp.filter (fun p => !decide (p.2 ≤ now))
  rw [f1, g1] at h1
  rw [f2, g2] at h2
  refine ⟨sortL_of ?_ ?_, h2⟩
  · have := (h1.map (·.1)).symm
    have e : (due (dueL C now)).map (·.1) = (dueL C now).map (·.tok) := by unfold due; rw [List.map_map]; rfl
    rw [e] at this
    exact this
  · exact (tk_start hC now).nd
end Go.Proofs.Ytepjnmocepkfjaa
end

section
/- Layer 23's client: Tick. -/
set_option linter.unusedVariables false
set_option linter.unusedSimpArgs false
set_option maxRecDepth 100000
namespace Go.Proofs.Ytepjnmocepkfjaa.A
open V
section
variable {P : Program} {L : List TD} {n : Nat} {Q : Exit → Act → World → Prop} {c : Ctx}
variable {s : AMS} {f : AEnv} {σ : Store}
/-- A row that a struct's field holds is frozen. -/
theorem a_freezeA (t off h : Nat) {cs : List AV} {x x' : Value} {hx0 e k : Nat} {es : List (List Dat)} (hst : s.still = true) (ht : getA f t = .agg cs) (ht2 : cs[off]? = some (.row x hx0)) (hl : look σ h = some (.row x' e k es)) (hx : x = x') (hk : DenA c P n Q s ((t, .agg (cs.set off (.d (.sl k es)))) :: f) (del σ h)) : DenA c P n Q s f σ := by
  subst hx
  refine a_ghost hst (fun Y S w fc hdY hh he => ?_) hk
  obtain ⟨S1, S2, hS, hd, hc, hr⟩ := hh.take hl
  have hM : ∀ b, or2 S2 Y b → or2 S Y b := fun b h => h.elim (fun h => .inl ((hS b).2 (.inr h))) .inr
  have hfz := row_frozen hc hS hd hdY
  refine ⟨S2, hr.of fun b _ h => hM b h, fun t' => ?_, fun b h => (hS b).2 (.inr h)⟩
  rw [getA_cons]
  split
  · rename_i e
    subst e
    have := he t'
    rw [ht] at this
    unfold Rep at this ⊢
    obtain ⟨xs, e, hrx, h2⟩ := this
    refine ⟨xs, e, ?_, h2⟩
    have hrx' := hrx.of (M' := or2 S2 Y) fun b _ h => hM b h
    obtain ⟨y, hy, hry⟩ := hrx'.get _ _ ht2
    have hlt := (List.getElem?_eq_some_iff.1 hy).1
    have := hrx'.set off (.d (.sl k es)) y (by unfold Rep at hry ⊢; rw [hry.1]; exact hfz)
    have e : xs.set off y = xs := by
      apply List.ext_getElem?
      intro j
      rw [List.getElem?_set]
      split
      · rename_i e; subst e; exact hy.symm
      · rfl
    rwa [e] at this
  · exact (he t').of fun b _ h => hM b h
end
end Go.Proofs.Ytepjnmocepkfjaa.A
namespace Go.Proofs.Ytepjnmocepkfjaa
open V A
def evD (e : Evt) : List A.Dat := [.v (kI e.kind), .v (kI e.client), .v (kU e.token), .v (kI e.method), .v (kI e.status), A.bytesD e.bytes]
def frD (f : Fr) : List A.Dat := [.v (kI f.kind), .v (kI f.client), .v (kU f.token), .v (kI f.attempt), .v (kU f.floor), .v (kI f.method), .v (kI f.deadline), .v (kI f.status), A.bytesD f.pay]
def evsD (l : List Evt) : A.Dat := .sl 6 (l.map evD)
def frsD (l : List Fr) : A.Dat := .sl 9 (l.map frD)
abbrev tkCs (g : Nat) (k : TK) (gm gt : Nat) (L : List (Nat × CP)) (S : TS) : List Chunk := [cliBlk g k.C.num k.C.last gm gt, cmapC gm L, .ext (listA (callsC L)), .ext (tmA gt S)]
structure TX1 where
  v : Value
  S : TS
  T : TS
structure TX2 where
  i : Nat
  k : TK
  ags : List (Nat × CP)
  L : List (Nat × CP)
  S : TS
  v4 : Value
  v9 : Value
def pC (p : Nat × CP) : List A.Dat := [.v (ptrB p.1)]
structure TX2.ok (C : CS) (now : Int) (D : List CP) (x : TX2) : Prop where
  k : x.k = (D.take x.i).foldl (tickS now) ⟨C, [], []⟩
  t : TkI C x.k (D.drop x.i)
  l : x.L.map (·.2) = x.k.C.calls
  a : x.ags.map (·.2) = x.k.ag
  al : ∀ p ∈ x.ags, p ∈ x.L
  s : x.S.Perm (restT x.k.C (D.drop x.i))
  i : x.i ≤ D.length
  e : x.k.ev.length ≤ x.i
  g : x.k.ag.length ≤ x.i
theorem tick_has {k : TK} {L : List (Nat × CP)} {x : CP} (hC : k.C.ok) (hl : L.map (·.2) = k.C.calls) (hx : x ∈ k.C.calls) : ∃ b a c, aget (cmap L) x.tok = some b ∧ Split L k.C x.tok b x a c := by
  have hx' := hx
  rw [← hl] at hx'
  obtain ⟨p, hp, rfl⟩ := List.mem_map.1 hx'
  have h1 : aget (cmap L) p.2.tok = some p.1 := aget_of_mem (hC.cn hl) (List.mem_map.2 ⟨p, hp, rfl⟩)
  obtain ⟨z, a, c, hs⟩ := split_some hC hl h1
  have : z = p.2 := tok_inj hC hs.i hx hs.tt
  subst this
  exact ⟨p.1, a, c, h1, hs⟩
theorem ent_split {L a c : List (Nat × CP)} {b : Nat} {x : CP} (h : L = a ++ (b, x) :: c) : Ent [.ext (listA (callsC L))] [callBlk b x, .ext (listA (callsC (a ++ c)))] := by
  have e1 : callsC L = callsC a ++ ([callBlk b x] ++ callsC c) := by rw [h]; unfold callsC; rw [List.map_append]; rfl
  have e2 : callsC (a ++ c) = callsC a ++ callsC c := by unfold callsC; rw [List.map_append]
  rw [e1, e2]
  exact ent_focus (callsC a) [callBlk b x] (callsC c)
theorem ent_join (a c : List (Nat × CP)) (b : Nat) (x : CP) : Ent [callBlk b x, .ext (listA (callsC (a ++ c)))] [.ext (listA (callsC (a ++ (b, x) :: c)))] := by
  have e1 : callsC (a ++ (b, x) :: c) = callsC a ++ ([callBlk b x] ++ callsC c) := by unfold callsC; rw [List.map_append]; rfl
  have e2 : callsC (a ++ c) = callsC a ++ callsC c := by unfold callsC; rw [List.map_append]
  rw [e1, e2]
  exact ent_unfocus (callsC a) [callBlk b x] (callsC c)
theorem restT_nd {C : CS} (hC : C.ok) (R : List CP) : ((restT C R).map (·.1)).Nodup := by
  unfold restT due
  rw [List.map_map]
  have h1 : (C.calls.filter fun y => decide (y.tok ∉ R.map (·.tok))).Sublist C.calls := List.filter_sublist
  exact nodup_of_lt (hC.s.sublist (h1.map _))
theorem restT_len (C : CS) (R : List CP) : (restT C R).length ≤ C.calls.length := by
  unfold restT due
  rw [List.length_map]
  exact List.length_filter_le _ _
structure TX3 where
  i : Nat
  v : Value
theorem mem_two {α : Type} {p x : α} {a c : List α} (h : p ∈ a ++ x :: c) (hne : p ≠ x) : p ∈ a ++ c := by
  rcases List.mem_append.1 h with h | h
  · exact List.mem_append.2 (.inl h)
  · rcases List.mem_cons.1 h with h | h
    · exact (hne h).elim
    · exact List.mem_append.2 (.inr h)
theorem take_one {α : Type} {D : List α} {i : Nat} {x : α} (hi : i < D.length) (hx : D[i] = x) : D.take (i + 1) = D.take i ++ [x] := by rw [← hx, List.take_append_getElem hi]
theorem tx2_ags {C : CS} {now : Int} {D : List CP} {i : Nat} {k : TK} {ags L : List (Nat × CP)} {S2 : TS} {v4 v9 : Value} {x : CP} {a c : List (Nat × CP)} {b : Nat} (q : TX2.ok C now D ⟨i, k, ags, L, S2, v4, v9⟩) (hd : D.drop i = x :: D.drop (i + 1)) (hs : Split L k.C x.tok b x a c) : ∀ p ∈ ags, p ∈ a ++ c := fun p hp => by
  have h1 := q.al p hp
  rw [show L = _ from hs.e] at h1
  refine mem_two h1 fun e => ?_
  have h2 : p.2 ∈ k.ag := by have := q.a; dsimp only at this; rw [← this]; exact List.mem_map.2 ⟨p, hp, rfl⟩
  have h3 := (q.t.ag p.2 h2).2
  dsimp only at h3
  rw [hd, e] at h3
  simp at h3
theorem tx2_drop {C : CS} {now : Int} {D : List CP} {i : Nat} {k : TK} {ags L : List (Nat × CP)} {S2 : TS} {v4 v9 : Value} {x : CP} {a c : List (Nat × CP)} {b : Nat} (q : TX2.ok C now D ⟨i, k, ags, L, S2, v4, v9⟩) (hi : i < D.length) (hx : D[i] = x) (hs : Split L k.C x.tok b x a c) (hw : wakeP x ≤ now) {ev : List Evt} (hk : tickS now k x = ⟨k.C.drop x.tok, ev, k.ag⟩) (hev : ev.length ≤ i + 1) (v4' : Value) :
    TX2.ok C now D ⟨i + 1, ⟨k.C.drop x.tok, ev, k.ag⟩, ags, a ++ c, filt x.tok S2, v4', v9⟩ := by
  have hd : D.drop i = x :: D.drop (i + 1) := by rw [← hx]; exact List.drop_eq_getElem_cons hi
  have hal := tx2_ags q hd hs
  obtain ⟨q1, q2, q3, q4, q5, q6, q7, q8, q9⟩ := q
  dsimp only at q1 q2 q3 q4 q5 q6 q7 q8 q9
  rw [hd] at q2 q6
  have hn : x.tok ∉ S2.map (·.1) := fun h => restT_key (C := k.C) (R := x :: D.drop (i + 1)) (x := x) (by simp) ((q6.map (·.1)).mem_iff.1 h)
  refine ⟨?_, hk ▸ tk_step q2 hw, hs.d, q4, hal, ?_, by show i + 1 ≤ D.length; omega, hev, by show k.ag.length ≤ i + 1; omega⟩
  · show _ = List.foldl _ _ (D.take (i + 1))
    rw [take_one hi hx, List.foldl_append, ← q1]
    exact hk.symm
  · show (filt x.tok S2).Perm (restT (k.C.drop x.tok) (D.drop (i + 1)))
    rw [filt_no hn, restT_drop]
    exact q6
theorem tx2_next {C : CS} {now : Int} {D : List CP} {i : Nat} {k : TK} {ags L : List (Nat × CP)} {S2 : TS} {v4 v9 : Value} {x : CP} {a c : List (Nat × CP)} {b : Nat} (q : TX2.ok C now D ⟨i, k, ags, L, S2, v4, v9⟩) (hi : i < D.length) (hx : D[i] = x) (hs : Split L k.C x.tok b x a c) (hw : wakeP x ≤ now) (hk : tickS now k x = ⟨k.C.upd (x.next now), k.ev, k.ag ++ [x.next now]⟩) (v9' : Value) :
    TX2.ok C now D ⟨i + 1, ⟨k.C.upd (x.next now), k.ev, k.ag ++ [x.next now]⟩, ags ++ [(b, x.next now)], a ++ (b, x.next now) :: c, setP S2 x.tok (wakeP (x.next now)), v4, v9'⟩ := by
  have hd : D.drop i = x :: D.drop (i + 1) := by rw [← hx]; exact List.drop_eq_getElem_cons hi
  have hal := tx2_ags q hd hs
  obtain ⟨q1, q2, q3, q4, q5, q6, q7, q8, q9⟩ := q
  dsimp only at q1 q2 q3 q4 q5 q6 q7 q8 q9
  rw [hd] at q2 q6
  have hn : x.tok ∉ S2.map (·.1) := fun h => restT_key (C := k.C) (R := x :: D.drop (i + 1)) (x := x) (by simp) ((q6.map (·.1)).mem_iff.1 h)
  have hR : x.tok ∉ (D.drop (i + 1)).map (·.tok) := fun h => by
    have := q2.nd
    rw [List.map_cons, List.pairwise_cons] at this
    exact Int.lt_irrefl _ (this.1 _ h)
  refine ⟨?_, hk ▸ tk_step q2 hw, ?_, by show (ags ++ [(b, x.next now)]).map _ = k.ag ++ [x.next now]; rw [List.map_append, q4]; rfl, fun p hp => ?_, ?_, by show i + 1 ≤ D.length; omega, by show k.ev.length ≤ i + 1; omega, by show (k.ag ++ [x.next now]).length ≤ i + 1; rw [List.length_append]; show k.ag.length + 1 ≤ _; omega⟩
  · show _ = List.foldl _ _ (D.take (i + 1))
    rw [take_one hi hx, List.foldl_append, ← q1]
    exact hk.symm
  · show (a ++ (b, x.next now) :: c).map (·.2) = (k.C.upd (x.next now)).calls
    have hs2 := q2.ok.pw q3
    rw [hs.e, List.map_append, List.map_cons, List.pairwise_append, List.pairwise_cons] at hs2
    obtain ⟨_, ⟨g1, _⟩, g2⟩ := hs2
    have e1 : ∀ l : List (Nat × CP), (∀ p ∈ l, p.2.tok ≠ x.tok) → (l.map (·.2)).map (fun y : CP => if y.tok = (x.next now).tok then x.next now else y) = l.map (·.2) := fun l hl => by
      refine map_self fun y hy => ?_
      obtain ⟨p, hp, rfl⟩ := List.mem_map.1 hy
      exact if_neg (hl p hp)
    unfold CS.upd
    show _ = k.C.calls.map _
    rw [← q3, hs.e, List.map_append, List.map_append, List.map_append, List.map_cons, List.map_cons, List.map_cons, e1 a, e1 c]
    · congr 1
      congr 1
      exact (if_pos rfl).symm
    · intro p hp e
      have := g1 _ (List.mem_map.2 ⟨p, hp, rfl⟩)
      have : x.tok < p.2.tok := this
      omega
    · intro p hp e
      have := g2 _ (List.mem_map.2 ⟨p, hp, rfl⟩) x.tok (by simp)
      have : p.2.tok < x.tok := this
      omega
  · rcases List.mem_append.1 hp with hp | hp
    · rcases List.mem_append.1 (hal p hp) with h | h
      · exact List.mem_append.2 (.inl h)
      · exact List.mem_append.2 (.inr (List.mem_cons_of_mem _ h))
    · simp at hp
      subst hp
      simp
  · show (setP S2 x.tok (wakeP (x.next now))).Perm (restT (k.C.upd (x.next now)) (D.drop (i + 1)))
    unfold setP
    rw [filt_no hn]
    exact ((q6.cons _).trans (restT_upd (x' := x.next now) q2.ok (q2.sub x (by simp)) rfl hR).symm)
theorem ctick_spec {g h h1 : Nat} {C : CS} {now : Int} (hC : C.ok) (hl1 : C.last < 900000) (h16 : C.calls.length ≤ 16) : FSpec Try.prog 14 [ptrA g h, .v (kI now) h1] [.ext (cliA g C)]
    fun a cs => ∃ C', (C' = (tickP C now).1 ∧ a = .tup [.d (evsD (tickP C now).2.1), .d (frsD (tickP C now).2.2)]) ∧ cs = [.ext (cliA g C')] := by
  refine cl_spec (R := fun a C' => C' = (tickP C now).1 ∧ a = .tup [.d (evsD (tickP C now).2.1), .d (frsD (tickP C now).2.2)]) fun y hy => ?_
  have hn0 := hC.n0
  have hl0 := hC.l0
  have hl2 := hC.l1
  refine a_enter hT [ptrA g 10, .v (kI now) 0] [10, 11, 14, 13] Try.func14 rfl rfl rfl ⟨rfl, rfl, trivial⟩ fun c => ?_
  refine a_callZ hT rfl rfl rfl (by kernel_rfl) none_spec [10] [] [] rfl rfl rfl ⟨rfl, trivial⟩ trivial (by rintro _ _ ⟨rfl, rfl⟩; exact ⟨inferInstance, inferInstance⟩) ?_
  rintro _ _ ⟨rfl, rfl⟩
  refine a_if hT rfl rfl (fun h2 => ?_) (fun h2 => ?_)
  · have h2 := eq_of_beq h2
    (exfalso; first | omega | contradiction)
  · have h2 := ne_of_beq_false h2
    refine a_run hT 7 rfl rfl ?_
    refine a_nilrow 6 30 25 1 rfl rfl ?_
    refine a_loop hT [0, 1, 4, 5, 6] (fun x : TX1 => [ptrA g 10, .v (kI now) 0, .v (.slice none 0 0) 0, .v (.slice none 0 0) 0, .row x.v 30]) (fun x => [(10, cliBlk g C.num C.last y.gm y.gt), (11, cmapC y.gm y.L), (14, .ext (listA (callsC y.L))), (13, .ext (tmA y.gt x.S)), (30, .row x.v 25 1 ((x.T.map (·.1)).map eU))]) (fun x => (x.S ++ x.T).Perm (due C.calls) ∧ ∀ p ∈ x.T, p.2 ≤ now) (fun x => x.S.length) ⟨.slice none 0 0, due C.calls, []⟩ [10, 11, 14, 13, 30] rfl rfl ⟨by simp, by simp⟩ ⟨rfl, rfl, rfl, rfl, rfl, trivial⟩ rfl ⟨⟨rfl, rfl, ⟨rfl, rfl, rfl, rfl, trivial⟩⟩, ⟨rfl, rfl⟩, rfl, rfl, ⟨rfl, rfl, rfl, rfl⟩, trivial⟩ ?_
    rintro ⟨v, S, T⟩ ⟨hp, hT1⟩
    dsimp only at hp hT1 ⊢
    have hkeys : ((S ++ T).map (·.1)).Nodup := ((hp.map (·.1)).nodup_iff).2 hC.dn
    have hlen : S.length + T.length = C.calls.length := by have := hp.length_eq; rw [List.length_append] at this; unfold due at this; rw [List.length_map] at this; exact this
    have hSn : (S.map (·.1)).Nodup := by rw [List.map_append] at hkeys; exact (List.nodup_append.1 hkeys).1
    refine a_call hT rfl rfl rfl (by kernel_rfl) (tnext_spec hSn (by omega)) [13] [13] rfl rfl ?_
    rintro _ _ ⟨S', hr, rfl⟩
    rcases hr with ⟨hm, rfl, rfl⟩ | ⟨p, hm, hle, rfl, rfl⟩
    · have hS : ∀ p ∈ S', now < p.2 := by
        rcases hm with rfl | ⟨q, hq, hq2⟩
        · simp
        · intro p hp
          have := hq.l p hp
          unfold LK at this
          omega
      obtain ⟨k1, k2⟩ := taken_of hC hp hT1 hS
      refine a_t hT rfl rfl rfl ?_
      refine a_rowfact 30 rfl rfl fun hf => ?_
      have hf : (v = .slice none 0 0 ∧ T.map (·.1) = []) ∨ ∃ g cap, v = .slice (some ⟨g, 0, none⟩) (T.map (·.1)).length cap := by
        rcases hf with ⟨h1, h2⟩ | ⟨g, cap, h1⟩
        · exact .inl ⟨h1, by simpa using h2⟩
        · exact .inr ⟨g, cap, by rw [h1]; simp⟩
      have hTl : (T.map (·.1)).length ≤ 16 := by rw [List.length_map]; omega
      have S0 := sort_spec (h := 30) hf hTl
      rw [k1] at S0
      refine a_call hT rfl rfl rfl (by kernel_rfl) S0 [30] [30] rfl rfl ?_
      rintro _ _ rfl
      obtain ⟨D, hD⟩ : ∃ D, dueL C now = D := ⟨_, rfl⟩
      rw [hD] at k1 k2 ⊢
      have hDw : ∀ x ∈ D, wakeP x ≤ now := fun x hx => by rw [← hD] at hx; simpa using (List.mem_filter.1 hx).2
      have hDl : D.length ≤ 16 := by rw [← hD]; exact Nat.le_trans (List.length_filter_le _ _) h16
      have hst := tk_start hC now
      rw [hD] at hst
      refine a_run hT 7 rfl rfl ?_
      refine a_nilrow 4 31 28 6 rfl rfl ?_
      refine a_nilrow 9 32 69 1 rfl rfl ?_
      refine a_loop hT [0, 1, 4, 5, 9, 34, 35, 36] (fun x : TX2 => [ptrA g 10, .v (kI now) 0, .row x.v4 31, .v (.slice none 0 0) 0, .row x.v9 32, .row v 30, .v (kI ((D.map (·.tok)).map eU).length) 0, .v (kI x.i) 0]) (fun x => [(10, cliBlk g C.num C.last y.gm y.gt), (11, cmapC y.gm x.L), (14, .ext (listA (callsC x.L))), (13, .ext (tmA y.gt x.S)), (30, .row v 25 1 ((D.map (·.tok)).map eU)), (31, .row x.v4 28 6 (x.k.ev.map evD)), (32, .row x.v9 69 1 (x.ags.map pC))]) (TX2.ok C now D) (fun x => D.length - x.i) (TX2.mk 0 ⟨C, [], []⟩ [] y.L S' (.slice none 0 0) (.slice none 0 0)) [10, 11, 14, 13, 30, 31, 32] rfl rfl ⟨rfl, hst, hy, rfl, by simp, k2, by simp, by simp, by simp⟩ ⟨rfl, rfl, rfl, rfl, rfl, rfl, rfl, rfl, trivial⟩ rfl ⟨⟨rfl, rfl, ⟨rfl, rfl, rfl, rfl, trivial⟩⟩, ⟨rfl, rfl⟩, rfl, rfl, ⟨rfl, rfl, rfl, rfl⟩, ⟨rfl, rfl, rfl, rfl⟩, ⟨rfl, rfl, rfl, rfl⟩, trivial⟩ ?_
      rintro ⟨i, k, ags, L, S2, v4, v9⟩ hok
      have hq := hok
      obtain ⟨q1, q2, q3, q4, q5, q6, q7, q8, q9⟩ := hok
      dsimp only at q1 q2 q3 q4 q5 q6 q7 q8 q9 ⊢
      have hDlen : (((D.map (·.tok)).map eU).length : Int) = D.length := by simp
      refine a_if hT rfl rfl (fun h4 => ?_) (fun h4 => ?_)
      · have h4 := of_decide_eq_true h4
        have h4 : (i : Int) < (((D.map (·.tok)).map eU).length : Int) := h4
        have hi : i < D.length := by omega
        have hdr : D.drop i = D[i] :: D.drop (i + 1) := List.drop_eq_getElem_cons hi
        rw [hdr] at q2 q6
        obtain ⟨x, hx⟩ : ∃ x, D[i] = x := ⟨_, rfl⟩
        rw [hx] at q2 q6
        have hge : ((D.map (·.tok)).map eU)[i]? = some (eU x.tok) := by rw [List.getElem?_map, List.getElem?_map, List.getElem?_eq_getElem hi, hx]; rfl
        have hxc := q2.sub x (by simp)
        obtain ⟨b, a, c', hres, hs⟩ := tick_has q2.ok q3 hxc
        refine a_rowfact 30 rfl rfl fun hf2 => ?_
        have hf2 : ∃ g cap, v = .slice (some ⟨g, 0, none⟩) ((D.map (·.tok)).map eU).length cap := by
          rcases hf2 with ⟨_, h⟩ | h
          · rw [h] at h4
            simp at h4
            omega
          · exact h
        obtain ⟨g30, cap30, rfl⟩ := hf2
        refine a_rix hT i rfl rfl rfl rfl rfl rfl rfl (by omega) ?_
        refine a_rld hT i 0 (eU x.tok) (.d (.v (kU x.tok))) rfl rfl rfl rfl rfl rfl (by omega) hge rfl ?_
        have hSk : (S2.map (·.1)).Nodup := ((q6.map (·.1)).nodup_iff).2 (restT_nd q2.ok _)
        have hSl : S2.length ≤ 16 := by rw [q6.length_eq]; exact Nat.le_trans (restT_len _ _) (Nat.le_trans q2.len h16)
        have hxo := q2.ok.c x hxc
        have hxw := hDw x (by rw [← hx]; exact List.getElem_mem _)
        have hm := wakeP_due hxo hxw
        have hxd := hxo.d
        have hw1 : IntKind.i64.wrap (x.att + 1) = x.att + 1 := w64 (by have := hxo.a1; omega) (by have := hxo.a2; omega)
        have hw2 : IntKind.i64.wrap ((i : Int) + 1) = ((i + 1 : Nat) : Int) := by rw [w64 (by omega) (by omega)]; omega
        refine a_ent [14] [40, 14] [callBlk b x, .ext (listA (callsC (a ++ c')))] rfl rfl (ent_split hs.e) ?_
        refine a_lookG hT (kv := kU) (va := bV40) _ _ _ rfl rfl rfl mtK kU_ok zeroK rfl rfl rfl rfl rfl (by assumption) ?_
        refine a_if hT rfl rfl (fun h3 => ?_) (fun h3 => ?_)
        · have h3 := of_decide_eq_true h3
          refine a_callF hT rfl rfl rfl (by kernel_rfl) (ccomplete_spec (x := x) (bs := []) hSk (show S2.length < 999999 by omega) (by decide) (h := 10) (h2 := 40) (h3 := 0) (st := 4)) [10, 11, 40, 13] [10, 11, 40, 13] ⟨rfl, rfl, rfl, ⟨rfl, rfl⟩, trivial⟩ rfl ⟨⟨rfl, rfl, ⟨rfl, rfl, rfl, rfl, trivial⟩⟩, ⟨rfl, rfl⟩, ⟨rfl, rfl, ⟨rfl, rfl, rfl, rfl, rfl, rfl, trivial⟩⟩, rfl, trivial⟩ ?_
          rintro _ _ ⟨rfl, rfl⟩
          refine a_lit hT 41 rfl rfl rfl rfl (by kernel_rfl) rfl rfl rfl rfl fun x41 => ?_
          have hk : tickS now k x = ⟨k.C.drop x.tok, k.ev ++ [(⟨3, C.num, x.tok, x.meth, 4, []⟩ : Evt)], k.ag⟩ := by unfold tickS; rw [if_pos h3]; rw [q2.num]
          refine a_app hT 31 ((k.ev ++ [(⟨3, C.num, x.tok, x.meth, 4, []⟩ : Evt)]).map evD) rfl rfl rfl rfl (by kernel_rfl) rfl rfl rfl rfl rfl (by rw [List.map_append]; rfl) (by simp; unfold lim; omega) fun v' => ?_
          refine a_ent [11] [11] [cmapC y.gm (a ++ c')] rfl rfl (by show Ent _ [Chunk.map y.gm (mapG kU bV40 (cmap (a ++ c')))]; rw [← hs.m]; exact Ent.refl _) ?_
          exact a_next hT (TX2.mk (i + 1) ⟨k.C.drop x.tok, k.ev ++ [(⟨3, C.num, x.tok, x.meth, 4, []⟩ : Evt)], k.ag⟩ ags (a ++ c') (filt x.tok S2) v' v9) [10, 11, 14, 13, 30, 31, 32] rfl rfl ⟨tx2_drop hq hi hx hs hxw hk (by rw [List.length_append]; show k.ev.length + 1 ≤ _; omega) v', by show D.length - (i + 1) < D.length - i; omega⟩ ⟨rfl, rfl, rfl, rfl, rfl, rfl, rfl, by show Value.int .i64 _ = Value.int .i64 _; rw [hw2], trivial⟩ rfl ⟨⟨rfl, rfl, ⟨rfl, rfl, rfl, rfl, trivial⟩⟩, ⟨rfl, rfl⟩, rfl, rfl, ⟨rfl, rfl, rfl, rfl⟩, ⟨rfl, rfl, rfl, rfl⟩, ⟨rfl, rfl, rfl, rfl⟩, trivial⟩
        · have h3 := of_decide_eq_false h3
          refine a_if hT rfl rfl (fun h5 => ?_) (fun h5 => ?_)
          · have h5 := eq_of_beq h5
            refine a_callF hT rfl rfl rfl (by kernel_rfl) (ccomplete_spec (x := x) (bs := []) hSk (show S2.length < 999999 by omega) (by decide) (h := 10) (h2 := 40) (h3 := 0) (st := 14)) [10, 11, 40, 13] [10, 11, 40, 13] ⟨rfl, rfl, rfl, ⟨rfl, rfl⟩, trivial⟩ rfl ⟨⟨rfl, rfl, ⟨rfl, rfl, rfl, rfl, trivial⟩⟩, ⟨rfl, rfl⟩, ⟨rfl, rfl, ⟨rfl, rfl, rfl, rfl, rfl, rfl, trivial⟩⟩, rfl, trivial⟩ ?_
            rintro _ _ ⟨rfl, rfl⟩
            refine a_lit hT 41 rfl rfl rfl rfl (by kernel_rfl) rfl rfl rfl rfl fun x41 => ?_
            have hk : tickS now k x = ⟨k.C.drop x.tok, k.ev ++ [(⟨3, C.num, x.tok, x.meth, 14, []⟩ : Evt)], k.ag⟩ := by unfold tickS; rw [if_neg h3, if_pos h5]; rw [q2.num]
            refine a_app hT 31 ((k.ev ++ [(⟨3, C.num, x.tok, x.meth, 14, []⟩ : Evt)]).map evD) rfl rfl rfl rfl (by kernel_rfl) rfl rfl rfl rfl rfl (by rw [List.map_append]; rfl) (by simp; unfold lim; omega) fun v' => ?_
            refine a_ent [11] [11] [cmapC y.gm (a ++ c')] rfl rfl (by show Ent _ [Chunk.map y.gm (mapG kU bV40 (cmap (a ++ c')))]; rw [← hs.m]; exact Ent.refl _) ?_
            exact a_next hT (TX2.mk (i + 1) ⟨k.C.drop x.tok, k.ev ++ [(⟨3, C.num, x.tok, x.meth, 14, []⟩ : Evt)], k.ag⟩ ags (a ++ c') (filt x.tok S2) v' v9) [10, 11, 14, 13, 30, 31, 32] rfl rfl ⟨tx2_drop hq hi hx hs hxw hk (by rw [List.length_append]; show k.ev.length + 1 ≤ _; omega) v', by show D.length - (i + 1) < D.length - i; omega⟩ ⟨rfl, rfl, rfl, rfl, rfl, rfl, rfl, by show Value.int .i64 _ = Value.int .i64 _; rw [hw2], trivial⟩ rfl ⟨⟨rfl, rfl, ⟨rfl, rfl, rfl, rfl, trivial⟩⟩, ⟨rfl, rfl⟩, rfl, rfl, ⟨rfl, rfl, rfl, rfl⟩, ⟨rfl, rfl, rfl, rfl⟩, ⟨rfl, rfl, rfl, rfl⟩, trivial⟩
          · have h5 := ne_of_beq_false h5
            refine a_draw hT [] true [(0, false), (1, false), (2, false), (3, false), (4, false), (5, false), (6, true), (7, true)] rfl rfl (by kernel_rfl) (by kernel_rfl) rfl ?_
            have hk : tickS now k x = ⟨k.C.upd (x.next now), k.ev, k.ag ++ [x.next now]⟩ := by unfold tickS; rw [if_neg h3, if_neg h5]
            have hx1 : (⟨x.tok, x.meth, x.arg, x.dl, IntKind.i64.wrap (x.att + 1), now⟩ : CP) = x.next now := by unfold CP.next; rw [hw1]
            refine a_callZ hT rfl rfl rfl (by kernel_rfl) (cwake_spec (x := ⟨x.tok, x.meth, x.arg, x.dl, IntKind.i64.wrap (x.att + 1), now⟩) (show 0 ≤ now by omega) (show now ≤ 1099511627776 by omega)) [40] [] [] rfl rfl rfl ⟨rfl, trivial⟩ trivial (by rintro _ _ ⟨rfl, rfl⟩; exact ⟨inferInstance, inferInstance⟩) ?_
            rintro _ _ ⟨rfl, rfl⟩
            refine a_callF hT rfl rfl rfl (by kernel_rfl) (tset_spec (h := 13) (h1 := 0) (h2 := 0) (k := x.tok) (d := wakeP ⟨x.tok, x.meth, x.arg, x.dl, IntKind.i64.wrap (x.att + 1), now⟩) hSk (by omega)) [13] [13] ⟨rfl, rfl, rfl, trivial⟩ rfl ⟨rfl, trivial⟩ ?_
            rintro _ _ ⟨S'1, rfl, rfl⟩
            refine a_lit hT 41 rfl rfl rfl rfl (by kernel_rfl) rfl rfl rfl rfl fun x41 => ?_
            refine a_app hT 32 ((ags ++ [(b, x.next now)]).map pC) rfl rfl rfl rfl (by kernel_rfl) rfl rfl rfl rfl rfl (by rw [List.map_append]; rfl) (by simp; have := congrArg List.length q4; rw [List.length_map] at this; unfold lim; omega) fun v' => ?_
            have hcm : cmap L = cmap (a ++ (b, x.next now) :: c') := by rw [hs.e]; unfold cmap; rw [List.map_append, List.map_append]; rfl
            refine a_ent [11] [11] [cmapC y.gm (a ++ (b, x.next now) :: c')] rfl rfl (by show Ent _ [Chunk.map y.gm (mapG kU bV40 (cmap (a ++ (b, x.next now) :: c')))]; rw [← hcm]; exact Ent.refl _) ?_
            refine a_ent [13] [13] [.ext (tmA y.gt (setP S2 x.tok (wakeP (x.next now))))] rfl rfl (by rw [← hx1]; exact Ent.refl _) ?_
            refine a_ent [40, 14] [14] [.ext (listA (callsC (a ++ (b, x.next now) :: c')))] rfl rfl (by show Ent [callBlk b ⟨x.tok, x.meth, x.arg, x.dl, IntKind.i64.wrap (x.att + 1), now⟩, _] _; rw [hx1]; exact ent_join a c' b _) ?_
            exact a_next hT (TX2.mk (i + 1) ⟨k.C.upd (x.next now), k.ev, k.ag ++ [x.next now]⟩ (ags ++ [(b, x.next now)]) (a ++ (b, x.next now) :: c') (setP S2 x.tok (wakeP (x.next now))) v4 v') [10, 11, 14, 13, 30, 31, 32] rfl rfl ⟨tx2_next hq hi hx hs hxw hk v', by show D.length - (i + 1) < D.length - i; omega⟩ ⟨rfl, rfl, rfl, rfl, rfl, rfl, rfl, by show Value.int .i64 _ = Value.int .i64 _; rw [hw2], trivial⟩ rfl ⟨⟨rfl, rfl, ⟨rfl, rfl, rfl, rfl, trivial⟩⟩, ⟨rfl, rfl⟩, rfl, rfl, ⟨rfl, rfl, rfl, rfl⟩, ⟨rfl, rfl, rfl, rfl⟩, ⟨rfl, rfl, rfl, rfl⟩, trivial⟩
      · have h4 := of_decide_eq_false h4
        have h4 : ¬ (i : Int) < (((D.map (·.tok)).map eU).length : Int) := h4
        have hiD : i = D.length := by omega
        subst hiD
        rw [List.take_length] at q1
        rw [List.drop_length] at q2 q6
        have hkT : k = tickT C now := by unfold tickT; rw [hD]; exact q1
        have hagl : ags.length = k.ag.length := by rw [← q4, List.length_map]
        rw [restT_nil] at q6
        refine a_run hT 2 rfl rfl ?_
        refine a_nilrow 5 33 30 9 rfl rfl ?_
        refine a_loop hT [0, 4, 5, 96, 97, 98] (fun x : TX3 => [ptrA g 10, .row v4 31, .row x.v 33, .row v9 32, .v (kI (ags.map pC).length) 0, .v (kI x.i) 0]) (fun x => [(10, cliBlk g C.num C.last y.gm y.gt), (11, cmapC y.gm L), (14, .ext (listA (callsC L))), (13, .ext (tmA y.gt S2)), (31, .row v4 28 6 (k.ev.map evD)), (32, .row v9 69 1 (ags.map pC)), (33, .row x.v 30 9 (((k.ag.take x.i).map k.C.frame).map frD))]) (fun x => x.i ≤ k.ag.length) (fun x => k.ag.length - x.i) (TX3.mk 0 (.slice none 0 0)) [10, 11, 14, 13, 31, 32, 33] rfl rfl (Nat.zero_le _) ⟨rfl, rfl, rfl, rfl, rfl, rfl, trivial⟩ rfl ⟨⟨rfl, rfl, ⟨rfl, rfl, rfl, rfl, trivial⟩⟩, ⟨rfl, rfl⟩, rfl, rfl, ⟨rfl, rfl, rfl, rfl⟩, ⟨rfl, rfl, rfl, rfl⟩, ⟨rfl, rfl, rfl, rfl⟩, trivial⟩ ?_
        rintro ⟨j, v5⟩ hj
        dsimp only at hj ⊢
        have hpl : (((ags.map pC).length : Nat) : Int) = k.ag.length := by rw [List.length_map, hagl]
        refine a_if hT rfl rfl (fun h5 => ?_) (fun h5 => ?_)
        · have h5 := of_decide_eq_true h5
          have h5 : (j : Int) < ((ags.map pC).length : Int) := h5
          have hj1 : j < ags.length := by omega
          obtain ⟨p, hp⟩ : ∃ p, ags[j] = p := ⟨_, rfl⟩
          have hge : (ags.map pC)[j]? = some (pC p) := by rw [List.getElem?_map, List.getElem?_eq_getElem hj1, hp]; rfl
          have hpm : p ∈ L := q5 p (by rw [← hp]; exact List.getElem_mem _)
          obtain ⟨a, c', hs⟩ := List.append_of_mem hpm
          obtain ⟨b, x⟩ := p
          have hxa : x ∈ k.C.calls := by rw [← q3]; exact List.mem_map.2 ⟨(b, x), hpm, rfl⟩
          have hxo := q2.ok.c x hxa
          have hgx : k.ag[j]? = some x := by rw [← q4, List.getElem?_map, List.getElem?_eq_getElem hj1, hp]; rfl
          refine a_rowfact 32 rfl rfl fun hf2 => ?_
          have hf2 : ∃ g cap, v9 = .slice (some ⟨g, 0, none⟩) (ags.map pC).length cap := by
            rcases hf2 with ⟨_, h⟩ | h
            · rw [h] at h5
              simp at h5
              omega
            · exact h
          obtain ⟨g32, cap32, rfl⟩ := hf2
          have hw2 : IntKind.i64.wrap ((j : Int) + 1) = ((j + 1 : Nat) : Int) := by rw [w64 (by omega) (by omega)]; omega
          refine a_rix hT j rfl rfl rfl rfl rfl rfl rfl (by omega) ?_
          refine a_rld hT j 0 (pC (b, x)) (.d (.v (ptrB b))) rfl rfl rfl rfl rfl rfl (by omega) hge rfl ?_
          refine a_as 101 (b := .v (ptrB b) 40) rfl rfl ?_
          refine a_ent [14] [40, 14] [callBlk b x, .ext (listA (callsC (a ++ c')))] rfl rfl (ent_split hs) ?_
          have hle : ∀ p ∈ L, p.2.tok ≤ C.last := by rw [← q2.last]; exact q2.ok.le q3
          refine a_callZ hT rfl rfl rfl (by kernel_rfl) (cframe_spec (num := C.num) (last := C.last) (gm := y.gm) (gt := y.gt) (L := L) (x := x) hn0 (q2.ok.pw q3) hle hl0 hl2 (show x.arg.length ≤ lim from Nat.le_trans hxo.a (by decide))) [10, 40] [11] [11, 1] rfl rfl rfl ⟨rfl, rfl, trivial⟩ ⟨⟨rfl, rfl⟩, trivial⟩ (by rintro _ _ ⟨v1, rfl, rfl⟩; exact ⟨inferInstance, inferInstance⟩) ?_
          rintro _ _ ⟨v1, rfl, rfl⟩
          refine a_freezeA 105 8 1 rfl rfl rfl rfl rfl ?_
          have hfl : floorP C.last L = k.C.fl := by rw [← q2.last]; exact CS.fl_eq q3
          have hxf : frameP C.num C.last L x = k.C.frame x := by unfold frameP CS.frame; rw [hfl, q2.num]
          have htk : k.ag.take (j + 1) = k.ag.take j ++ [x] := by obtain ⟨h1, h2⟩ := List.getElem?_eq_some_iff.1 hgx; exact take_one h1 h2
          refine a_lit hT 41 rfl rfl rfl rfl (by kernel_rfl) rfl rfl rfl rfl fun x41 => ?_
          refine a_app hT 33 (((k.ag.take (j + 1)).map k.C.frame).map frD) rfl rfl rfl rfl (by kernel_rfl) rfl rfl rfl rfl rfl (by rw [htk, List.map_append, List.map_append]; show _ = _ ++ [frD (k.C.frame x)]; rw [← hxf]; rfl) (by simp; unfold lim; omega) fun v' => ?_
          refine a_ent [40, 14] [14] [.ext (listA (callsC L))] rfl rfl (by rw [hs]; exact ent_join a c' b x) ?_
          exact a_next hT (TX3.mk (j + 1) v') [10, 11, 14, 13, 31, 32, 33] rfl rfl ⟨by show j + 1 ≤ k.ag.length; omega, by show k.ag.length - (j + 1) < k.ag.length - j; omega⟩ ⟨rfl, rfl, rfl, rfl, rfl, by show Value.int .i64 _ = Value.int .i64 _; rw [hw2], trivial⟩ rfl ⟨⟨rfl, rfl, ⟨rfl, rfl, rfl, rfl, trivial⟩⟩, ⟨rfl, rfl⟩, rfl, rfl, ⟨rfl, rfl, rfl, rfl⟩, ⟨rfl, rfl, rfl, rfl⟩, ⟨rfl, rfl, rfl, rfl⟩, trivial⟩
        · have h5 := of_decide_eq_false h5
          have h5 : ¬ (j : Int) < ((ags.map pC).length : Int) := h5
          have htk : k.ag.take j = k.ag := List.take_of_length_le (by omega)
          rw [htk]
          refine a_freeze 4 31 rfl rfl rfl rfl ?_
          refine a_freeze 5 33 rfl rfl rfl rfl ?_
          refine a_ret hT [10, 11, 14, 13] rfl rfl rfl rfl rfl rfl ?_
          refine ⟨_, CX.cs g k.C ⟨y.gm, y.gt, L⟩, k.C, Fit.refl _, ?_, cl_pack q3, by rw [hkT]; rfl, by rw [hkT]; rfl⟩
          show Ent _ [cliBlk g k.C.num k.C.last y.gm y.gt, _, _, _]
          rw [q2.num, q2.last]
          exact Ent.cons _ (Ent.cons _ (Ent.cons _ (tm_perm q6)))
    · refine a_f hT rfl rfl rfl ?_
      refine a_lit hT 31 rfl rfl rfl rfl (by kernel_rfl) rfl rfl rfl rfl fun x31 => ?_
      have hpp := List.perm_cons_erase hm.m
      obtain ⟨f1, f2⟩ := filt_one (k := p.1) (v := p.2) hpp hSn
      have hpl := hpp.length_eq
      rw [List.length_cons] at hpl
      have hfl := f1.length_eq
      refine a_app hT 30 (((T ++ [p]).map (·.1)).map eU) rfl rfl rfl rfl (by kernel_rfl) rfl rfl rfl rfl rfl (by simp [eU]) (by simp; unfold lim; omega) fun v' => ?_
      refine a_next hT (TX1.mk v' (filt p.1 S) (T ++ [p])) [10, 11, 14, 13, 30] rfl rfl ⟨⟨?_, ?_⟩, by show (filt p.1 S).length < S.length; omega⟩ ⟨rfl, rfl, rfl, rfl, rfl, trivial⟩ rfl ⟨⟨rfl, rfl, ⟨rfl, rfl, rfl, rfl, trivial⟩⟩, ⟨rfl, rfl⟩, rfl, rfl, ⟨rfl, rfl, rfl, rfl⟩, trivial⟩
      · show (filt p.1 S ++ (T ++ [p])).Perm _
        refine List.Perm.trans ?_ hp
        refine List.Perm.trans ?_ (List.Perm.append_right T hpp.symm)
        rw [← List.append_assoc]
        refine List.perm_append_comm.trans ?_
        show (p :: (filt p.1 S ++ T)).Perm (p :: (S.erase p ++ T))
        exact (List.Perm.append_right T f1).cons p
      · intro q hq
        rcases List.mem_append.1 hq with h | h
        · exact hT1 q h
        · simp at h; subst h; exact hle
end Go.Proofs.Ytepjnmocepkfjaa
end

section
/- Layer 23's client, plainly: floors never fall; frames are formed; few calls are open. -/
set_option linter.unusedVariables false
set_option linter.unusedSimpArgs false
set_option maxRecDepth 100000
namespace Go.Proofs.Ytepjnmocepkfjaa
open V A
theorem fl_ge {C : CS} {m : Int} (h1 : m ≤ C.last + 1) (h2 : ∀ x ∈ C.calls, m ≤ x.tok) : m ≤ C.fl := by
  unfold CS.fl
  cases h : C.calls with
  | nil => exact h1
  | cons x l => exact h2 x (by rw [h]; simp)
theorem CS.ok.fl_le {C : CS} (hC : C.ok) {x : CP} (hx : x ∈ C.calls) : C.fl ≤ x.tok := by
  have hs := hC.s
  unfold CS.fl
  cases h : C.calls with
  | nil => rw [h] at hx; simp at hx
  | cons y l =>
    rw [h] at hx hs
    rw [List.map_cons, List.pairwise_cons] at hs
    rcases List.mem_cons.1 hx with rfl | hx
    · exact Int.le_refl _
    · have := hs.1 x.tok (List.mem_map.2 ⟨x, hx, rfl⟩)
      show y.tok ≤ x.tok
      omega
theorem drop_fl {C : CS} (hC : C.ok) (t : Int) : C.fl ≤ (C.drop t).fl :=
  fl_ge hC.fl1.2 fun x hx => hC.fl_le (List.mem_filter.1 hx).1
theorem upd_fl (C : CS) (x : CP) : (C.upd x).fl = C.fl := by
  unfold CS.fl CS.upd
  cases C.calls with
  | nil => rfl
  | cons y l =>
    show (if y.tok = x.tok then x else y).tok = y.tok
    split
    · rename_i h; exact h.symm
    · rfl
theorem tickS_fl {C : CS} {k : TK} {x : CP} {R : List CP} {now : Int} (h : TkI C k (x :: R)) : k.C.fl ≤ (tickS now k x).C.fl := by
  unfold tickS
  split
  · exact drop_fl h.ok _
  split
  · exact drop_fl h.ok _
  · exact Int.le_of_eq (upd_fl _ _).symm
theorem tk_fl {C : CS} {now : Int} : ∀ {R : List CP} {k : TK}, TkI C k R → (∀ x ∈ R, wakeP x ≤ now) → k.C.fl ≤ (R.foldl (tickS now) k).C.fl
  | [], k, h, _ => Int.le_refl _
  | x :: R, k, h, hw => by
    rw [List.foldl_cons]
    exact Int.le_trans (tickS_fl h) (tk_fl (tk_step h (hw x (by simp))) fun y hy => hw y (by simp [hy]))
theorem tk_len {now : Int} : ∀ {R : List CP} {k : TK}, (R.foldl (tickS now) k).ag.length ≤ k.ag.length + R.length ∧ (R.foldl (tickS now) k).ev.length ≤ k.ev.length + R.length
  | [], k => ⟨Nat.le_refl _, Nat.le_refl _⟩
  | x :: R, k => by
    rw [List.foldl_cons]
    have ih := tk_len (now := now) (R := R) (k := tickS now k x)
    have h1 : (tickS now k x).ag.length ≤ k.ag.length + 1 ∧ (tickS now k x).ev.length ≤ k.ev.length + 1 := by
      unfold tickS
      split
      · simp
      split
      · simp
      · simp
    rw [List.length_cons]
    omega
theorem due_le (C : CS) (now : Int) : (dueL C now).length ≤ C.calls.length := List.length_filter_le _ _
theorem due_w {C : CS} {now : Int} : ∀ x ∈ dueL C now, wakeP x ≤ now := fun x hx => by simpa using (List.mem_filter.1 hx).2
theorem tickT_i {C : CS} (hC : C.ok) (now : Int) : TkI C (tickT C now) [] := tk_fold (tk_start hC now) due_w
/-- A call's frame is formed. -/
theorem frame_formed {C : CS} (hC : C.ok) {x : CP} (hx : x ∈ C.calls) (h1 : 1 ≤ C.num) (h2 : C.num ≤ 2147483647) : formedR (C.frame x) := by
  have ho := hC.c x hx
  obtain ⟨a1, a2, a3, a4, a5, a6, a7, a8, a9, a10⟩ := ho
  have h3 := hC.fl1
  have h4 := hC.fl_le hx
  unfold formedR CS.frame
  dsimp only
  refine ⟨by omega, by omega, by omega, by omega, by omega, by omega, by omega, by omega, a5, by omega, by omega⟩
theorem tick_frames {C : CS} (hC : C.ok) (now : Int) (h1 : 1 ≤ C.num) (h2 : C.num ≤ 2147483647) : ∀ f ∈ (tickP C now).2.2, formedR f ∧ f.floor = (tickP C now).1.fl := fun f hf => by
  obtain ⟨x, hx, rfl⟩ := List.mem_map.1 hf
  have hi := tickT_i hC now
  exact ⟨frame_formed hi.ok (hi.ag x hx).1 (by rw [hi.num]; exact h1) (by rw [hi.num]; exact h2), rfl⟩
theorem tick_fl {C : CS} (hC : C.ok) (now : Int) : C.fl ≤ (tickP C now).1.fl := tk_fl (tk_start hC now) due_w
theorem tick_few {C : CS} (now : Int) : (tickP C now).2.2.length ≤ C.calls.length ∧ (tickP C now).2.1.length ≤ C.calls.length := by
  have h1 := tk_len (now := now) (R := dueL C now) (k := ⟨C, [], []⟩)
  have h2 := due_le C now
  simp only [List.length_nil] at h1
  refine ⟨?_, ?_⟩
  · show ((tickT C now).ag.map _).length ≤ _
    rw [List.length_map]
    unfold tickT
    omega
  · show (tickT C now).ev.length ≤ _
    unfold tickT
    omega
theorem call_fl {C : CS} (hC : C.ok) (meth : Int) (arg : List UInt8) (dl now : Int) : C.fl ≤ (callP C meth arg dl now).1.fl := by
  have h1 := hC.fl1
  unfold callP
  split
  · exact Int.le_refl _
  split
  · exact Int.le_refl _
  split
  · exact Int.le_refl _
  · refine fl_ge (by show C.fl ≤ C.last + 1 + 1; omega) fun x hx => ?_
    rcases List.mem_append.1 hx with hx | hx
    · exact hC.fl_le hx
    · simp at hx; subst hx; exact h1.2
theorem call_len {C : CS} (hC : C.ok) (h16 : C.calls.length ≤ 16) (meth : Int) (arg : List UInt8) (dl now : Int) : (callP C meth arg dl now).1.calls.length ≤ 16 := by
  unfold callP
  split
  · exact h16
  split
  · exact h16
  split
  · exact h16
  · rename_i h
    show (C.calls ++ [_]).length ≤ 16
    rw [List.length_append]
    have h1 := hC.fl1
    have := rise_len (a := C.fl - 1) (b := C.last) hC.s (fun x hx => by
      obtain ⟨y, hy, rfl⟩ := List.mem_map.1 hx
      have := hC.fl_le hy
      have := (hC.c y hy).t2
      omega)
    rcases this with h | h
    · rw [List.length_map] at h
      simp
      omega
    · have : C.calls = [] := by simpa using h
      rw [this]; simp
theorem call_frame {C : CS} (hC : C.ok) (meth : Int) (arg : List UInt8) (dl now : Int) (hl : C.last < 900000) (h1 : 1 ≤ C.num) (h2 : C.num ≤ 2147483647) (h : (callP C meth arg dl now).2.2.2 = 0) : formedR (callP C meth arg dl now).2.2.1 ∧ (callP C meth arg dl now).2.2.1.floor = (callP C meth arg dl now).1.fl := by
  have hk := (callP_ok hC hl meth arg dl now).1
  revert h hk
  unfold callP
  split
  · intro h; exact absurd h (show ¬ (1 : Int) = 0 by decide)
  split
  · intro h; exact absurd h (show ¬ (3 : Int) = 0 by decide)
  split
  · intro h; exact absurd h (show ¬ (14 : Int) = 0 by decide)
  · intro _ hk
    dsimp only at hk ⊢
    have hh : formedR (CS.frame ⟨C.num, C.last + 1, C.calls ++ [⟨C.last + 1, meth, arg, dl, 0, now⟩]⟩ ⟨C.last + 1, meth, arg, dl, 0, now⟩) := frame_formed hk (by simp) h1 h2
    exact ⟨hh, rfl⟩
theorem cancel_fl {C : CS} (hC : C.ok) (t : Int) : C.fl ≤ (cancelP C t).1.fl := by
  unfold cancelP
  split
  · exact Int.le_refl _
  · exact drop_fl hC t
theorem cancel_len {C : CS} (t : Int) : (cancelP C t).1.calls.length ≤ C.calls.length := by
  unfold cancelP
  split
  · exact Nat.le_refl _
  · exact List.length_filter_le _ _
theorem cancel_frame {C : CS} (hC : C.ok) (t : Int) (h1 : 1 ≤ C.num) (h2 : C.num ≤ 2147483647) (h : (cancelP C t).2.2.2 = true) : formedR (cancelP C t).2.2.1 ∧ (cancelP C t).2.2.1.floor = C.fl := by
  revert h
  unfold cancelP
  cases hf : C.find t with
  | none => intro h; exact absurd h (show ¬ false = true by decide)
  | some x =>
    intro _
    have hm := List.mem_of_find?_eq_some hf
    have ht : x.tok = t := by simpa using List.find?_some hf
    have ho := hC.c x hm
    obtain ⟨a1, a2, a3, a4, a5, a6, a7, a8, a9, a10⟩ := ho
    have h3 := hC.fl1
    have h4 := hC.fl_le hm
    refine ⟨?_, rfl⟩
    unfold formedR
    dsimp only
    refine ⟨by omega, by omega, by omega, by omega, by omega, by omega, by omega, by omega, by simp, by simp, by omega⟩
theorem take_fl {C : CS} (hC : C.ok) (f : Fr) : C.fl ≤ (takeP C f).1.fl := by
  unfold takeP
  split
  · exact Int.le_refl _
  split
  · exact Int.le_refl _
  split
  · exact Int.le_refl _
  · exact drop_fl hC _
theorem take_len {C : CS} (f : Fr) : (takeP C f).1.calls.length ≤ C.calls.length := by
  unfold takeP
  split
  · exact Nat.le_refl _
  split
  · exact Nat.le_refl _
  split
  · exact Nat.le_refl _
  · exact List.length_filter_le _ _
end Go.Proofs.Ytepjnmocepkfjaa
end

section
/- Layer 23's client, plainly: what completes is gone, and completes once. -/
set_option linter.unusedVariables false
set_option linter.unusedSimpArgs false
set_option maxRecDepth 100000
namespace Go.Proofs.Ytepjnmocepkfjaa
open V A
structure EvI (C C' : CS) (evs : List Evt) : Prop where
  k : ∀ e ∈ evs, e.kind = 3 ∧ e.token ∈ C.calls.map (·.tok)
  n : (evs.map (·.token)).Nodup
  o : ∀ e ∈ evs, e.token ∉ C'.calls.map (·.tok)
  s : ∀ t ∈ C'.calls.map (·.tok), t ∈ C.calls.map (·.tok)
  l : evs.length + C'.calls.length = C.calls.length
theorem EvI.refl (C : CS) : EvI C C [] := ⟨by simp, by simp, by simp, fun t h => h, by simp⟩
theorem drop_len {C : CS} (hC : C.ok) {x : CP} (hx : x ∈ C.calls) : (C.drop x.tok).calls.length + 1 = C.calls.length := by
  obtain ⟨a, c, e⟩ := List.append_of_mem hx
  have hs := nodup_of_lt hC.s
  rw [e, List.map_append, List.map_cons, List.nodup_append] at hs
  obtain ⟨h1, h2, h3⟩ := hs
  rw [List.nodup_cons] at h2
  have ha : ∀ y ∈ a, y.tok ≠ x.tok := fun y hy => h3 _ (List.mem_map.2 ⟨y, hy, rfl⟩) _ (by simp)
  have hc : ∀ y ∈ c, y.tok ≠ x.tok := fun y hy e => h2.1 (List.mem_map.2 ⟨y, hy, e⟩)
  unfold CS.drop
  dsimp only
  rw [e, List.filter_append, List.filter_cons_of_neg (by simp), List.filter_eq_self.2 fun y hy => by simpa using ha y hy, List.filter_eq_self.2 fun y hy => by simpa using hc y hy]
  simp only [List.length_append, List.length_cons]
  omega
theorem EvI.drop {C C1 : CS} {evs : List Evt} (h : EvI C C1 evs) (h1 : C1.ok) {x : CP} (hx : x ∈ C1.calls) {e : Evt} (hk : e.kind = 3) (ht : e.token = x.tok) : EvI C (C1.drop x.tok) (evs ++ [e]) := by
  have hxm : x.tok ∈ C1.calls.map (·.tok) := List.mem_map.2 ⟨x, hx, rfl⟩
  have hsub : ∀ t, t ∈ (C1.drop x.tok).calls.map (·.tok) → t ∈ C1.calls.map (·.tok) ∧ t ≠ x.tok := fun t h => by
    obtain ⟨y, hy, rfl⟩ := List.mem_map.1 h
    obtain ⟨hy1, hy2⟩ := List.mem_filter.1 hy
    exact ⟨List.mem_map.2 ⟨y, hy1, rfl⟩, by simpa using hy2⟩
  refine ⟨fun q hq => ?_, ?_, fun q hq => ?_, fun t ht => h.s t (hsub t ht).1, ?_⟩
  · rcases List.mem_append.1 hq with hq | hq
    · exact h.k q hq
    · simp at hq; subst hq; exact ⟨hk, by rw [ht]; exact h.s _ hxm⟩
  · rw [List.map_append, List.nodup_append]
    refine ⟨h.n, by simp, fun t ht1 t2 ht2 => ?_⟩
    obtain ⟨q, hq, rfl⟩ := List.mem_map.1 ht1
    simp at ht2
    subst ht2
    intro e1
    exact h.o q hq (by rw [e1, ht]; exact hxm)
  · rcases List.mem_append.1 hq with hq | hq
    · exact fun hm => h.o q hq (hsub _ hm).1
    · simp at hq; subst hq
      exact fun hm => (hsub _ hm).2 ht
  · have := drop_len h1 hx
    have := h.l
    rw [List.length_append]
    simp only [List.length_cons, List.length_nil]
    omega
theorem EvI.upd {C C1 : CS} {evs : List Evt} (h : EvI C C1 evs) (x : CP) : EvI C (C1.upd x) evs := by
  refine ⟨h.k, h.n, fun q hq => by rw [upd_toks]; exact h.o q hq, fun t ht => by rw [upd_toks] at ht; exact h.s t ht, ?_⟩
  have : (C1.upd x).calls.length = C1.calls.length := by unfold CS.upd; rw [List.length_map]
  rw [this]
  exact h.l
theorem tick_evi_step {C : CS} {k : TK} {x : CP} {R : List CP} {now : Int} (h : TkI C k (x :: R)) (he : EvI C k.C k.ev) : EvI C (tickS now k x).C (tickS now k x).ev := by
  have hx := h.sub x (by simp)
  unfold tickS
  split
  · exact he.drop h.ok hx rfl rfl
  split
  · exact he.drop h.ok hx rfl rfl
  · exact he.upd _
theorem tick_evi_fold {C : CS} {now : Int} : ∀ {R : List CP} {k : TK}, TkI C k R → (∀ x ∈ R, wakeP x ≤ now) → EvI C k.C k.ev → EvI C (R.foldl (tickS now) k).C (R.foldl (tickS now) k).ev
  | [], k, _, _, he => he
  | x :: R, k, h, hw, he => by
    rw [List.foldl_cons]
    exact tick_evi_fold (tk_step h (hw x (by simp))) (fun y hy => hw y (by simp [hy])) (tick_evi_step h he)
theorem tick_evi {C : CS} (hC : C.ok) (now : Int) : EvI C (tickP C now).1 (tickP C now).2.1 := tick_evi_fold (tk_start hC now) due_w (EvI.refl C)
theorem cancel_evi {C : CS} (hC : C.ok) (t : Int) : EvI C (cancelP C t).1 (if (cancelP C t).2.2.2 then [(cancelP C t).2.1] else []) := by
  unfold cancelP
  cases hf : C.find t with
  | none => exact EvI.refl C
  | some x =>
    have hm := List.mem_of_find?_eq_some hf
    have ht : x.tok = t := by simpa using List.find?_some hf
    have := (EvI.refl C).drop hC hm (e := ⟨3, C.num, t, x.meth, 1, []⟩) rfl ht.symm
    rw [ht] at this
    exact this
theorem take_evi {C : CS} (hC : C.ok) (f : Fr) : EvI C (takeP C f).1 (if (takeP C f).2.2 then [(takeP C f).2.1] else []) := by
  unfold takeP
  split
  · exact EvI.refl C
  cases hf : C.find f.token with
  | none => exact EvI.refl C
  | some x =>
    have hm := List.mem_of_find?_eq_some hf
    have ht : x.tok = f.token := by simpa using List.find?_some hf
    dsimp only
    split
    · exact EvI.refl C
    · have := (EvI.refl C).drop hC hm (e := ⟨3, C.num, f.token, x.meth, f.status, f.pay⟩) rfl ht.symm
      rw [ht] at this
      exact this
end Go.Proofs.Ytepjnmocepkfjaa
end

section
/- The document's Delay and When. -/
set_option linter.unusedVariables false
set_option linter.unusedSimpArgs false
set_option maxRecDepth 100000
namespace Go.Proofs.Ytepjnmocepkfjaa
open V A
theorem delayP_step {i : Nat} (h : i + 1 < 6) : (if 32 < 2 * delayP i then 32 else 2 * delayP i) = delayP ((i + 1 : Nat) : Int) := by
  have : i = 0 ∨ i = 1 ∨ i = 2 ∨ i = 3 ∨ i = 4 := by omega
  rcases this with rfl | rfl | rfl | rfl | rfl <;> decide
def whenP : Nat → Int
  | 0 => 0
  | k + 1 => whenP k + delayP k
theorem whenP_le : ∀ (k : Nat), 0 ≤ whenP k ∧ whenP k ≤ 32 * k
  | 0 => by unfold whenP; omega
  | k + 1 => by
    have := whenP_le k
    have := delayP_le k
    unfold whenP
    omega
theorem refdelay_spec {k h : Nat} (hk : k < 6) : FSpec Try.prog 35 [.v (kI k) h] [] fun a cs => a = .v (kI (delayP k)) 0 ∧ cs = [] := by
  refine a_enter hT [.v (kI k) 0] [] Try.func35 rfl rfl rfl ⟨rfl, trivial⟩ fun c => ?_
  refine a_gf hT rfl rfl rfl rfl ?_
  refine a_if hT rfl rfl (fun h1 => ?_) (fun h1 => ?_)
  · have h1 := of_decide_eq_true h1
    (exfalso; first | omega | contradiction)
  · have h1 := of_decide_eq_false h1
    refine a_loop hT [3, 10, 11] (fun i : Nat => [.v (kI (delayP i)) 0, .v (kI k) 0, .v (kI i) 0]) (fun _ => []) (fun i => i ≤ k) (fun i => k - i) 0 [] rfl rfl (Nat.zero_le _) ⟨rfl, rfl, rfl, trivial⟩ rfl trivial ?_
    intro i hi
    have hd := delayP_le i
    have hw : IntKind.i64.wrap ((i : Int) + 1) = ((i + 1 : Nat) : Int) := by rw [w64 (by omega) (by omega)]; omega
    have hw2 : IntKind.i64.wrap (2 * delayP i) = 2 * delayP i := w64 (by omega) (by omega)
    refine a_if hT rfl rfl (fun h2 => ?_) (fun h2 => ?_)
    · have h2 := of_decide_eq_true h2
      exact a_next hT (i + 1) [] rfl rfl ⟨by show i + 1 ≤ k; omega, by show k - (i + 1) < k - i; omega⟩ ⟨by show Value.int .i64 _ = Value.int .i64 _; rw [hw2, delayP_step (by omega)], rfl, by show Value.int .i64 _ = Value.int .i64 _; rw [hw], trivial⟩ rfl trivial
    · have h2 := of_decide_eq_false h2
      refine a_ret hT [] rfl rfl rfl rfl rfl rfl ?_
      have e : i = k := by omega
      subst e
      exact ⟨rfl, rfl⟩
theorem refwhen_spec {k h : Nat} (hk : k < 7) : FSpec Try.prog 15 [.v (kI k) h] [] fun a cs => a = .v (kI (whenP k)) 0 ∧ cs = [] := by
  refine a_enter hT [.v (kI k) 0] [] Try.func15 rfl rfl rfl ⟨rfl, trivial⟩ fun c => ?_
  refine a_gf hT rfl rfl rfl rfl ?_
  refine a_if hT rfl rfl (fun h1 => ?_) (fun h1 => ?_)
  · have h1 := of_decide_eq_true h1
    (exfalso; first | omega | contradiction)
  · have h1 := of_decide_eq_false h1
    refine a_loop hT [3, 11, 12] (fun i : Nat => [.v (kI (whenP i)) 0, .v (kI k) 0, .v (kI i) 0]) (fun _ => []) (fun i => i ≤ k) (fun i => k - i) 0 [] rfl rfl (Nat.zero_le _) ⟨rfl, rfl, rfl, trivial⟩ rfl trivial ?_
    intro i hi
    have hd := whenP_le i
    have hd2 := delayP_le i
    have hw : IntKind.i64.wrap ((i : Int) + 1) = ((i + 1 : Nat) : Int) := by rw [w64 (by omega) (by omega)]; omega
    have hw2 : IntKind.i64.wrap (whenP i + delayP i) = whenP i + delayP i := w64 (by omega) (by omega)
    refine a_if hT rfl rfl (fun h2 => ?_) (fun h2 => ?_)
    · have h2 := of_decide_eq_true h2
      refine a_call hT rfl rfl rfl (by kernel_rfl) (refdelay_spec (k := i) (h := 0) (by omega)) [] [] rfl rfl ?_
      rintro _ _ ⟨rfl, rfl⟩
      exact a_next hT (i + 1) [] rfl rfl ⟨by show i + 1 ≤ k; omega, by show k - (i + 1) < k - i; omega⟩ ⟨by show Value.int .i64 _ = Value.int .i64 _; rw [hw2]; rfl, rfl, by show Value.int .i64 _ = Value.int .i64 _; rw [hw], trivial⟩ rfl trivial
    · have h2 := of_decide_eq_false h2
      refine a_ret hT [] rfl rfl rfl rfl rfl rfl ?_
      have e : i = k := by omega
      subst e
      exact ⟨rfl, rfl⟩
end Go.Proofs.Ytepjnmocepkfjaa
end
