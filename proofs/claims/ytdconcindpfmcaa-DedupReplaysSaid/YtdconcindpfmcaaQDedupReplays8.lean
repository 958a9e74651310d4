import Derived.Test.YtdconcindpfmcaaQDedupReplays7
import Derived.Test.YtdconcindpfmcaaQDedupReplays5
import Derived.Sort.Defs
import Derived.Sort.AssemblyPlain
import Derived.Test.YtdconcindpfmcaaQDedupReplays6
section
/- Rows of numbers, as arrays: read, written. -/
set_option linter.unusedVariables false
set_option linter.unusedSectionVars false
set_option linter.unusedSimpArgs false
set_option maxRecDepth 100000
namespace Go.Proofs.Ytdconcindpfmcaa
open V A
def eU (n : Int) : List A.Dat := [.v (kU n)]
abbrev rowU (v : Value) (d : Array Int) : Chunk := .row v 43 1 (d.toList.map eU)
abbrev slV (g : Nat) (d : Array Int) (cap : Nat) : Value := .slice (some ⟨g, 0, none⟩) d.size cap
theorem eU_at {d : Array Int} {i : Nat} (h : i < d.size) : (d.toList.map eU)[i]? = some (eU d[i]!) := by
  rw [List.getElem?_map, Array.getElem?_toList, getElem!_pos d i h, Array.getElem?_eq_getElem h]; rfl
theorem eU_set {d : Array Int} {i : Nat} (x : Int) : (d.toList.map eU).set i (eU x) = ((d.setIfInBounds i x).toList.map eU) := by
  rw [Array.toList_setIfInBounds, List.map_set]
theorem eU_swp {d : Array Int} {i j : Nat} (hi : i < d.size) (hj : j < d.size) : ((d.toList.map eU).set i (eU d[j]!)).set j (eU d[i]!) = ((Go.Sort.swp d i j).toList.map eU) := by
  rw [eU_set, eU_set]; rfl
theorem swp_size (d : Array Int) (i j : Nat) : (Go.Sort.swp d i j).size = d.size := by unfold Go.Sort.swp; simp

end Go.Proofs.Ytdconcindpfmcaa
namespace Go.Proofs.Ytdconcindpfmcaa.A
open V
section
variable {P : Program} {L : List TD} {n : Nat} {Q : Exit → Act → World → Prop} {c : Ctx}
variable {s : AMS} {f f' : AEnv} {σ σ' : Store} {ob : Obs} {κ : List Kt} {all : Array Oper} {dec : List Nat} {o : Oper} {al : Bool} {rest : List (Oper × Bool)} {m : Mode}
theorem a_uld (hT : TOk P L) {t e : TypeId} {x : Operand} {g hh l cap off : Nat} {v' : Value} (i : Nat) (d : Array Int) (h : machA L n fuel s f σ [] = ⟨.op m κ all dec o true rest, f', σ', ob⟩) (hob : ob.map (·.1) = ob.map (·.2)) (ho : o.op = .load t x)
    (hx : evA n f' x = .v (.pointer (some ⟨g, off, none⟩)) hh) (hl : look σ' hh = some (.row v' e 1 (d.toList.map eU))) (hv' : v' = .slice (some ⟨g, 0, none⟩) l cap) (hoff : off = i * 1) (hi : i < d.size) (ht : oneT (tl L t) = true)
    (hk : DenA c P n Q (.ops (m.hap true) κ all dec rest) (putA f' o.dst (.d (.v (kU d[i]!)))) σ') : DenA c P n Q s f σ :=
  a_rld hT i 0 (eU d[i]!) (.d (.v (kU d[i]!))) h hob ho hx hl hv' hoff (eU_at hi) (by unfold loadK; rw [ht]; rfl) hk
theorem a_uldP (hT : TOk P L) {t e : TypeId} {x : Operand} {g hh l cap off : Nat} {v' : Value} {σp : Store} {ex : Ex} {pre : Bool} (i : Nat) (d : Array Int) (h : machA L n fuel s f σ [] = ⟨.op (.reg pre σp ex) κ all dec o al rest, f', σ', ob⟩) (hob : ob.map (·.1) = ob.map (·.2)) (ho : o.op = .load t x)
    (hx : evA n f' x = .v (.pointer (some ⟨g, off, none⟩)) hh) (hl : look σp hh = some (.row v' e 1 (d.toList.map eU))) (hv' : v' = .slice (some ⟨g, 0, none⟩) l cap) (hoff : off = i * 1) (hi : i < d.size) (ht : oneT (tl L t) = true)
    (hk : DenA c P n Q (.ops (.reg pre σp ex) κ all dec rest) (putA f' o.dst (.d (.v (kU d[i]!)))) σ') : DenA c P n Q s f σ :=
  a_rldP hT i 0 (eU d[i]!) (.d (.v (kU d[i]!))) h hob ho hx hl hv' hoff (eU_at hi) (by unfold loadK; rw [ht]; rfl) hk
theorem a_ust (hT : TOk P L) {t e : TypeId} {x y : Operand} {g hh l cap off : Nat} {v' : Value} (j : Nat) (d : Array Int) (u : Int) (h : machA L n fuel s f σ [] = ⟨.op m κ all dec o true rest, f', σ', ob⟩) (hob : ob.map (·.1) = ob.map (·.2)) (ho : o.op = .store t x y) (ht : oneT (tl L t) = true)
    (hx : evA n f' x = .v (.pointer (some ⟨g, off, none⟩)) hh) (hl : look σ' hh = some (.row v' e 1 (d.toList.map eU))) (hv' : v' = .slice (some ⟨g, 0, none⟩) l cap) (hoff : off = j * 1) (hj : j < d.size) (hy : datK (evA n f' y) = some (.v (kU u)))
    (hk : DenA c P n Q (.ops (m.hap true) κ all dec rest) (putA f' o.dst (.v undef 0)) (upd σ' hh (.row v' e 1 ((d.setIfInBounds j u).toList.map eU)))) : DenA c P n Q s f σ := by
  refine a_rst hT j 0 (eU d[j]!) (.v (kU u)) h hob ho ht hx hl hv' hoff (eU_at hj) (by omega) hy ?_
  rw [show (eU d[j]!).set 0 (.v (kU u)) = eU u from rfl, eU_set]
  exact hk
end
end Go.Proofs.Ytdconcindpfmcaa.A
end

section
/- maps.Keys of a table's entries: its iterator. -/
set_option linter.unusedVariables false
set_option linter.unusedSimpArgs false
set_option maxRecDepth 100000
namespace Go.Proofs.Ytdconcindpfmcaa
open V A
abbrev mBlk (gb r : Nat) : Chunk := .blk gb 119 [.v (.map (some r)) 11]
theorem keys1_spec {l h h2 gb r : Nat} {L : List (Int × DE)} {J : List Int → Asrt} (hY : ∀ pre x, (∃ b, (x, b) ∈ L) → pre.length < L.length → YSpec Try.prog l [.v (kU x) 0] (J pre) (J (pre ++ [x]))) :
    FSpec Try.prog 87 [.v (.func (.yield l) #[] #[]) h, .v (.pointer (some ⟨gb, 0, none⟩)) h2] [mBlk gb r, .map r (mapG kU entAV L), .ext (J [])] fun _ cs => ∃ ys : List Int, ys.Perm (L.map (·.1)) ∧ cs = [mBlk gb r, .map r (mapG kU entAV L), .ext (J ys)] := by
  refine a_enter hT [.v (.func (.yield l) #[] #[]) 0, .v (.pointer (some ⟨gb, 0, none⟩)) 10] [10, 11, 12] Try.func87 rfl rfl rfl ⟨rfl, rfl, trivial⟩ fun c => ?_
  refine a_rangeG hT (kv := kU) (va := entAV) L rfl rfl rfl mtE rfl rfl rfl rfl fun it => ?_
  refine a_loop hT [0, 5] (fun x : List (Bool × (Int × DE)) × Option (Value × AV) × List Int => [.v (.func (.yield l) #[] #[]) 0, .v (.pointer (some ⟨it, 0, none⟩)) 11]) (fun x => [(11, .ext (iterA r it (iterG kU entAV x.1) x.2.1)), (10, mBlk gb r), (12, .ext (J x.2.2))]) (fun x => x.1.map (·.2) = L ∧ x.2.2.Perm ((x.1.filter (·.1)).map (·.2.1))) (fun x => left x.1) (L.map fun p => (false, p), none, []) [11, 10, 12] rfl rfl ⟨by simp [List.map_map, Function.comp_def], by simp⟩ ⟨rfl, rfl, trivial⟩ rfl ⟨rfl, ⟨rfl, rfl, ⟨rfl, trivial⟩⟩, rfl, trivial⟩ ?_
  rintro ⟨e, cur, ys⟩ ⟨h1, h2⟩
  dsimp only at h1 h2 ⊢
  refine a_inextG hT (kv := kU) (va := entAV) e rfl rfl rfl rfl rfl rfl rfl (fun hq => ?_) (fun i k b hi => ?_)
  · refine a_f hT rfl rfl rfl ?_
    refine a_iendG 11 (kv := kU) (va := entAV) e rfl rfl rfl ?_
    refine a_end hT [10, 11, 12] rfl rfl rfl rfl rfl rfl ?_
    refine ⟨ys, ?_, by rw [h1]⟩
    rw [List.filter_eq_self.2 hq] at h2
    rw [← h1, List.map_map]
    exact h2
  · refine a_t hT rfl rfl rfl ?_
    refine a_ientry hT rfl rfl rfl rfl rfl rfl ?_
    have hil := (List.getElem?_eq_some_iff.1 hi).1
    have hsp : e = e.take i ++ (false, (k, b)) :: e.drop (i + 1) := by
      have := (List.getElem?_eq_some_iff.1 hi).2
      rw [← this, ← List.drop_eq_getElem_cons hil, List.take_append_drop]
    have hst : e.set i (true, (k, b)) = e.take i ++ (true, (k, b)) :: e.drop (i + 1) := List.set_eq_take_append_cons_drop ▸ by rw [if_pos hil]
    have hmem : ∃ b, (k, b) ∈ L := ⟨b, by rw [← h1, hsp]; simp⟩
    have hlen : ys.length < L.length := by
      rw [h2.length_eq, List.length_map, ← h1, List.length_map]
      rw [hsp, List.filter_append, List.filter_cons_of_neg (by simp)]
      have u1 := List.length_filter_le (fun x : Bool × (Int × DE) => x.1) (e.take i)
      have u2 := List.length_filter_le (fun x : Bool × (Int × DE) => x.1) (e.drop (i + 1))
      simp only [List.length_append, List.length_cons]
      omega
    refine a_yieldR hT 5 rfl rfl rfl rfl rfl rfl rfl rfl rfl rfl rfl (kA := 12) rfl (hY ys k hmem hlen) ?_
    refine a_f hT rfl rfl rfl ?_
    refine a_next hT (e.set i (true, (k, b)), some (kU k, entAV b), ys ++ [k]) [11, 10, 12] rfl rfl ⟨⟨?_, ?_⟩, ?_⟩ ⟨rfl, rfl, trivial⟩ rfl ⟨rfl, ⟨rfl, rfl, ⟨rfl, trivial⟩⟩, rfl, trivial⟩
    · show (e.set i (true, (k, b))).map (·.2) = L
      rw [hst, ← h1]
      conv => rhs; rw [hsp]
      simp
    · show (ys ++ [k]).Perm (((e.set i (true, (k, b))).filter (·.1)).map (·.2.1))
      rw [hst, List.filter_append, List.filter_cons_of_pos (by simp), List.map_append, List.map_cons]
      rw [hsp, List.filter_append, List.filter_cons_of_neg (by simp), List.map_append] at h2
      refine (List.Perm.append_right [k] h2).trans ?_
      rw [List.append_assoc]
      refine List.Perm.append_left _ ?_
      exact List.perm_append_comm
    · show left (e.set i (true, (k, b))) < left e
      have := left_set hi (k, b)
      omega
end Go.Proofs.Ytdconcindpfmcaa
end
