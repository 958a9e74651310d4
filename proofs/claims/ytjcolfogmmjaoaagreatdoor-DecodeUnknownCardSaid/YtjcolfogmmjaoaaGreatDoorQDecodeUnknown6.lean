import Derived.Test.YtjcolfogmmjaoaaGreatDoorQDecodeUnknown5
import Derived.Laws.MakeOwn
section
set_option linter.unusedVariables false
set_option linter.unusedSimpArgs false
set_option maxRecDepth 100000
namespace Go.Proofs.YtjcolfogmmjaoaaGreatDoor.A
open V
theorem made_one (z : Value) (n : Nat) : (madeCells #[z] n).toList = List.replicate n z := by
  apply List.ext_getElem?
  intro i
  rw [List.getElem?_replicate]
  by_cases hi : i < n
  · simp [madeCells, hi, Nat.mod_one]
  · simp [madeCells, hi]
theorem vrep_rep {M : Nat → Prop} {w : World} {z : Value} (h1 : z.oneCell' = true) : ∀ n, VRep M w (List.replicate n [Dat.v z]).flatten (List.replicate n z)
  | 0 => by simp; unfold VRep; rfl
  | n + 1 => by
    rw [List.replicate_succ, List.replicate_succ, List.flatten_cons]
    simp only [List.singleton_append]
    unfold VRep
    exact ⟨z, _, rfl, by unfold DRep; exact ⟨rfl, h1⟩, vrep_rep h1 n⟩
section
variable {P : Program} {L : List TD} {Z : List (List Value)} {n : Nat} {Q : Exit → Act → World → Prop} {c : Ctx}
variable {s : AMS} {f f' : AEnv} {σ σ' : Store} {κ : List Kt} {all : Array Oper} {dec : List Nat} {rest : List (Oper × Bool)} {m : Mode} {o : Oper} {al : Bool} {ob : Obs}
theorem a_mkslice (hT : TOk P L) (kn : Nat) {t e : TypeId} {x y : Operand} {kx ky : IntKind} {i j : Int} {hx hy : Nat} {z : Value} (ln cp : Nat) (h : machA L n fuel s f σ [] = ⟨.op m κ all dec o true rest, f', σ', ob⟩) (hob : ob.map (·.1) = ob.map (·.2)) (ho : o.op = .makeSlice t x y) (ht : tl L t = .sl e 1)
    (hel : elemOk P e 1 = true) (hz : ((P.info? e).bind (·.zero)) = some z) (h1 : z.oneCell' = true) (hx : evN n f' x = .v (.int kx i) hx) (hy : evN n f' y = .v (.int ky j) hy) (hi : i = (ln : Int)) (hj : j = (cp : Int)) (hlc : ln ≤ cp) (hmx : cp ≤ 1000000)
    (hk : ∀ x, DenA c P n Q (.ops (m.hap true) κ all dec rest) (putA f' o.dst (.row x kn)) ((kn, .row x e 1 (List.replicate ln [.v z])) :: σ')) : DenA c P n Q s f σ := by
  subst hi
  subst hj
  refine a_eff hT (fun a σ1 => ∃ x, a = .row x kn ∧ σ1 = (kn, .row x e 1 (List.replicate ln [.v z])) :: σ') h hob (fun Y Su w fc hd hY hh he => ?_) (fun a σ1 ⟨g, ha, hs⟩ => by subst ha; subst hs; exact hk g)
  have hT1 := sl_tl hT ht
  obtain ⟨i, z', hi, hisz, hby, hk0, hz', hzk⟩ := elemOk_spec hel
  have hzz : z' = z := by rw [hi] at hz; simpa [hz'] using hz
  subst hzz
  have k1 := he.evalN (n := n) x
  have k2 := he.evalN (n := n) y
  rw [hx] at k1
  rw [hy] at k2
  have hzc : z'.cells = #[z'] := Array.ext' (by rw [cells_one h1])
  have hb : (i.bytes : Int) * (cp : Int) ≤ 281474976710656 := by
    have : i.bytes * cp ≤ 32768 * 1000000 := Nat.mul_le_mul hby hmx
    have h2 : ((i.bytes * cp : Nat) : Int) ≤ 281474976710656 := by omega
    rwa [Int.natCast_mul] at h2
  have hrun : (execOp (ev n fc) o).run P w = .ok (.value (.slice (some ⟨w.heap.size, 0, none⟩) ln cp)) (w.alloc (.cells (madeCells #[z'] cp) e)) := by
    unfold execOp
    simp only [ho, Sem.run_bind, Sem.run_pure, rep_v k1, rep_v k2]
    rw [run_make (P := P) w t e i z' hT1.1 hi hz' kx ky ln cp (by omega) (by omega) hb (by omega)]
    simp [hisz, hzc]
  rw [hrun]
  have hown : (w.alloc (.cells (madeCells #[z'] cp) e)).ownsRow w.heap.size e 1 (.slice (some ⟨w.heap.size, 0, none⟩) ln cp) ln (List.replicate ln z') := by
    refine ⟨by simp, .inr ⟨w.heap.size, cp, madeCells #[z'] cp, rfl, Nat.le_refl _, heap_alloc_new w _, hlc, by unfold maxLen; omega, by rw [size_madeCells, Nat.mul_one], ?_⟩⟩
    rw [made_one, Nat.mul_one, List.take_replicate, Nat.min_eq_left hlc]
  obtain ⟨k1, k2, k3, k4⟩ := holds_row (es := List.replicate ln [.v z']) kn hY hh (Ev.alloc w _) (fun e' he' => by rw [(List.mem_replicate.1 he').2]) (by rw [List.length_replicate]; exact hown) (vrep_rep h1 ln)
  exact ⟨_, _, _, ⟨_, rfl, rfl⟩, by unfold Rep; exact ⟨rfl, k4⟩, k1, k2, k3⟩
end
end Go.Proofs.YtjcolfogmmjaoaaGreatDoor.A
end
