/- Layer 17's timers: what they are; New, Len, Set. -/
import Derived.Test.YtepjnmocepkfjaaEf
set_option linter.unusedVariables false
set_option linter.unusedSimpArgs false
namespace Go.Proofs.Ytepjnmocepkfjaa
open V A
/-- A timer: its key, and when it is due. -/
abbrev TS := List (Int × Int)
def kd (e : QE) : Int × Int := (e.key, e.due)
def kb (e : QE) : Int × Nat := (e.key, e.b)
def filt {β : Type} (k : Int) (l : List (Int × β)) : List (Int × β) := l.filter fun p => decide (p.1 ≠ k)
theorem filt_perm {β : Type} {k : Int} {l l' : List (Int × β)} (h : l.Perm l') : (filt k l).Perm (filt k l') := h.filter _
theorem filt_self {β : Type} {k : Int} {v : β} {l : List (Int × β)} : filt k ((k, v) :: l) = filt k l := by unfold filt; simp
theorem filt_no {β : Type} {k : Int} {l : List (Int × β)} (h : k ∉ l.map (·.1)) : filt k l = l := by
  unfold filt
  rw [List.filter_eq_self]
  intro p hp
  simp only [decide_eq_true_eq]
  exact fun e => h (by rw [← e]; exact List.mem_map.2 ⟨p, hp, rfl⟩)
/-- One of many, by its key. -/
theorem filt_one {β : Type} {k : Int} {v : β} {l r : List (Int × β)} (hp : l.Perm ((k, v) :: r)) (hn : (l.map (·.1)).Nodup) : (filt k l).Perm r ∧ k ∉ r.map (·.1) := by
  have h1 : (((k, v) :: r).map (·.1)).Nodup := (hp.map _).nodup_iff.1 hn
  rw [List.map_cons, List.nodup_cons] at h1
  have h2 := filt_perm (k := k) hp
  rw [filt_self, filt_no h1.1] at h2
  exact ⟨h2, h1.1⟩
theorem adel_filt {β : Type} : ∀ {l : List (Int × β)} {k : Int}, (l.map (·.1)).Nodup → adel l k = filt k l
  | [], k, h => rfl
  | (j, u) :: l, k, h => by
    rw [List.map_cons, List.nodup_cons] at h
    unfold adel filt
    by_cases e : j = k
    · subst e
      rw [if_pos rfl, List.filter_cons, if_neg (by simp)]
      exact (filt_no h.1).symm
    · rw [if_neg e, List.filter_cons, if_pos (by simp [e]), adel_filt h.2]
      rfl
theorem aget_of_mem {β : Type} : ∀ {l : List (Int × β)} {k : Int} {v : β}, (l.map (·.1)).Nodup → (k, v) ∈ l → aget l k = some v
  | [], k, v, h, hm => by simp at hm
  | (j, u) :: l, k, v, h, hm => by
    rw [List.map_cons, List.nodup_cons] at h
    unfold aget
    rcases List.mem_cons.1 hm with e | hm
    · cases e; rw [if_pos rfl]
    · rw [if_neg fun e => h.1 (by rw [e]; exact List.mem_map.2 ⟨_, hm, rfl⟩)]
      exact aget_of_mem h.2 hm
def bV (b : Nat) : AV := ptrA b 40
def mapB (mo : Option Nat) (ents : List (Int × Nat)) : Chunk := match mo with
  | none => .ext (listA [])
  | some m => .map m (mapG kU bV ents)
structure TX where
  v : Value
  mo : Option Nat
  q : List QE
  ents : List (Int × Nat)
structure TX.ok (x : TX) (S : TS) : Prop where
  s : (x.q.map kd).Perm S
  h : Heap x.q.length x.q
  e : (x.q.map kb).Perm x.ents
  n : x.mo = none → x.q = []
def TX.cs (g : Nat) (x : TX) : List Chunk := qC g x.v x.mo x.q ++ [mapB x.mo x.ents]
def tmA (g : Nat) (S : TS) : Asrt := exA (fun x : TX => x.ok S) (TX.cs g)
theorem tm_pack {g : Nat} {S : TS} {x : TX} (h : x.ok S) : Ent (x.cs g) [.ext (tmA g S)] := ent_pack (f := TX.cs g) x h
theorem tm_unpack (g : Nat) (S : TS) : EntX [.ext (tmA g S)] (fun x : TX => x.ok S) (TX.cs g) := ent_unpack _ _
theorem tm_perm {g : Nat} {S S' : TS} (h : S.Perm S') : Ent [.ext (tmA g S)] [.ext (tmA g S')] := fun M w U hh => by
  obtain ⟨x, hx, h1⟩ := tm_unpack g S M w U hh
  exact tm_pack (x := x) ⟨hx.s.trans h, hx.h, hx.e, hx.n⟩ M w U h1
theorem tm_spec {f : FuncId} {args : List AV} {g : Nat} {S : TS} {R : AV → TS → Prop} (h : ∀ x : TX, x.ok S → FSpec Try.prog f args (x.cs g) fun a cs => ∃ S', R a S' ∧ Ent cs [.ext (tmA g S')]) : FSpec Try.prog f args [.ext (tmA g S)] fun a cs => ∃ S', R a S' ∧ cs = [.ext (tmA g S')] := by
  refine FSpec.entX (tm_unpack g S) fun x hx => ?_
  exact (h x hx).weak fun a cs ⟨S', h1, h2⟩ => ⟨a, [.ext (tmA g S')], [], Fit.refl _, h2, S', h1, rfl⟩
theorem mtB : mapT Try.prog 96 25 99 = true := by kernel_rfl
theorem zeroB : (Try.prog.info? 99).map (·.zero) = some (some (.pointer none)) := by kernel_rfl
/-- New. -/
theorem tnew_spec : FSpec Try.prog 26 [] [] fun a cs => ∃ g, a = ptrA g 10 ∧ cs = [.ext (tmA g [])] := by
  refine FSpec.weak (R := fun a cs => ∃ g, a = ptrA g 10 ∧ cs = [.blk g 98 [.v (.slice none 0 0) 0, .v (.map none) 0]]) ?_ fun a cs hR => ?_
  · refine a_enter hT [] [] Try.func26 rfl rfl rfl trivial fun c => ?_
    refine a_build hT hZ [.v (.slice none 0 0) 0, .v (.map none) 0] rfl rfl rfl rfl rfl rfl ?_
    refine a_box hT 10 rfl rfl rfl rfl fun g => ?_
    exact a_ret hT [10] rfl rfl rfl rfl rfl rfl ⟨g, rfl, rfl⟩
  · obtain ⟨g, rfl, rfl⟩ := hR
    refine ⟨_, [.ext (tmA g [])], [], Fit.refl _, ?_, g, rfl, rfl⟩
    have e1 : Ent [.blk g 98 [.v (.slice none 0 0) 0, .v (.map none) 0]] [tmBlk g (.slice none 0 0) none] := fun M w U hh => by
      refine holds_one.2 ?_
      obtain ⟨hS, xs, hb, hr, h1⟩ := holds_one.1 hh
      refine ⟨hS, xs, hb, ?_, h1⟩
      unfold Reps at hr
      obtain ⟨x, r, rfl, hx, hr⟩ := hr
      have := rep_v hx
      subst this
      exact Reps.cons (by unfold Rep; exact ⟨rfl, rfl⟩) (Fits.reps (show Fits [.v (.map none) 0] [.v (.map none) 11] from ⟨rfl, trivial⟩) hr)
    have e2 : Ent [] [rowP (.slice none 0 0) []] := fun M w U hh => holds_one.2 (by
      have h := row_nil (M := M) (w := w) 99 1
      exact ⟨fun b => ⟨fun hb => (hh b hb).elim, fun hb => ((h.1 b).2 hb).elim⟩, h.2⟩)
    exact (e1.trans (Ent.cons _ (Ent.app e2 (Ent.app (ent_shut []) (ent_shut []))))).trans (tm_pack (x := ⟨.slice none 0 0, none, [], []⟩) ⟨List.Perm.nil, fun k a b _ hk => absurd hk (by simp), List.Perm.nil, fun _ => rfl⟩)
end Go.Proofs.Ytepjnmocepkfjaa
