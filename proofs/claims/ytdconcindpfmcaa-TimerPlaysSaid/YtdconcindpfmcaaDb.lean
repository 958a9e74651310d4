/- Layer 19's table as a whole; Len. -/
import Derived.Test.YtdconcindpfmcaaDa
set_option linter.unusedVariables false
set_option linter.unusedSimpArgs false
namespace Go.Proofs.Ytdconcindpfmcaa
open V A

structure CL where
  gb : Nat
  r : Nat
  c : PC
def clC (x : CL) : List Chunk := [clBlk x.gb x.r x.c.floor 13, .map x.r (mapG kU entAV x.c.ents)]
def clsC (cl : List (Int × CL)) : List Chunk := cl.flatMap fun p => clC p.2
def clV (x : CL) : AV := ptrA x.gb 12
def mapC (mo : Option Nat) (cl : List (Int × CL)) : Chunk := match mo with
  | none => .ext (listA [])
  | some m => .map m (mapG kI clV cl)
def tbBlk (g : Nat) (mo : Option Nat) : Chunk := .blk g 114 [.v (.map mo) 11]
def tabR (g : Nat) (mo : Option Nat) (cl : List (Int × CL)) : List Chunk := [tbBlk g mo, mapC mo cl, .ext (listA (clsC cl))]
def plainT (cl : List (Int × CL)) : PT := cl.map fun p => (p.1, p.2.c)
def tabA (g : Nat) (T : PT) : Asrt := exA (fun x : Option Nat × List (Int × CL) => plainT x.2 = T ∧ (x.1 = none → x.2 = [])) fun x => tabR g x.1 x.2

def sumV (l : List (Bool × (Int × CL))) : Nat := ((l.filter (·.1)).map fun q => q.2.2.c.ents.length).sum
theorem sumV_set : ∀ {l : List (Bool × (Int × CL))} {i : Nat} {p : Int × CL}, l[i]? = some (false, p) → sumV (l.set i (true, p)) = sumV l + p.2.c.ents.length
  | [], i, p, h => by simp at h
  | q :: l, 0, p, h => by simp at h; subst h; simp [sumV]; omega
  | q :: l, i + 1, p, h => by
    have := sumV_set (l := l) (i := i) (p := p) (by simpa using h)
    unfold sumV at this ⊢
    rw [List.set_cons_succ, List.filter_cons, List.filter_cons]
    split
    · simp; omega
    · exact this
theorem sumV_all {l : List (Bool × (Int × CL))} (h : ∀ q ∈ l, q.1 = true) : sumV l = lenT (plainT (l.map (·.2))) := by
  unfold sumV lenT plainT
  rw [List.filter_eq_self.2 h, List.map_map, List.map_map]
  rfl
theorem sumV_no (cl : List (Int × CL)) : sumV (cl.map fun p => (false, p)) = 0 := by
  unfold sumV
  rw [List.filter_eq_nil_iff.2 (by simp)]
  rfl
theorem clsC_app (a b : List (Int × CL)) : clsC (a ++ b) = clsC a ++ clsC b := List.flatMap_append
def i64w (n : Nat) : AV := .v (.int .i64 (IntKind.i64.wrap n)) 0
/-- How many entries there are. -/
theorem len_spec {g h : Nat} {mo : Option Nat} {cl : List (Int × CL)} (hmo : mo = none → cl = []) : FSpec Try.prog 58 [ptrA g h] (tabR g mo cl) fun a cs => a = i64w (lenT (plainT cl)) ∧ cs = tabR g mo cl := by
  cases mo with
  | none =>
    cases hmo rfl
    refine a_enter hT [ptrA g 10] [10, 11, 14] Try.func58 rfl rfl rfl ⟨rfl, trivial⟩ fun c => ?_
    refine a_f hT rfl rfl rfl ?_
    refine a_rangeN hT 20 rfl rfl rfl mtC rfl fun it => ?_
    refine a_loop hT [3, 12] (fun _ : Unit => [i64w 0, .v (.pointer (some ⟨it, 0, none⟩)) 20]) (fun _ => [(20, .ext (iterN it)), (10, tbBlk g none), (11, mapC none []), (14, .ext (listA (clsC [])))]) (fun _ => True) (fun _ => 0) () [20, 10, 11, 14] rfl rfl trivial ⟨rfl, rfl, trivial⟩ rfl ⟨rfl, ⟨rfl, rfl, rfl, trivial⟩, rfl, rfl, trivial⟩ fun _ _ => ?_
    refine a_inextN hT rfl rfl rfl rfl rfl rfl ?_
    refine a_f hT rfl rfl rfl ?_
    refine a_ret hT [10, 11, 14] rfl rfl rfl rfl rfl rfl ⟨rfl, rfl⟩
  | some m =>
    refine a_enter hT [ptrA g 10] [10, 11, 14] Try.func58 rfl rfl rfl ⟨rfl, trivial⟩ fun c => ?_
    refine a_f hT rfl rfl rfl ?_
    refine a_rangeG hT (kv := kI) (va := clV) cl rfl rfl rfl mtC rfl rfl rfl rfl fun it => ?_
    refine a_loop hT [3, 12] (fun x : List (Bool × (Int × CL)) × Option (Value × AV) => [i64w (sumV x.1), .v (.pointer (some ⟨it, 0, none⟩)) 11]) (fun x => [(11, .ext (iterA m it (iterG kI clV x.1) x.2)), (10, tbBlk g (some m)), (14, .ext (listA (clsC cl)))])
      (fun x => x.1.map (·.2) = cl) (fun x => left x.1) (cl.map fun p => (false, p), none) [11, 10, 14] rfl rfl (by simp [List.map_map, Function.comp_def]) ⟨by rw [sumV_no]; rfl, rfl, trivial⟩ rfl ⟨rfl, ⟨rfl, rfl, rfl, trivial⟩, rfl, trivial⟩ ?_
    rintro ⟨l, cur⟩ h1
    refine a_inextG hT (kv := kI) (va := clV) l rfl rfl rfl rfl rfl rfl rfl (fun hq => ?_) (fun i k x hi => ?_)
    · refine a_f hT rfl rfl rfl ?_
      refine a_iendG 11 (kv := kI) (va := clV) l rfl rfl rfl ?_
      refine a_ret hT [10, 11, 14] rfl rfl rfl rfl rfl rfl ⟨?_, ?_⟩
      · rw [← h1, ← sumV_all hq]; rfl
      · have h1' : l.map (·.2) = cl := h1
        rw [h1']; rfl
    · refine a_t hT rfl rfl rfl ?_
      refine a_ientry hT rfl rfl rfl rfl rfl rfl ?_
      have hmem : (k, x) ∈ cl := by rw [← h1]; exact List.mem_map.2 ⟨_, List.mem_of_getElem? hi, rfl⟩
      obtain ⟨a, b, hab⟩ := List.append_of_mem hmem
      subst hab
      rw [show clsC (a ++ (k, x) :: b) = clsC a ++ (clC x ++ clsC b) by rw [clsC_app]; rfl]
      refine a_ent [14] [12, 13, 14] (clC x ++ [.ext (listA (clsC a ++ clsC b))]) rfl rfl (ent_focus _ _ _) ?_
      refine a_nextE hT (l.set i (true, (k, x)), some (kI k, clV x)) [11, 10, 12, 13, 14] rfl rfl ⟨?_, ?_⟩ ⟨?_, rfl, trivial⟩ rfl (Ent.cons _ (Ent.cons _ (ent_unfocus _ (clC x) _)))
      · show (l.set i (true, (k, x))).map (·.2) = _
        rw [map_set_same (y := (true, (k, x))) _ hi rfl]; exact h1
      · show left (l.set i (true, (k, x))) < left l
        have := left_set hi (k, x)
        omega
      · show Value.int .i64 (IntKind.i64.wrap (IntKind.i64.wrap (sumV l) + ((mapG kU entAV x.c.ents).length : Int))) = .int .i64 (IntKind.i64.wrap (sumV (l.set i (true, (k, x))) : Nat))
        rw [wrapI_add, sumV_set hi]
        unfold mapG
        rw [List.length_map]
        rfl
end Go.Proofs.Ytdconcindpfmcaa
