/- From a row's reading of the arguments to frozen data; a law's frame. It holds of any program. -/
import Derived.Test.YtepjnmocepkfjaaJ
import Derived.Test.YtepjnmocepkfjaaL
set_option linter.unusedVariables false
set_option linter.unusedSimpArgs false
namespace Go.Proofs.Ytepjnmocepkfjaa.A
open V

/-- A list in parts of k. -/
def parts (k : Nat) (l : List Dat) : List (List Dat) := if h : k = 0 ∨ l = [] then [] else l.take k :: parts k (l.drop k)
termination_by l.length
decreasing_by
  have : 0 < l.length := by cases l with | nil => exact absurd (.inr rfl) h | cons x l => simp
  simp
  omega
mutual
def cv : V.Dat → Dat
  | .v u => .v u
  | .sl k ds => .sl k (parts k (cvs ds))
  | .ifc t ag ds => .ifc t ag (cvs ds)
def cvs : List V.Dat → List Dat
  | [] => []
  | d :: ds => cv d :: cvs ds
end
theorem cvs_len : ∀ ds : List V.Dat, (cvs ds).length = ds.length
  | [] => rfl
  | d :: ds => by simp [cvs, cvs_len ds]
theorem cvs_app : ∀ a b : List V.Dat, cvs (a ++ b) = cvs a ++ cvs b
  | [], b => rfl
  | x :: a, b => by simp [cvs, cvs_app a b]
theorem parts_nil (k : Nat) : parts k [] = [] := by unfold parts; simp
theorem parts_cons {k : Nat} (hk : 0 < k) (e l : List Dat) (he : e.length = k) : parts k (e ++ l) = e :: parts k l := by
  rw [parts]
  have hne : ¬ (k = 0 ∨ e ++ l = []) := by
    rintro (h | h)
    · omega
    · simp at h; rw [h.1] at he; simp at he; omega
  rw [dif_neg hne, List.take_append_of_le_length (by omega), List.take_of_length_le (by omega), List.drop_append, List.drop_eq_nil_of_le (by omega), he]
  simp
theorem parts_ok {k : Nat} (hk : 0 < k) : ∀ (m : Nat) (l : List Dat), l.length = m * k → (parts k l).length = m ∧ (∀ e ∈ parts k l, e.length = k) ∧ (parts k l).flatten = l
  | 0, l, h => by
    have : l = [] := List.eq_nil_of_length_eq_zero (by simpa using h)
    subst this
    rw [parts_nil]
    simp
  | m + 1, l, h => by
    have hle : k ≤ l.length := by rw [h, Nat.succ_mul]; omega
    obtain ⟨h1, h2, h3⟩ := parts_ok hk m (l.drop k) (by simp [h, Nat.succ_mul])
    have e : l = l.take k ++ l.drop k := (List.take_append_drop k l).symm
    rw [e, parts_cons hk _ _ (by simp; omega)]
    refine ⟨by simp [h1], ?_, by simp [h3]⟩
    intro x hx
    rcases List.mem_cons.1 hx with rfl | hx
    · simp; omega
    · exact h2 x hx
mutual
/-- Slices' elements have cells. -/
def pos : V.Dat → Prop
  | .v _ => True
  | .sl k ds => 0 < k ∧ poss ds
  | .ifc _ _ ds => poss ds
def poss : List V.Dat → Prop
  | [] => True
  | d :: ds => pos d ∧ poss ds
end
mutual
theorem cv_rep {M : Nat → Prop} {w : World} : ∀ {d : V.Dat} {x : Value}, pos d → ARep M w d x → DRep M w (cv d) x
  | .v u, x, hp, h => by unfold ARep at h; unfold cv DRep; exact h
  | .sl k ds, x, hp, h => by
    unfold pos at hp
    unfold ARep at h
    obtain ⟨A, m, c, rfl, hl, hc, hr⟩ := h
    obtain ⟨h1, h2, h3⟩ := parts_ok hp.1 m (cvs ds) (by rw [cvs_len, hl])
    unfold cv DRep
    refine ⟨A, c, by rw [h1], by rw [h1]; exact hc, h2, fun hne => ?_⟩
    have hne' : ds ≠ [] := by intro e; subst e; apply hne; exact parts_nil k
    obtain ⟨ad, ha, hM, hL⟩ := hr hne'
    have hlt : ad.block < w.heap.size := by
      cases ds with
      | nil => exact absurd rfl hne'
      | cons d ds =>
        unfold V.LRep at hL
        obtain ⟨⟨y, hy, _⟩, _⟩ := hL
        have := World.block_lt_of_cell? w _ hy
        rwa [add_block] at this
    exact ⟨ad, ha, hM, hlt, SRep.flat.2 (by rw [h3]; exact cvs_lrep hp.2 hL)⟩
  | .ifc t ag ds, x, hp, h => by
    unfold pos at hp
    unfold ARep at h
    unfold cv DRep
    obtain ⟨u, e, h1, h2, h3⟩ := h
    exact ⟨u, e, h1, h2, cvs_vrep hp h3⟩
theorem cvs_lrep {M : Nat → Prop} {w : World} : ∀ {ds : List V.Dat} {ad : Addr} {i : Nat}, poss ds → V.LRep M w ds ad i → LRep M w (cvs ds) ad i
  | [], ad, i, hp, h => by unfold cvs LRep; trivial
  | d :: ds, ad, i, hp, h => by
    unfold poss at hp
    unfold V.LRep at h
    unfold cvs LRep
    obtain ⟨⟨x, hx, hd⟩, h2⟩ := h
    exact ⟨⟨x, hx, cv_rep hp.1 hd⟩, cvs_lrep hp.2 h2⟩
theorem cvs_vrep {M : Nat → Prop} {w : World} : ∀ {ds : List V.Dat} {xs : List Value}, poss ds → V.VRep M w ds xs → VRep M w (cvs ds) xs
  | [], xs, hp, h => by unfold V.VRep at h; unfold cvs VRep; exact h
  | d :: ds, xs, hp, h => by
    unfold poss at hp
    unfold V.VRep at h
    unfold cvs VRep
    obtain ⟨x, r, e, hx, h2⟩ := h
    exact ⟨x, r, e, cv_rep hp.1 hx, cvs_vrep hp.2 h2⟩
end
/-- What has a type reads as data of its own kind: d is g x. -/
theorem cv_many {α : Type} {es : List Ty} {d : V.Dat} (h : HasTy (.sl es) d) (hes : es ≠ []) (g : α → List Dat) (ok : α → Prop) (h1 : ∀ ds, HasTys es ds → ∃ x, cvs ds = g x ∧ poss ds ∧ ok x) :
    ∃ l : List α, cv d = .sl es.length (l.map g) ∧ pos d ∧ l.length ≤ reachBytes ∧ ∀ x ∈ l, ok x := by
  unfold HasTy at h
  have hk : 0 < es.length := List.length_pos_iff.2 hes
  obtain ⟨xs, hd, hl, hall⟩ := h
  have key : ∀ xs : List (List V.Dat), AllTy es xs → ∃ l : List α, parts es.length (cvs xs.flatten) = l.map g ∧ poss xs.flatten ∧ l.length = xs.length ∧ ∀ x ∈ l, ok x := by
    intro xs
    induction xs with
    | nil => intro _; exact ⟨[], by simp [cvs, parts_nil], trivial, rfl, by simp⟩
    | cons e xs ih =>
      intro ha
      unfold AllTy at ha
      obtain ⟨l, k1, k2, k3, k4⟩ := ih ha.2
      obtain ⟨x, j1, j2, j3⟩ := h1 e ha.1
      have hlen : (cvs e).length = es.length := by rw [cvs_len]; exact ha.1.len
      have poss_app : ∀ a b : List V.Dat, poss a → poss b → poss (a ++ b) := by
        intro a
        induction a with
        | nil => intro b _ h; exact h
        | cons x a ih => intro b h1 h2; unfold poss at h1; rw [List.cons_append]; unfold poss; exact ⟨h1.1, ih b h1.2 h2⟩
      refine ⟨x :: l, ?_, ?_, by simp [k3], ?_⟩
      · rw [List.flatten_cons, cvs_app, parts_cons hk _ _ hlen, k1, List.map_cons, j1]
      · rw [List.flatten_cons]; exact poss_app _ _ j2 k2
      · intro y hy
        rcases List.mem_cons.1 hy with rfl | hy
        · exact j3
        · exact k4 y hy
  obtain ⟨l, k1, k2, k3, k4⟩ := key xs hall
  subst hd
  refine ⟨l, by unfold cv; rw [k1], by unfold pos; exact ⟨hk, k2⟩, by omega, k4⟩
theorem cv_bytes {d : V.Dat} (h : HasTy (.sl [.int .u8]) d) : ∃ l : List UInt8, cv d = bytesD l ∧ pos d ∧ l.length ≤ reachBytes := by
  obtain ⟨l, h1, h2, h3, _⟩ := cv_many h (by simp) eB (fun _ => True) fun ds hd => by
    obtain ⟨d, r, rfl, h1, h2⟩ := hd.cons
    obtain ⟨b, rfl⟩ := h1.u8
    rw [h2.nil]
    exact ⟨b, rfl, ⟨trivial, trivial⟩, trivial⟩
  exact ⟨l, h1, h2, h3⟩
abbrev ArgIs (P : Program) (w : World) (ty : List Ty) (t : TypeId) (v : Value) : Prop := ∃ ds, HasTys ty ds ∧ V.VRep no w ds v.cells.toList ∧ ArgForm P t v
/-- A slice that comes in. -/
theorem argA_many {α : Type} {P : Program} {w : World} {t : TypeId} {v : Value} {es : List Ty} (h : ArgIs P w [.sl es] t v) (hs : isStruct P t = false) (hes : es ≠ []) (g : α → List Dat) (ok : α → Prop) (h1 : ∀ ds, HasTys es ds → ∃ x, cvs ds = g x ∧ poss ds ∧ ok x) :
    ∃ l : List α, Rep no w (.d (.sl es.length (l.map g))) v ∧ l.length ≤ reachBytes ∧ ∀ x ∈ l, ok x := by
  obtain ⟨d, h2, h3⟩ := arg_one h hs
  obtain ⟨l, k1, k2, k3, k4⟩ := cv_many h2 hes g ok h1
  refine ⟨l, ?_, k3, k4⟩
  unfold Rep
  rw [← k1]
  exact cv_rep k2 h3
theorem argA_bytes {P : Program} {w : World} {t : TypeId} {v : Value} (h : ArgIs P w [.sl [.int .u8]] t v) (hs : isStruct P t = false) : ∃ l : List UInt8, Rep no w (.d (bytesD l)) v ∧ l.length ≤ reachBytes := by
  obtain ⟨d, h2, h3⟩ := arg_one h hs
  obtain ⟨l, k1, k2, k3⟩ := cv_bytes h2
  refine ⟨l, ?_, k3⟩
  unfold Rep
  rw [← k1]
  exact cv_rep k2 h3
/-- A struct that comes in: its cells. -/
theorem argA_struct {P : Program} {w : World} {t : TypeId} {v : Value} {tys : List Ty} {g : List Dat} (h : ArgIs P w tys t v) (hs : isStruct P t = true) (h1 : ∀ ds, HasTys tys ds → V.VRep no w ds v.cells.toList → cvs ds = g ∧ poss ds) : Rep no w (.agg (g.map .d)) v := by
  obtain ⟨ds, h2, h3, h4⟩ := h
  obtain ⟨rfl, hp⟩ := h1 ds h2 h3
  have := cvs_vrep hp h3
  rw [h4.1 hs]
  unfold Rep
  exact ⟨_, by simp, Reps.ofV this, this.one⟩
/-- A law: true, whatever comes in; nothing old has turned. -/
theorem law_of {P : Program} {f : FuncId} {W : World} {args : Array Value} {as : List AV} (spec : FSpec P f as [] fun a _ => a = .v (.bool true) 0) (hr : Reps no W as args.toList) : Calls P f args W (LawR W) := by
  have := spec.out no no W args.toList (fun b h => h.elim) (fun b h => h.elim) (fun _ h => h) (hr.of fun b _ h => h.elim id id)
  simp only [Array.toArray_toList] at this
  refine this.mono fun e w' ⟨v, a, cs, S', he, ha, hrep, _, hev, _⟩ => ?_
  subst ha
  rw [he, rep_v hrep]
  exact ⟨rfl, hev⟩

end Go.Proofs.Ytepjnmocepkfjaa.A
