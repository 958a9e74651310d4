/- Layer 19: offer. -/
import Derived.Test.YtdconcindpfmcaaDb
set_option linter.unusedVariables false
set_option linter.unusedSimpArgs false
namespace Go.Proofs.Ytdconcindpfmcaa
open V A

/-! ### Plain -/
structure Ver where
  kind : Int
  st : Int
  bytes : List UInt8
def mn (p q : Int) : Int := if q < p then q else p
def mx (p q : Int) : Int := if q > p then q else p
def PC.up (c : PC) (tok fl : Int) : PC := PC.sweep ⟨mx c.floor (mn fl tok), c.ents⟩
def offerC (T : PT) (num tok : Int) (known : Bool) (c : PC) (fresh : DE) : PT × Ver :=
  if tok < c.floor then (if known then aput T num c else T, ⟨4, 0, []⟩)
  else match aget c.ents tok with
  | some e => if e.done then (if known then aput T num c else T, ⟨3, e.status, e.bytes⟩) else (if known then aput T num c else T, ⟨2, 0, []⟩)
  | none => if 16 ≤ tok - c.floor ∨ 64 ≤ lenT (if known then aput T num c else T) then (if known then aput T num c else T, ⟨5, 0, []⟩) else (aput T num ⟨c.floor, aput c.ents tok fresh⟩, ⟨1, 0, []⟩)
def offerP (T : PT) (num tok fl : Int) (fresh : DE) : PT × Ver :=
  match aget T num with
  | none => if 8 ≤ T.length then (T, ⟨5, 0, []⟩) else offerC T num tok false (PC.up ⟨1, []⟩ tok fl) fresh
  | some c => offerC T num tok true (c.up tok fl) fresh
structure wfT (T : PT) : Prop where
  fl : ∀ p ∈ T, 0 ≤ p.2.floor
  nd : ∀ p ∈ T, (p.2.ents.map (·.1)).Nodup
  nk : (T.map (·.1)).Nodup
  len : lenT T ≤ 64
  by_ : ∀ p ∈ T, ∀ q ∈ p.2.ents, q.2.bytes.length ≤ lim

theorem aget_split {β : Type} : ∀ {l : List (Int × β)} {k : Int} {v : β}, aget l k = some v → ∃ a b, l = a ++ (k, v) :: b ∧ ∀ p ∈ a, p.1 ≠ k
  | [], k, v, h => by simp [aget] at h
  | (j, u) :: l, k, v, h => by
    unfold aget at h
    split at h
    · rename_i e
      subst e
      cases h
      exact ⟨[], l, rfl, by simp⟩
    · rename_i e
      obtain ⟨a, b, rfl, hn⟩ := aget_split h
      exact ⟨(j, u) :: a, b, rfl, fun p hp => by rcases List.mem_cons.1 hp with rfl | hp; exact e; exact hn p hp⟩
theorem aput_mid {β : Type} {k : Int} {u v : β} : ∀ {a b : List (Int × β)}, (∀ p ∈ a, p.1 ≠ k) → aput (a ++ (k, u) :: b) k v = a ++ (k, v) :: b
  | [], b, h => by simp [aput]
  | p :: a, b, h => by
    have h1 := h p (by simp)
    rw [List.cons_append, aput, if_neg h1, aput_mid fun q hq => h q (by simp [hq])]
    rfl
theorem aput_new {β : Type} {k : Int} {v : β} : ∀ {a : List (Int × β)}, aget a k = none → aput a k v = a ++ [(k, v)]
  | [], h => rfl
  | (j, u) :: a, h => by
    unfold aget at h
    split at h
    · cases h
    · rename_i e
      rw [aput, if_neg e, aput_new h]
      rfl
theorem aget_mem {β : Type} {l : List (Int × β)} {k : Int} {v : β} (h : aget l k = some v) : (k, v) ∈ l := by
  obtain ⟨a, b, rfl, _⟩ := aget_split h
  simp
theorem aget_nomem {β : Type} : ∀ {l : List (Int × β)} {k : Int}, aget l k = none → k ∉ l.map (·.1)
  | [], k, h => by simp
  | (j, u) :: l, k, h => by
    unfold aget at h
    split at h
    · cases h
    · rename_i e
      rw [List.map_cons, List.mem_cons, not_or]
      exact ⟨fun h => e h.symm, aget_nomem h⟩
theorem lenT_app (a b : PT) : lenT (a ++ b) = lenT a + lenT b := by unfold lenT; rw [List.map_append, List.sum_append]
theorem lenT_cons (p : Int × PC) (b : PT) : lenT (p :: b) = p.2.ents.length + lenT b := by unfold lenT; rw [List.map_cons, List.sum_cons]
theorem lenT_put {T : PT} {num : Int} {c : PC} (c1 : PC) (h : aget T num = some c) : lenT (aput T num c1) + c.ents.length = lenT T + c1.ents.length := by
  obtain ⟨a, b, rfl, hn⟩ := aget_split h
  rw [aput_mid hn, lenT_app, lenT_app, lenT_cons, lenT_cons]
  simp only
  omega
theorem lenT_new {T : PT} {num : Int} (c1 : PC) (h : aget T num = none) : lenT (aput T num c1) = lenT T + c1.ents.length := by
  rw [aput_new h, lenT_app, lenT_cons]
  simp [lenT]
theorem mem_aput {β : Type} : ∀ {l : List (Int × β)} {k : Int} {v : β} {p : Int × β}, p ∈ aput l k v → p = (k, v) ∨ p ∈ l
  | [], k, v, p, h => by simp [aput] at h; exact .inl h
  | (j, u) :: l, k, v, p, h => by
    unfold aput at h
    split at h
    · rename_i e
      subst e
      rcases List.mem_cons.1 h with h | h
      · exact .inl h
      · exact .inr (List.mem_cons_of_mem _ h)
    · rcases List.mem_cons.1 h with h | h
      · exact .inr (by rw [h]; simp)
      · exact (mem_aput h).imp id (List.mem_cons_of_mem _)
theorem nodup_aput {β : Type} {l : List (Int × β)} {k : Int} {v : β} (h : (l.map (·.1)).Nodup) : ((aput l k v).map (·.1)).Nodup := by
  cases hg : aget l k with
  | some u =>
    obtain ⟨a, b, rfl, hn⟩ := aget_split hg
    rw [aput_mid hn]
    simpa using h
  | none =>
    rw [aput_new hg, List.map_append, List.nodup_append]
    refine ⟨h, by simp, fun x hx y hy => ?_⟩
    simp at hy
    subst hy
    exact fun e => aget_nomem hg (e ▸ hx)
theorem wfT.put {T : PT} (hw : wfT T) {num : Int} {c : PC} (h1 : 0 ≤ c.floor) (h2 : (c.ents.map (·.1)).Nodup) (h3 : ∀ q ∈ c.ents, q.2.bytes.length ≤ lim) (h4 : lenT (aput T num c) ≤ 64) : wfT (aput T num c) :=
  ⟨fun p hp => (mem_aput hp).elim (fun e => by rw [e]; exact h1) (hw.fl p), fun p hp => (mem_aput hp).elim (fun e => by rw [e]; exact h2) (hw.nd p), nodup_aput hw.nk, h4, fun p hp => (mem_aput hp).elim (fun e => by rw [e]; exact h3) (hw.by_ p)⟩
theorem mx_le (p q : Int) : p ≤ mx p q := by unfold mx; split <;> omega
/-- A client's part of it. -/
structure wfC (c : PC) : Prop where
  fl : 0 ≤ c.floor
  nd : (c.ents.map (·.1)).Nodup
  by_ : ∀ q ∈ c.ents, q.2.bytes.length ≤ lim
theorem wfT.at {T : PT} (hw : wfT T) {num : Int} {c : PC} (h : aget T num = some c) : wfC c := ⟨hw.fl _ (aget_mem h), hw.nd _ (aget_mem h), hw.by_ _ (aget_mem h)⟩
theorem wfC.new : wfC ⟨1, []⟩ := ⟨by show (0 : Int) ≤ 1; decide, by simp, by simp⟩
theorem wfC.up {c : PC} (h : wfC c) (tok fl : Int) : wfC (c.up tok fl) :=
  ⟨Int.le_trans h.fl (mx_le _ _), h.nd.sublist ((List.filter_sublist).map _), fun q hq => h.by_ q (List.mem_filter.1 hq).1⟩
theorem up_len (c : PC) (tok fl : Int) : (c.up tok fl).ents.length ≤ c.ents.length := List.length_filter_le _ _
theorem wfC.add {c : PC} (h : wfC c) {tok : Int} {e : DE} (he : e.bytes.length ≤ lim) : wfC ⟨c.floor, aput c.ents tok e⟩ :=
  ⟨h.fl, nodup_aput h.nd, fun q hq => (mem_aput hq).elim (fun e' => by rw [e']; exact he) (h.by_ q)⟩
theorem aput_len_new {β : Type} {l : List (Int × β)} {k : Int} {v : β} (h : aget l k = none) : (aput l k v).length = l.length + 1 := by rw [aput_new h]; simp
/-- The table stays right. -/
theorem offer_wf {T : PT} (hw : wfT T) (num tok fl : Int) {fresh : DE} (hb : fresh.bytes.length ≤ lim) : wfT (offerP T num tok fl fresh).1 := by
  unfold offerP
  cases hg : aget T num with
  | none =>
    simp only
    split
    · exact hw
    · have hc := wfC.new.up tok fl
      unfold offerC
      simp only [Bool.false_eq_true, if_false]
      split
      · exact hw
      · split
        · split <;> exact hw
        · split
          · exact hw
          · rename_i h1 h2 h3
            have hc2 := hc.add (tok := tok) hb
            refine hw.put hc2.fl hc2.nd hc2.by_ ?_
            rw [lenT_new _ hg]
            simp only
            have : (PC.up ⟨1, []⟩ tok fl).ents.length = 0 := Nat.le_zero.1 (up_len ⟨1, []⟩ tok fl)
            rw [aput_len_new h2, this]
            omega
  | some c =>
    have hc := (hw.at hg).up tok fl
    have hl := lenT_put (c.up tok fl) hg
    have := up_len c tok fl
    have := hw.len
    have hw1 : wfT (aput T num (c.up tok fl)) := hw.put hc.fl hc.nd hc.by_ (by omega)
    simp only
    unfold offerC
    simp only [if_true]
    split
    · exact hw1
    · split
      · split <;> exact hw1
      · split
        · exact hw1
        · rename_i h1 h2 h3
          have hc2 := hc.add (tok := tok) hb
          refine hw.put hc2.fl hc2.nd hc2.by_ ?_
          have h4 := lenT_put (⟨(c.up tok fl).floor, aput (c.up tok fl).ents tok fresh⟩ : PC) hg
          simp only [aput_len_new h2] at h4
          omega

/-! ### The walk -/
def nilA : AV := .v (.slice none 0 0) 0
def verR (v : Ver) (a : AV) (cs tab : List Chunk) : Prop :=
  (v.kind ≠ 3 ∧ a = .agg [.v (kI v.kind) 0, .v (kI 0) 0, nilA] ∧ cs = tab) ∨ (v.kind = 3 ∧ ∃ x, a = .agg [.v (kI 3) 0, .v (kI v.st) 0, .row x 1] ∧ cs = tab ++ [.row x 5 1 (v.bytes.map eB)])
def frBlk (gf : Nat) (e : DE) : Chunk := .blk gf 117 [.v (.bool e.done) 0, .v (.int .i64 e.status) 0, .d (A.bytesD e.bytes)]
def vBlk (gv : Nat) : Chunk := .blk gv 47 [.v (kI 0) 0, .v (kI 0) 0, nilA]
structure OX where
  x : CL
  kn : Bool
  oth : List (Int × CL)
def OX.ok (num : Int) (cl : List (Int × CL)) (y : OX) : Prop :=
  (y.kn = true ∧ ∃ a b, cl = a ++ (num, y.x) :: b ∧ y.oth = a ++ b ∧ aget cl num = some y.x ∧ ∀ p ∈ a, p.1 ≠ num) ∨ (y.kn = false ∧ aget cl num = none ∧ y.oth = cl ∧ y.x.c = ⟨1, []⟩ ∧ cl.length < 8)
theorem aget_plain (cl : List (Int × CL)) (k : Int) : aget (plainT cl) k = (aget cl k).map (·.c) := aget_map (fun x : CL => x.c) cl k
def baseC (g : Nat) (mo : Option Nat) (cl : List (Int × CL)) (y : OX) (c1 : PC) : List Chunk := [tbBlk g mo, mapC mo cl, clBlk y.x.gb y.x.r c1.floor 13, .map y.x.r (mapG kU entAV c1.ents), .ext (listA (clsC y.oth))]
def OX.cl (num : Int) (cl : List (Int × CL)) (y : OX) (c1 : PC) : List (Int × CL) := if y.kn then aput cl num ⟨y.x.gb, y.x.r, c1⟩ else cl
theorem mapC_aput {mo : Option Nat} {cl : List (Int × CL)} {num : Int} {x : CL} (c1 : PC) (h : aget cl num = some x) : mapC mo (aput cl num ⟨x.gb, x.r, c1⟩) = mapC mo cl := by
  obtain ⟨a, b, rfl, hn⟩ := aget_split h
  rw [aput_mid hn]
  cases mo <;> simp [mapC, mapG, clV]
theorem plain_aput (cl : List (Int × CL)) (num : Int) (x : CL) : plainT (aput cl num x) = aput (plainT cl) num x.c := (aput_map (fun x : CL => x.c) cl num x).symm
theorem plain_cl {num : Int} {cl : List (Int × CL)} {y : OX} (c1 : PC) : plainT (y.cl num cl c1) = if y.kn then aput (plainT cl) num c1 else plainT cl := by
  unfold OX.cl
  split
  · rw [plain_aput]
  · rfl
theorem base_close {g : Nat} {n : Int} {mo : Option Nat} {cl : List (Int × CL)} {y : OX} (hy : y.ok n cl) (c1 : PC) : Ent (baseC g mo cl y c1) (tabR g mo (y.cl n cl c1) ++ if y.kn then [] else clC ⟨y.x.gb, y.x.r, c1⟩) := by
  unfold OX.cl baseC
  rcases hy with ⟨hk, a, b, hab, ho, hg, hna⟩ | ⟨hk, hg, ho, hc, hl⟩
  · rw [hk, ho, if_pos rfl, if_pos rfl, List.append_nil]
    unfold tabR
    rw [mapC_aput c1 hg, hab, aput_mid hna]
    refine Ent.cons _ (Ent.cons _ ?_)
    rw [clsC_app, clsC_app]
    exact ent_unfocus (clsC a) (clC ⟨y.x.gb, y.x.r, c1⟩) (clsC b)
  · rw [hk, ho, if_neg (by simp), if_neg (by simp)]
    refine Ent.cons _ (Ent.cons _ (Ent.perm ?_))
    exact List.perm_append_comm (l₁ := clC ⟨y.x.gb, y.x.r, c1⟩) (l₂ := [.ext (listA (clsC cl))])
theorem base_open {g : Nat} {n : Int} {mo : Option Nat} {cl : List (Int × CL)} {y : OX} (hy : y.ok n cl) (c1 : PC) : Ent (tabR g mo (y.cl n cl c1) ++ if y.kn then [] else clC ⟨y.x.gb, y.x.r, c1⟩) (baseC g mo cl y c1) := by
  unfold OX.cl baseC
  rcases hy with ⟨hk, a, b, hab, ho, hg, hna⟩ | ⟨hk, hg, ho, hc, hl⟩
  · rw [hk, ho, if_pos rfl, if_pos rfl, List.append_nil]
    unfold tabR
    rw [mapC_aput c1 hg, hab, aput_mid hna]
    refine Ent.cons _ (Ent.cons _ ?_)
    rw [clsC_app, clsC_app]
    exact ent_focus (clsC a) (clC ⟨y.x.gb, y.x.r, c1⟩) (clsC b)
  · rw [hk, ho, if_neg (by simp), if_neg (by simp)]
    refine Ent.cons _ (Ent.cons _ (Ent.perm ?_))
    exact List.perm_append_comm (l₁ := [.ext (listA (clsC cl))]) (l₂ := clC ⟨y.x.gb, y.x.r, c1⟩)
theorem OX.nil {num : Int} {mo : Option Nat} {cl : List (Int × CL)} {y : OX} (hy : y.ok num cl) (hmo : mo = none → cl = []) (c1 : PC) : mo = none → y.cl num cl c1 = [] := fun h => by
  have := hmo h
  subst this
  rcases hy with ⟨hk, a, b, hab, _⟩ | ⟨hk, _⟩
  · simp at hab
  · unfold OX.cl; rw [hk]; rfl
theorem len_base {g h : Nat} {n : Int} {mo : Option Nat} {cl : List (Int × CL)} {y : OX} (hmo : mo = none → cl = []) (hy : y.ok n cl) (c1 : PC) : FSpec Try.prog 58 [ptrA g h] (baseC g mo cl y c1) fun a cs => a = i64w (lenT (if y.kn then aput (plainT cl) n c1 else plainT cl)) ∧ cs = baseC g mo cl y c1 := by
  refine ((((len_spec (g := g) (h := h) (OX.nil hy hmo c1)).frame (if y.kn then [] else clC ⟨y.x.gb, y.x.r, c1⟩)).ent (base_close hy c1))).weak fun a cs hR => ?_
  obtain ⟨cs1, rfl, rfl, rfl⟩ := hR
  exact ⟨i64w (lenT (plainT (y.cl n cl c1))), baseC g mo cl y c1, [], rfl, by rw [List.append_nil]; exact base_open hy c1, by rw [plain_cl], rfl⟩
theorem ent_last (a d : List Chunk) (c : Chunk) : Ent ((a ++ d) ++ [c]) ((a ++ [c]) ++ d) := Ent.perm (by rw [List.append_assoc, List.append_assoc]; exact (List.perm_append_left_iff a).2 List.perm_append_comm)
theorem offer_fin {g : Nat} {num : Int} {mo : Option Nat} {cl : List (Int × CL)} {y : OX} (hmo : mo = none → cl = []) (hy : y.ok num cl) (c1 : PC) (v : Ver) {r : PT × Ver} (hof : r = (if y.kn then aput (plainT cl) num c1 else plainT cl, v)) {a : AV} {cs : List Chunk} (h : verR v a cs (baseC g mo cl y c1)) :
    ∃ a' cs1 cs2, Fit a a' ∧ Ent cs (cs1 ++ cs2) ∧ ∃ mo' cl', (mo' = none → cl' = []) ∧ plainT cl' = r.1 ∧ verR r.2 a' cs1 (tabR g mo' cl') := by
  rw [hof]
  rcases h with ⟨hk, rfl, rfl⟩ | ⟨hk, x, rfl, rfl⟩
  · exact ⟨_, tabR g mo (y.cl num cl c1), _, Fit.refl _, base_close hy c1, mo, y.cl num cl c1, OX.nil hy hmo c1, plain_cl c1, .inl ⟨hk, rfl, rfl⟩⟩
  · exact ⟨_, tabR g mo (y.cl num cl c1) ++ [_], _, Fit.refl _, (Ent.app (base_close hy c1) (Ent.refl [_])).trans (ent_last _ _ _), mo, y.cl num cl c1, OX.nil hy hmo c1, plain_cl c1, .inr ⟨hk, x, rfl, rfl⟩⟩
def putC (g m : Nat) (num : Int) (cl : List (Int × CL)) (y : OX) (c2 : PC) : List Chunk := [tbBlk g (some m), .map m (mapG kI clV (aput cl num ⟨y.x.gb, y.x.r, c2⟩)), clBlk y.x.gb y.x.r c2.floor 13, .map y.x.r (mapG kU entAV c2.ents), .ext (listA (clsC y.oth))]
theorem put_close {g m : Nat} {num : Int} {cl : List (Int × CL)} {y : OX} (hy : y.ok num cl) (c2 : PC) : Ent (putC g m num cl y c2) (tabR g (some m) (aput cl num ⟨y.x.gb, y.x.r, c2⟩) ++ []) := by
  rw [List.append_nil]
  refine Ent.cons _ (Ent.cons _ ?_)
  rcases hy with ⟨hk, a, b, hab, ho, hg, hna⟩ | ⟨hk, hg, ho, hc, hl⟩
  · rw [ho, hab, aput_mid hna, clsC_app, clsC_app]
    exact ent_unfocus (clsC a) (clC ⟨y.x.gb, y.x.r, c2⟩) (clsC b)
  · rw [ho, aput_new hg, clsC_app]
    have := ent_unfocus (clsC cl) (clC ⟨y.x.gb, y.x.r, c2⟩) []
    rw [List.append_nil] at this
    exact this
theorem offer_put {g m : Nat} {num : Int} {cl : List (Int × CL)} {y : OX} (hy : y.ok num cl) (c2 : PC) (v : Ver) {r : PT × Ver} (hof : r = (aput (plainT cl) num c2, v)) {a : AV} {cs : List Chunk} (h : v.kind ≠ 3 ∧ a = .agg [.v (kI v.kind) 0, .v (kI 0) 0, nilA] ∧ cs = putC g m num cl y c2) :
    ∃ a' cs1 cs2, Fit a a' ∧ Ent cs (cs1 ++ cs2) ∧ ∃ mo' cl', (mo' = none → cl' = []) ∧ plainT cl' = r.1 ∧ verR r.2 a' cs1 (tabR g mo' cl') := by
  rw [hof]
  obtain ⟨hk, rfl, rfl⟩ := h
  exact ⟨_, _, _, Fit.refl _, put_close hy c2, some m, _, by simp, plain_aput _ _ _, .inl ⟨hk, rfl, rfl⟩⟩
set_option maxRecDepth 100000 in
theorem offer_walk {g h h1 h2 h3 : Nat} {mo : Option Nat} {cl : List (Int × CL)} {num tok fl : Int} {fresh : DE} (hmo : mo = none → cl = []) (hw : wfT (plainT cl)) (ht1 : 0 ≤ tok) (ht2 : tok < 18446744073709551616) (hf1 : 0 ≤ fl) :
    FSpec Try.prog 62 [ptrA g h, .v (kI num) h1, .v (kU tok) h2, .v (kU fl) h3, entAV fresh] (tabR g mo cl)
      fun a cs => ∃ mo' cl', (mo' = none → cl' = []) ∧ plainT cl' = (offerP (plainT cl) num tok fl fresh).1 ∧ verR (offerP (plainT cl) num tok fl fresh).2 a cs (tabR g mo' cl') := by
  refine FSpec.weak (R := fun a cs => ∃ a' cs1 cs2, Fit a a' ∧ Ent cs (cs1 ++ cs2) ∧ _) ?_ fun a cs h => h
  refine a_enter hT [ptrA g 10, .v (kI num) 0, .v (kU tok) 0, .v (kU fl) 0, entAV fresh] [10, 11, 14] Try.func62 rfl rfl rfl ⟨rfl, rfl, rfl, rfl, ⟨rfl, rfl, rfl, trivial⟩, trivial⟩ fun c => ?_
  refine a_box hT 20 rfl rfl rfl rfl fun gf => ?_
  refine a_new hT hZ 21 rfl rfl rfl rfl fun gv => ?_
  refine a_cutM hT [0, 1, 2, 3, 9, 10, 11, 12] (fun _ : Unit => [ptrA g 10, .v (kI num) 0, .v (kU tok) 0, .v (kU fl) 0, .v (.pointer (some ⟨gf, 0, none⟩)) 20, .v (.pointer (some ⟨gv, 0, none⟩)) 21, ((aget cl num).map clV).getD (.v (.pointer none) 0), .v (.bool (aget cl num).isSome) 0])
      (fun y => [(10, tbBlk g mo), (11, mapC mo cl), (20, frBlk gf fresh), (21, vBlk gv), (14, .ext (listA (clsC cl)))]) (fun y => True) 2 rfl rfl ?_ fun _ _ => ?_
  · cases mo with
    | none =>
      cases hmo rfl
      refine a_lookN hT num rfl rfl rfl mtC kI_ok zeroC rfl rfl ?_
      refine a_next hT () [10, 11, 20, 21, 14] rfl rfl trivial ⟨rfl, rfl, rfl, rfl, rfl, rfl, rfl, rfl, trivial⟩ rfl ⟨⟨rfl, rfl, rfl, trivial⟩, rfl, ⟨rfl, rfl, rfl, rfl, rfl, trivial⟩, ⟨rfl, rfl, rfl, rfl, rfl, trivial⟩, rfl, trivial⟩
    | some m =>
      generalize hres : aget cl num = res
      refine a_lookG hT (kv := kI) (va := clV) cl num res rfl rfl rfl mtC kI_ok zeroC rfl rfl rfl rfl rfl hres ?_
      refine a_next hT () [10, 11, 20, 21, 14] rfl rfl trivial ⟨rfl, rfl, rfl, rfl, rfl, rfl, ?_, rfl, trivial⟩ rfl ⟨⟨rfl, rfl, rfl, trivial⟩, ⟨rfl, rfl⟩, ⟨rfl, rfl, rfl, rfl, rfl, trivial⟩, ⟨rfl, rfl, rfl, rfl, rfl, trivial⟩, rfl, trivial⟩
      cases res <;> rfl
  · refine a_cutM hT [0, 1, 2, 3, 9, 10, 11] (fun y : OX => [ptrA g 10, .v (kI num) 0, .v (kU tok) 0, .v (kU fl) 0, .v (.pointer (some ⟨gf, 0, none⟩)) 20, .v (.pointer (some ⟨gv, 0, none⟩)) 21, ptrA y.x.gb 12])
      (fun y => [(10, tbBlk g mo), (11, mapC mo cl), (20, frBlk gf fresh), (21, vBlk gv), (12, clBlk y.x.gb y.x.r y.x.c.floor 13), (13, .map y.x.r (mapG kU entAV y.x.c.ents)), (14, .ext (listA (clsC y.oth)))]) (fun y => y.ok num cl) 0 rfl rfl ?_ fun y hy => ?_
    · cases hres : aget cl num with
      | some x =>
        refine a_f hT rfl rfl rfl ?_
        obtain ⟨a, b, hab, hna⟩ := aget_split hres
        refine a_nextE hT (OX.mk x true (a ++ b)) [10, 11, 20, 21, 14] rfl rfl (.inl ⟨rfl, a, b, hab, rfl, hres, hna⟩) ⟨rfl, rfl, rfl, rfl, rfl, rfl, rfl, trivial⟩ rfl (Ent.cons _ (Ent.cons _ (Ent.cons _ (Ent.cons _ ?_))))
        rw [hab, clsC_app, clsC_app]
        exact ent_focus (clsC a) (clC x) (clsC b)
      | none =>
        refine a_t hT rfl rfl rfl ?_
        cases mo with
        | none =>
          cases hmo rfl
          refine a_f hT rfl rfl rfl ?_
          refine a_mkmap hT 13 rfl rfl rfl fun r => ?_
          refine a_build hT hZ [.v (kU 1) 0, .v (.map (some r)) 13] rfl rfl rfl rfl rfl rfl ?_
          refine a_box hT 12 rfl rfl rfl rfl fun gb => ?_
          refine a_next hT (OX.mk ⟨gb, r, ⟨1, []⟩⟩ false []) [10, 11, 20, 21, 12, 13, 14] rfl rfl (.inr ⟨rfl, hres, rfl, rfl, by simp⟩) ⟨rfl, rfl, rfl, rfl, rfl, rfl, rfl, trivial⟩ rfl ⟨⟨rfl, rfl, rfl, trivial⟩, rfl, ⟨rfl, rfl, rfl, rfl, rfl, trivial⟩, ⟨rfl, rfl, rfl, rfl, rfl, trivial⟩, ⟨rfl, rfl, rfl, rfl, trivial⟩, ⟨rfl, rfl⟩, rfl, trivial⟩
        | some m =>
          have hlen : (mapG kI clV cl).length = cl.length := by unfold mapG; rw [List.length_map]
          refine a_if hT rfl rfl (fun h8 => ?_) (fun h8 => ?_)
          · have h8' : 8 ≤ cl.length := by
              have : ((mapG kI clV cl).length : Int) ≥ 8 := of_decide_eq_true h8
              omega
            refine a_build hT hZ [.v (kI 5) 0, .v (kI 0) 0, nilA] rfl rfl rfl rfl rfl rfl ?_
            have hof : offerP (plainT cl) num tok fl fresh = (plainT cl, ⟨5, 0, []⟩) := by
              unfold offerP
              rw [aget_plain, hres]
              show (if 8 ≤ (plainT cl).length then _ else _) = _
              rw [if_pos (by unfold plainT; rw [List.length_map]; exact h8')]
            refine a_ret hT [10, 11, 14] rfl rfl rfl rfl rfl rfl ⟨_, tabR g (some m) cl, [], Fit.refl _, by rw [List.append_nil]; exact Ent.refl _, some m, cl, by simp, by rw [hof], ?_⟩
            rw [hof]
            exact .inl ⟨by show (5 : Int) ≠ 3; decide, rfl, rfl⟩
          · have h8' : cl.length < 8 := by
              have : ¬ ((mapG kI clV cl).length : Int) ≥ 8 := of_decide_eq_false h8
              omega
            refine a_mkmap hT 13 rfl rfl rfl fun r => ?_
            refine a_build hT hZ [.v (kU 1) 0, .v (.map (some r)) 13] rfl rfl rfl rfl rfl rfl ?_
            refine a_box hT 12 rfl rfl rfl rfl fun gb => ?_
            refine a_next hT (OX.mk ⟨gb, r, ⟨1, []⟩⟩ false cl) [10, 11, 20, 21, 12, 13, 14] rfl rfl (.inr ⟨rfl, hres, rfl, rfl, h8'⟩) ⟨rfl, rfl, rfl, rfl, rfl, rfl, rfl, trivial⟩ rfl ⟨⟨rfl, rfl, rfl, trivial⟩, ⟨rfl, rfl⟩, ⟨rfl, rfl, rfl, rfl, rfl, trivial⟩, ⟨rfl, rfl, rfl, rfl, rfl, trivial⟩, ⟨rfl, rfl, rfl, rfl, trivial⟩, ⟨rfl, rfl⟩, rfl, trivial⟩
    · have hnd : (y.x.c.ents.map (·.1)).Nodup := by
        rcases hy with ⟨hk, a, b, hab, ho, hg, hna⟩ | ⟨hk, hg, ho, hc, hl⟩
        · exact hw.nd (num, y.x.c) (List.mem_map.2 ⟨(num, y.x), by rw [hab]; simp, rfl⟩)
        · rw [hc]; simp
      refine a_call hT rfl rfl rfl (by kernel_rfl) (sweep_spec (gb := y.x.gb) (r := y.x.r) (h3 := 13) (floor := mx y.x.c.floor (mn fl tok)) hnd) [12, 13] [12, 13] rfl rfl ?_
      rintro _ _ rfl
      have hwc : wfC y.x.c := by
        rcases hy with ⟨hk, a, b, hab, ho, hg, hna⟩ | ⟨hk, hg, ho, hc, hl⟩
        · exact hw.at (num := num) (by rw [aget_plain, hg]; rfl)
        · rw [hc]; exact wfC.new
      have hwu := hwc.up tok fl
      have hof : offerP (plainT cl) num tok fl fresh = offerC (plainT cl) num tok y.kn (y.x.c.up tok fl) fresh := by
        rcases hy with ⟨hk, a, b, hab, ho, hg, hna⟩ | ⟨hk, hg, ho, hc, hl⟩
        · unfold offerP
          rw [aget_plain, hg, hk]
          rfl
        · unfold offerP
          rw [aget_plain, hg, hk, hc]
          show (if 8 ≤ (plainT cl).length then _ else _) = _
          rw [if_neg (by unfold plainT; rw [List.length_map]; omega)]
      rw [hof]
      generalize hres : aget (y.x.c.up tok fl).ents tok = res
      refine a_lookG hT (kv := kU) (va := entAV) (y.x.c.up tok fl).ents tok res rfl rfl rfl mtE kU_ok zeroE rfl rfl rfl rfl rfl hres ?_
      cases res with
      | some e =>
        refine a_new hT hZ 22 rfl rfl rfl rfl fun ge => ?_
        refine a_if hT rfl rfl (fun hlt => ?_) (fun hlt => ?_)
        · have hlt' : tok < (y.x.c.up tok fl).floor := of_decide_eq_true hlt
          refine a_build hT hZ [.v (kI 4) 0, .v (kI 0) 0, nilA] rfl rfl rfl rfl rfl rfl ?_
          refine a_ret hT [10, 11, 12, 13, 14] rfl rfl rfl rfl rfl rfl (offer_fin hmo hy (y.x.c.up tok fl) ⟨4, 0, []⟩ (by unfold offerC; rw [if_pos hlt']) (.inl ⟨by show (4 : Int) ≠ 3; decide, rfl, rfl⟩))
        have hlt' : ¬ tok < (y.x.c.up tok fl).floor := of_decide_eq_false hlt
        refine a_gt hT rfl rfl rfl rfl ?_
        refine a_if hT rfl rfl (fun hd => ?_) (fun hd => ?_)
        · refine a_draw hT [] true [(0, false), (2, false), (1, false), (3, false), (4, true), (5, true), (6, true)] rfl rfl (by kernel_rfl) (by kernel_rfl) rfl ?_
          refine a_call hT rfl rfl rfl (by kernel_rfl) (cloneB (l := e.bytes) (hwu.by_ _ (aget_mem hres))) [] [1] rfl rfl ?_
          rintro _ _ ⟨x, rfl, rfl⟩
          refine a_build hT hZ [.v (kI 3) 0, .v (kI e.status) 0, .row x 1] rfl rfl rfl rfl rfl rfl ?_
          refine a_ret hT [10, 11, 12, 13, 14, 1] rfl rfl rfl rfl rfl rfl (offer_fin hmo hy (y.x.c.up tok fl) ⟨3, e.status, e.bytes⟩ (by unfold offerC; rw [if_neg hlt', hres]; simp [hd]) (.inr ⟨rfl, x, rfl, rfl⟩))
        · refine a_t hT rfl rfl rfl ?_
          refine a_build hT hZ [.v (kI 2) 0, .v (kI 0) 0, nilA] rfl rfl rfl rfl rfl rfl ?_
          refine a_ret hT [10, 11, 12, 13, 14] rfl rfl rfl rfl rfl rfl (offer_fin hmo hy (y.x.c.up tok fl) ⟨2, 0, []⟩ (by unfold offerC; rw [if_neg hlt', hres]; simp [hd]) (.inl ⟨by show (2 : Int) ≠ 3; decide, rfl, rfl⟩))
      | none =>
        refine a_new hT hZ 22 rfl rfl rfl rfl fun ge => ?_
        refine a_if hT rfl rfl (fun hlt => ?_) (fun hlt => ?_)
        · have hlt' : tok < (y.x.c.up tok fl).floor := of_decide_eq_true hlt
          refine a_build hT hZ [.v (kI 4) 0, .v (kI 0) 0, nilA] rfl rfl rfl rfl rfl rfl ?_
          refine a_ret hT [10, 11, 12, 13, 14] rfl rfl rfl rfl rfl rfl (offer_fin hmo hy (y.x.c.up tok fl) ⟨4, 0, []⟩ (by unfold offerC; rw [if_pos hlt']) (.inl ⟨by show (4 : Int) ≠ 3; decide, rfl, rfl⟩))
        have hlt' : ¬ tok < (y.x.c.up tok fl).floor := of_decide_eq_false hlt
        refine a_gf hT rfl rfl rfl rfl ?_
        refine a_f hT rfl rfl rfl ?_
        refine a_f hT rfl rfl rfl ?_
        have hw1 : 0 ≤ (y.x.c.up tok fl).floor := hwu.fl
        have hsub : IntKind.u64.wrap (tok - (y.x.c.up tok fl).floor) = tok - (y.x.c.up tok fl).floor := wrapU64 (by omega) (by omega)
        refine a_g hT rfl rfl rfl (fun hd => ?_) (fun hd => ?_)
        · have hd' : 16 ≤ tok - (y.x.c.up tok fl).floor := by
            have : IntKind.u64.wrap (tok - (y.x.c.up tok fl).floor) ≥ 16 := of_decide_eq_true hd
            omega
          refine a_t hT rfl rfl rfl ?_
          refine a_build hT hZ [.v (kI 5) 0, .v (kI 0) 0, nilA] rfl rfl rfl rfl rfl rfl ?_
          refine a_ret hT [10, 11, 12, 13, 14] rfl rfl rfl rfl rfl rfl (offer_fin hmo hy (y.x.c.up tok fl) ⟨5, 0, []⟩ (by unfold offerC; rw [if_neg hlt', hres]; simp [hd']) (.inl ⟨by show (5 : Int) ≠ 3; decide, rfl, rfl⟩))
        · have hd' : ¬ 16 ≤ tok - (y.x.c.up tok fl).floor := by
            have : ¬ IntKind.u64.wrap (tok - (y.x.c.up tok fl).floor) ≥ 16 := of_decide_eq_false hd
            omega
          refine a_call hT rfl rfl rfl (by kernel_rfl) (len_base hmo hy (y.x.c.up tok fl)) [10, 11, 12, 13, 14] [10, 11, 12, 13, 14] rfl rfl ?_
          rintro _ _ ⟨rfl, rfl⟩
          have hL0 : lenT (if y.kn then aput (plainT cl) num (y.x.c.up tok fl) else plainT cl) ≤ 64 := by
            have := hw.len
            rcases hy with ⟨hk, a, b, hab, ho, hg, hna⟩ | ⟨hk, hg, ho, hc, hl⟩
            · rw [hk, if_pos rfl]
              have := lenT_put (num := num) (c := y.x.c) (T := plainT cl) (y.x.c.up tok fl) (by rw [aget_plain, hg]; rfl)
              have := up_len y.x.c tok fl
              omega
            · rw [hk, if_neg (by simp)]
              exact this
          have hlen : IntKind.i64.wrap (lenT (if y.kn then aput (plainT cl) num (y.x.c.up tok fl) else plainT cl) : Nat) = lenT (if y.kn then aput (plainT cl) num (y.x.c.up tok fl) else plainT cl) := wrap64 (by omega) (by omega)
          refine a_if hT rfl rfl (fun hf => ?_) (fun hf => ?_)
          · have hf' : 64 ≤ lenT (if y.kn then aput (plainT cl) num (y.x.c.up tok fl) else plainT cl) := by
              have : IntKind.i64.wrap (lenT (if y.kn then aput (plainT cl) num (y.x.c.up tok fl) else plainT cl) : Nat) ≥ 64 := of_decide_eq_true hf
              omega
            refine a_build hT hZ [.v (kI 5) 0, .v (kI 0) 0, nilA] rfl rfl rfl rfl rfl rfl ?_
            refine a_ret hT [10, 11, 12, 13, 14] rfl rfl rfl rfl rfl rfl (offer_fin hmo hy (y.x.c.up tok fl) ⟨5, 0, []⟩ (by unfold offerC; rw [if_neg hlt', hres]; simp [hf']) (.inl ⟨by show (5 : Int) ≠ 3; decide, rfl, rfl⟩))
          · have hf' : ¬ 64 ≤ lenT (if y.kn then aput (plainT cl) num (y.x.c.up tok fl) else plainT cl) := by
              have : ¬ IntKind.i64.wrap (lenT (if y.kn then aput (plainT cl) num (y.x.c.up tok fl) else plainT cl) : Nat) ≥ 64 := of_decide_eq_false hf
              omega
            refine a_draw hT [] true [(0, false), (4, false), (5, false), (1, false), (2, false), (3, false), (6, true)] rfl rfl (by kernel_rfl) (by kernel_rfl) rfl ?_
            refine a_mputG hT (kv := kU) (va := entAV) (y.x.c.up tok fl).ents tok fresh rfl rfl rfl mtE kU_ok rfl rfl rfl rfl rfl rfl ?_
            have fin : offerC (plainT cl) num tok y.kn (y.x.c.up tok fl) fresh = (aput (plainT cl) num ⟨(y.x.c.up tok fl).floor, aput (y.x.c.up tok fl).ents tok fresh⟩, ⟨1, 0, []⟩) := by
              unfold offerC
              rw [if_neg hlt', hres]
              simp only
              rw [if_neg (by simp only [not_or]; exact ⟨hd', hf'⟩)]
            rw [fin]
            cases mo with
            | none =>
              cases hmo rfl
              refine a_t hT rfl rfl rfl ?_
              refine a_mkmap hT 11 rfl rfl rfl fun m => ?_
              refine a_mputG hT (kv := kI) (va := clV) [] num ⟨y.x.gb, y.x.r, ⟨(y.x.c.up tok fl).floor, aput (y.x.c.up tok fl).ents tok fresh⟩⟩ rfl rfl rfl mtC kI_ok rfl rfl rfl rfl rfl rfl ?_
              refine a_build hT hZ [.v (kI 1) 0, .v (kI 0) 0, nilA] rfl rfl rfl rfl rfl rfl ?_
              refine a_ret hT [10, 11, 12, 13, 14] rfl rfl rfl rfl rfl rfl (offer_put hy _ ⟨1, 0, []⟩ rfl ⟨by show (1 : Int) ≠ 3; decide, rfl, rfl⟩)
            | some m =>
              refine a_f hT rfl rfl rfl ?_
              refine a_mputG hT (kv := kI) (va := clV) cl num ⟨y.x.gb, y.x.r, ⟨(y.x.c.up tok fl).floor, aput (y.x.c.up tok fl).ents tok fresh⟩⟩ rfl rfl rfl mtC kI_ok rfl rfl rfl rfl rfl rfl ?_
              refine a_build hT hZ [.v (kI 1) 0, .v (kI 0) 0, nilA] rfl rfl rfl rfl rfl rfl ?_
              refine a_ret hT [10, 11, 12, 13, 14] rfl rfl rfl rfl rfl rfl (offer_put hy _ ⟨1, 0, []⟩ rfl ⟨by show (1 : Int) ≠ 3; decide, rfl, rfl⟩)
end Go.Proofs.Ytdconcindpfmcaa
