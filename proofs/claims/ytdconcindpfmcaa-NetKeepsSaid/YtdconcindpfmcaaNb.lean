/- The net: Delete, Drop, Double, Deliver, All, Damage. -/
import Derived.Test.YtdconcindpfmcaaNa
import Derived.Test.YtdconcindpfmcaaP
set_option linter.unusedVariables false
set_option linter.unusedSimpArgs false
namespace Go.Proofs.Ytdconcindpfmcaa
open V

/-- An element is cut out, in place. -/
def DeleteR (w : World) (v : Value) (n i : Nat) (xs : List Value) (e : Ending) (w' : World) : Prop :=
  ∃ v', e = .returned v' ∧ w'.ownsRow 0 36 4 v' (n - 1) (xs.take (i * 4) ++ xs.drop ((i + 1) * 4)) ∧ Ev (ob v) w w' ∧ v'.ownBlock = v.ownBlock
set_option maxRecDepth 100000 in
theorem delete_at {w : World} {v : Value} {n i : Nat} {xs : List Value} (ho : w.ownsRow 0 36 4 v n xs) (hi : i < n) (h1 : ∀ u ∈ xs, u.oneCell' = true) :
    Calls Try.prog 61 #[v, .int .i64 i, .int .i64 (i + 1 : Nat)] w (DeleteR w v n i xs) := by
  obtain ⟨hxl, ho⟩ := ho
  rcases ho with ⟨rfl, h0⟩ | ⟨g, cap, cur, rfl, hb, hh, hnc, hcm, hcs, htk⟩
  · omega
  have hblk : Blk w g 36 cur.toList := hh
  refine enter hT [.slice (some ⟨g, 0, none⟩) n cap, .int .i64 i, .int .i64 (i + 1 : Nat)] Try.func61 rfl rfl rfl ?_
  refine go_sl3 hT i (i + 1) n rfl rfl rfl rfl rfl rfl rfl (by omega) (by omega) (by omega) ?_
  refine go_f hT rfl (by simp; omega) ?_
  refine go_draw hT (fun _ => True) true [(0, false), (1, false), (3, false), (4, false), (2, false), (5, false), (6, true), (7, false)] rfl (by kernel_rfl) (by kernel_rfl) trivial ?_
  have hc0 : cap ≠ 0 := by omega
  have hlc : cur.toList.length = cap * 4 := by simpa using hcs
  have hxs : ∀ j, j < n * 4 → cur.toList[j]? = xs[j]? := fun j hj => by rw [← htk, List.getElem?_take_of_lt hj]
  have hbd := hblk.ev (Ev.drew w) (fun h => h)
  refine go_slB hT 0 i (.slice (some ⟨g, 0, none⟩) i cap) rfl rfl rfl rfl rfl ⟨_, rfl⟩ (by omega) (by omega) (by simp) ?_
  refine go_slB hT (i + 1) n (.slice (some ⟨g, if cap = i + 1 then 0 else (i + 1) * 4, none⟩) (n - (i + 1)) (cap - (i + 1))) rfl rfl rfl rfl ⟨_, rfl⟩ rfl (by omega) (by omega) (by simp) ?_
  have hone : ∀ u ∈ xs.drop ((i + 1) * 4), u.oneCell' = true := fun u hu => h1 u (List.mem_of_mem_drop hu)
  refine go_appIn hT (news := xs.drop ((i + 1) * 4)) rfl rfl rfl rfl rfl hbd (by simp [hxl, Nat.sub_mul]) (fun hne => ?_) hone (by omega) (by rw [hlc]; omega) fun w1 hb1 he1 => ⟨.inr trivial, ?_⟩
  · have hlt : (i + 1) * 4 < n * 4 := by
      rcases Nat.lt_or_ge ((i + 1) * 4) (n * 4) with h | h
      · exact h
      · exact absurd (List.drop_eq_nil_of_le (by omega)) hne
    refine ⟨_, rfl, fun j u hj => ?_⟩
    rw [if_neg (by omega), add_off]
    rw [List.getElem?_drop] at hj
    have hjl : (i + 1) * 4 + j < n * 4 := by have := (List.getElem?_eq_some_iff.1 hj).1; omega
    exact hbd.cell _ (by rw [hxs _ hjl]; exact hj)
  have hsl : i + (n - (i + 1)) = n - 1 := by omega
  rw [hsl] at hb1 ⊢
  have htake : cur.toList.take (i * 4) = xs.take (i * 4) := by
    rw [← htk, List.take_take, Nat.min_eq_left (by omega)]
  have hl1 : (xs.take (i * 4) ++ xs.drop ((i + 1) * 4)).length = (n - 1) * 4 := by
    simp [hxl]; omega
  rw [Nat.zero_add, Nat.zero_add, htake] at hb1
  have hl2 : (xs.take (i * 4) ++ xs.drop ((i + 1) * 4) ++ cur.toList.drop ((n - 1) * 4)).length = cap * 4 := by
    rw [List.length_append, hl1, List.length_drop, hlc]; omega
  refine go_slB hT (n - 1) n (.slice (some ⟨g, (n - 1) * 4, none⟩) 1 (cap - (n - 1))) rfl rfl rfl rfl ⟨_, rfl⟩ ⟨_, rfl⟩ (by omega) (by omega) ?_ ?_
  · rw [if_neg (by omega), show n - (n - 1) = 1 by omega, Nat.zero_add]
  refine go_clear hT (.agg #[.int .i64 0, .int .i64 0, .int .i64 0, .slice none 0 0]) rfl rfl rfl rfl (by kernel_rfl) rfl rfl hb1 (by rw [hl2]; omega) fun w2 zs hz hb2 he2 => ⟨trivial, ?_⟩
  refine go_ret hT [.slice (some ⟨g, 0, none⟩) (n - 1) cap] rfl rfl ⟨rfl, trivial⟩ ⟨_, rfl, ⟨hl1, .inr ⟨g, cap, _, rfl, Nat.zero_le _, hb2, by omega, hcm, ?_, ?_⟩⟩, ?_, rfl⟩
  · simp only [List.size_toArray, List.length_append, List.length_take, List.length_drop, hz, List.length_append] at hl2 ⊢
    omega
  · show List.take ((n - 1) * 4) (List.toArray _).toList = _
    rw [List.toList_toArray, List.append_assoc, List.take_append_of_le_length (by rw [List.length_take, hl2]; omega), List.take_take, Nat.min_self, List.take_append_of_le_length (by rw [hl1]; omega), ← hl1, List.take_length]
  · exact ((((Ev.drew w).no.mono fun _ _ h => h).trans (he1.mono fun b _ h => by simp only [at1] at h; subst h; rfl)).trans (he2.mono fun b _ h => by simp only [at1] at h; subst h; rfl))

theorem pcells_cut : ∀ (l : List Pkt) (bs : List Value) (i : Nat), bs.length = l.length → i < l.length → pcells (l.eraseIdx i) (bs.eraseIdx i) = (pcells l bs).take (i * 4) ++ (pcells l bs).drop ((i + 1) * 4)
  | [], _, i, _, h => by simp at h
  | _ :: _, [], i, h, _ => by simp at h
  | p :: l, b :: bs, 0, h, _ => by simp [pcells]
  | p :: l, b :: bs, i + 1, h, hi => by
    simp only [List.eraseIdx_cons_succ, pcells]
    rw [pcells_cut l bs i (by simpa using h) (by simpa using hi), show (i + 1) * 4 = i * 4 + 4 by omega, show (i + 1 + 1) * 4 = (i + 1) * 4 + 4 by omega]
    simp [List.take_succ_cons, List.drop_succ_cons]
    rw [show (i + 1) * 4 = i * 4 + 4 by omega]
theorem pcells_one : ∀ (l : List Pkt) (bs : List Value), (∀ b ∈ bs, b.oneCell' = true) → ∀ u ∈ pcells l bs, u.oneCell' = true
  | [], _, _, u, h => by simp [pcells] at h
  | _ :: _, [], _, u, h => by simp [pcells] at h
  | p :: l, b :: bs, hb, u, h => by
    simp only [pcells, List.mem_cons] at h
    rcases h with rfl | rfl | rfl | rfl | h
    · rfl
    · rfl
    · rfl
    · exact hb _ (by simp)
    · exact pcells_one l bs (fun b h => hb b (by simp [h])) u h
theorem NetR.one {w : World} {g : Nat} {v : Value} {bs : List Value} {l : List Pkt} {last : Int} (h : NetR w g v bs l last) : ∀ u ∈ pcells l bs, u.oneCell' = true := by
  refine pcells_one l bs fun b hb => ?_
  obtain ⟨i, hi, rfl⟩ := List.getElem_of_mem hb
  have hl := h.len
  obtain ⟨A, c, e, _⟩ := (h.byt i l[i] bs[i] (List.getElem?_eq_getElem (by omega)) (List.getElem?_eq_getElem hi)).shape
  rw [e]; rfl
theorem nd_cut {g : Nat} {v v' : Value} {bs bs' : List Value} (h : (fpl g v bs).Nodup) (hv : v'.ownBlock = v.ownBlock) (hs : bs'.Sublist bs) : (fpl g v' bs').Nodup := by
  unfold fpl at h ⊢
  refine h.sublist (List.Sublist.cons_cons g ?_)
  rw [List.filterMap_cons, List.filterMap_cons, hv]
  split
  · exact hs.filterMap _
  · exact (hs.filterMap _).cons_cons _

def DropR (w : World) (g : Nat) (v : Value) (bs : List Value) (l : List Pkt) (last : Int) (i : Nat) (e : Ending) (w' : World) : Prop :=
  e = .returned (.bool true) ∧ ∃ v', NetR w' g v' (bs.eraseIdx i) (l.eraseIdx i) last ∧ Ev (fp2 g v) w w' ∧ v'.ownBlock = v.ownBlock
theorem drop_in {w : World} {g : Nat} {v : Value} {bs : List Value} {l : List Pkt} {last : Int} {i : Nat} (hn : NetR w g v bs l last) (hi : i < l.length) (hl : l.length ≤ 1000) :
    Calls Try.prog 30 #[.pointer (some ⟨g, 0, none⟩), .int .i64 i] w (DropR w g v bs l last i) := by
  refine enter hT [.pointer (some ⟨g, 0, none⟩), .int .i64 i] Try.func30 rfl rfl rfl ?_
  refine go_call hT rfl rfl (by kernel_rfl) rfl (there_any hn) ?_
  rintro e w1 ⟨rfl, rfl⟩
  refine ⟨_, rfl, trivial, ?_⟩
  refine go_f hT rfl (by simp; omega) ?_
  refine go_ldB hT rfl rfl rfl rfl hn.blk rfl ?_
  refine go_call hT (args := [v, .int .i64 i, .int .i64 (i + 1 : Nat)]) rfl rfl (by kernel_rfl) (congrArg (fun z => [v, .int .i64 i, .int .i64 z]) (next64 (by omega))) (delete_at hn.row hi hn.one) ?_
  rintro e w2 ⟨v', rfl, hrow, he2, hvb⟩
  refine ⟨_, rfl, trivial, ?_⟩
  have hb2 := hn.blk.ev he2 (fun h => hn.ne _ h rfl)
  have hv1 : v'.oneCell' = true := by obtain ⟨A, c, rfl, _⟩ := hrow.shape; rfl
  refine go_stB hT rfl rfl rfl rfl rfl hv1 hb2 rfl fun w3 he3 hb3 => ?_
  have hev : Ev (fp2 g v) w w3 := (he2.mono fun b _ h => .inr h).trans (he3.mono fun b _ h => .inl h)
  have hl' : (l.eraseIdx i).length = l.length - 1 := List.length_eraseIdx_of_lt hi
  have hvne : ∀ b, ob v' b → b ≠ g := fun b hb => hn.ne b (by unfold ob at hb ⊢; rw [← hvb]; exact hb)
  refine go_ret hT [.bool true] rfl rfl ⟨rfl, trivial⟩ ⟨rfl, v', ⟨hb3, ?_, ?_, ?_, nd_cut hn.nd hvb (List.eraseIdx_sublist ..)⟩, hev, hvb⟩
  · rw [pcells_cut l bs i hn.len hi, hl']
    exact hrow.ev he3 hvne
  · rw [hl', List.length_eraseIdx_of_lt (by rw [hn.len]; exact hi), hn.len]
  · intro j p b hp hb
    rw [List.getElem?_eraseIdx] at hp hb
    by_cases hj : j < i
    · rw [if_pos hj] at hp hb
      exact (hn.byt j p b hp hb).ev hev (hn.bne (List.mem_of_getElem? hb))
    · rw [if_neg hj] at hp hb
      exact (hn.byt (j + 1) p b hp hb).ev hev (hn.bne (List.mem_of_getElem? hb))
theorem drop_out {w : World} {g : Nat} {v : Value} {bs : List Value} {l : List Pkt} {last i : Int} (hn : NetR w g v bs l last) (hi : ¬ (0 ≤ i ∧ i < l.length)) :
    Calls Try.prog 30 #[.pointer (some ⟨g, 0, none⟩), .int .i64 i] w fun e w' => e = .returned (.bool false) ∧ w = w' := by
  refine enter hT [.pointer (some ⟨g, 0, none⟩), .int .i64 i] Try.func30 rfl rfl rfl ?_
  refine go_call hT rfl rfl (by kernel_rfl) rfl (there_any hn) ?_
  rintro e w1 ⟨rfl, rfl⟩
  refine ⟨_, rfl, trivial, ?_⟩
  refine go_t hT rfl (by simp; omega) ?_
  exact go_ret hT [.bool false] rfl rfl ⟨rfl, trivial⟩ ⟨rfl, rfl⟩

def Pkt.cells (p : Pkt) (b : Value) : List Value := [.int .i64 p.num, .int .i64 p.frm, .int .i64 p.to, b]
theorem pcells_get : ∀ (l : List Pkt) (bs : List Value) (i : Nat) (p : Pkt) (b : Value), l[i]? = some p → bs[i]? = some b → ∀ j, j < 4 → (pcells l bs)[i * 4 + j]? = (p.cells b)[j]?
  | [], _, i, p, b, h, _, _, _ => by simp at h
  | _ :: _, [], i, p, b, _, h, _, _ => by simp at h
  | q :: l, c :: bs, 0, p, b, h, h2, j, hj => by
    simp at h h2
    subst h; subst h2
    match j, hj with
    | 0, _ => rfl
    | 1, _ => rfl
    | 2, _ => rfl
    | 3, _ => rfl
  | q :: l, c :: bs, i + 1, p, b, h, h2, j, hj => by
    rw [show (i + 1) * 4 + j = i * 4 + j + 4 by omega]
    simp only [pcells, List.getElem?_cons_succ]
    exact pcells_get l bs i p b (by simpa using h) (by simpa using h2) j hj
theorem NetR.pkt {w : World} {g : Nat} {v : Value} {bs : List Value} {l : List Pkt} {last : Int} (h : NetR w g v bs l last) {i : Nat} {p : Pkt} (hp : l[i]? = some p) :
    ∃ gv cap b A c, v = .slice (some ⟨gv, 0, none⟩) l.length cap ∧ b = .slice A p.bytes.length c ∧ bs[i]? = some b ∧ Cells w ((⟨gv, 0, none⟩ : Addr).add (i * 4)) (p.cells b) ∧ OwnB w 0 p.bytes b := by
  have hi : i < l.length := (List.getElem?_eq_some_iff.1 hp).1
  have hbl := h.len
  have hb : bs[i]? = some bs[i] := List.getElem?_eq_getElem (by omega)
  have ho := h.byt i p _ hp hb
  obtain ⟨A, c, e, _⟩ := ho.shape
  rcases h.row.2 with ⟨_, h0⟩ | ⟨gv, cap, cur, hv, h1, h2, h3, h4, h5, h6⟩
  · omega
  · refine ⟨gv, cap, bs[i], A, c, hv, e, hb, fun j u hj => ?_, ho⟩
    have hj4 : j < 4 := (List.getElem?_eq_some_iff.1 hj).1
    rw [← pcells_get l bs i p _ hp hb j hj4] at hj
    rw [add_off, add_off, Nat.zero_add]
    have := h.row.cells (g := gv) (by rw [hv]; rfl) (i * 4 + j) u hj
    simpa [add_plain] using this

theorem double_in {w : World} {g : Nat} {v : Value} {bs : List Value} {l : List Pkt} {last : Int} {i : Nat} {p : Pkt} (hn : NetR w g v bs l last) (hp : l[i]? = some p) (hlen : l.length < 200) (hb : p.bytes.length ≤ lim) (hl0 : 0 ≤ last) (hl1 : last < 4611686018427387904) :
    Calls Try.prog 29 #[.pointer (some ⟨g, 0, none⟩), .int .i64 i] w (SendR w g v bs l last p.frm p.to p.bytes) := by
  have hi : i < l.length := (List.getElem?_eq_some_iff.1 hp).1
  obtain ⟨gv, cap, b, A, c, rfl, rfl, hbi, hcell, hob⟩ := hn.pkt hp
  refine enter hT [.pointer (some ⟨g, 0, none⟩), .int .i64 i] Try.func29 rfl rfl rfl ?_
  refine go_f hT rfl rfl ?_
  refine go_call hT rfl rfl (by kernel_rfl) rfl (there_any hn) ?_
  rintro e w1 ⟨rfl, rfl⟩
  refine ⟨_, rfl, trivial, ?_⟩
  refine go_f hT rfl (by simp; omega) ?_
  refine go_ldB hT rfl rfl rfl rfl hn.blk rfl ?_
  refine go_ix hT rfl rfl rfl rfl rfl (by omega) (by omega) ?_
  refine go_lda hT (p.cells (.slice A p.bytes.length c)) rfl rfl rfl rfl hcell ?_
  refine go_newB hT (.agg #[.int .i64 0, .int .i64 0, .int .i64 0, .slice none 0 0]) (cs := [.int .i64 0, .int .i64 0, .int .i64 0, .slice none 0 0]) rfl rfl (by kernel_rfl) rfl fun w1 g1 he1 hg1 hb1 => ⟨trivial, ?_⟩
  refine go_staB hT (p.cells (.slice A p.bytes.length c)) rfl rfl rfl rfl rfl (by simp [Pkt.cells, Value.oneCell']) hb1 rfl fun w2 he2 hb2 => ⟨trivial, ?_⟩
  refine go_ldB hT rfl rfl rfl rfl hb2 rfl ?_
  refine go_ldB hT rfl rfl rfl rfl hb2 rfl ?_
  refine go_ldB hT rfl rfl rfl rfl hb2 rfl ?_
  have he : Ev no w w2 := he1.then he2 fun i hi h => by simp only [at1] at h; omega
  have hn2 := hn.ev he fun _ _ h => h
  have hx := (hob.ev he fun _ _ h => h).read (fp2 g (.slice (some ⟨gv, 0, none⟩) l.length cap)) (hn.bne (List.mem_of_getElem? hbi))
  refine go_call hT rfl rfl (by kernel_rfl) rfl (send_room hn2 hx hb hlen hl0 hl1) ?_
  rintro e w3 ⟨rfl, v', b', hn3, he3, hv', hb'⟩
  refine ⟨_, rfl, trivial, ?_⟩
  have hs := he.size
  refine go_ret hT [.int .i64 (last + 1), .int .i64 0] rfl rfl ⟨rfl, rfl, trivial⟩ ⟨rfl, v', b', hn3, he.no.trans he3, fun b hb => (hv' b hb).imp id fun h => by omega, fun b hb => by have := hb' b hb; omega⟩
theorem double_full {w : World} {g : Nat} {v : Value} {bs : List Value} {l : List Pkt} {last : Int} {i : Nat} (hn : NetR w g v bs l last) (hi : i < l.length) (hlen : 200 ≤ l.length) :
    Calls Try.prog 29 #[.pointer (some ⟨g, 0, none⟩), .int .i64 i] w fun e w' => e = .returned (.tuple #[.int .i64 0, .int .i64 14]) ∧ Ev no w w' := by
  obtain ⟨gv, cap, b, A, c, rfl, rfl, hbi, hcell, hob⟩ := hn.pkt (List.getElem?_eq_getElem hi)
  refine enter hT [.pointer (some ⟨g, 0, none⟩), .int .i64 i] Try.func29 rfl rfl rfl ?_
  refine go_f hT rfl rfl ?_
  refine go_call hT rfl rfl (by kernel_rfl) rfl (there_any hn) ?_
  rintro e w1 ⟨rfl, rfl⟩
  refine ⟨_, rfl, trivial, ?_⟩
  refine go_f hT rfl (by simp; omega) ?_
  refine go_ldB hT rfl rfl rfl rfl hn.blk rfl ?_
  refine go_ix hT rfl rfl rfl rfl rfl (by omega) (by omega) ?_
  refine go_lda hT (l[i].cells (.slice A l[i].bytes.length c)) rfl rfl rfl rfl hcell ?_
  refine go_newB hT (.agg #[.int .i64 0, .int .i64 0, .int .i64 0, .slice none 0 0]) (cs := [.int .i64 0, .int .i64 0, .int .i64 0, .slice none 0 0]) rfl rfl (by kernel_rfl) rfl fun w1 g1 he1 hg1 hb1 => ⟨trivial, ?_⟩
  refine go_staB hT (l[i].cells (.slice A l[i].bytes.length c)) rfl rfl rfl rfl rfl (by simp [Pkt.cells, Value.oneCell']) hb1 rfl fun w2 he2 hb2 => ⟨trivial, ?_⟩
  refine go_ldB hT rfl rfl rfl rfl hb2 rfl ?_
  refine go_ldB hT rfl rfl rfl rfl hb2 rfl ?_
  refine go_ldB hT rfl rfl rfl rfl hb2 rfl ?_
  have he : Ev no w w2 := he1.then he2 fun i hi h => by simp only [at1] at h; omega
  refine go_call hT rfl rfl (by kernel_rfl) rfl (send_full (hn.ev he fun _ _ h => h) hlen) ?_
  rintro e w3 ⟨rfl, rfl⟩
  refine ⟨_, rfl, trivial, ?_⟩
  exact go_ret hT [.int .i64 0, .int .i64 14] rfl rfl ⟨rfl, rfl, trivial⟩ ⟨rfl, he⟩
theorem double_none {w : World} {g : Nat} {v : Value} {bs : List Value} {l : List Pkt} {last i : Int} (hn : NetR w g v bs l last) (hi : ¬ (0 ≤ i ∧ i < l.length)) :
    Calls Try.prog 29 #[.pointer (some ⟨g, 0, none⟩), .int .i64 i] w fun e w' => e = .returned (.tuple #[.int .i64 0, .int .i64 5]) ∧ w = w' := by
  refine enter hT [.pointer (some ⟨g, 0, none⟩), .int .i64 i] Try.func29 rfl rfl rfl ?_
  refine go_f hT rfl rfl ?_
  refine go_call hT rfl rfl (by kernel_rfl) rfl (there_any hn) ?_
  rintro e w1 ⟨rfl, rfl⟩
  refine ⟨_, rfl, trivial, ?_⟩
  refine go_t hT rfl (by simp; omega) ?_
  exact go_ret hT [.int .i64 0, .int .i64 5] rfl rfl ⟨rfl, rfl, trivial⟩ ⟨rfl, rfl⟩

def Pkt.val (p : Pkt) (y : Value) : Value := .agg #[.int .i64 p.num, .int .i64 p.frm, .int .i64 p.to, y]
def DeliverR (w : World) (g : Nat) (v : Value) (bs : List Value) (l : List Pkt) (last : Int) (i : Nat) (p : Pkt) (e : Ending) (w' : World) : Prop :=
  ∃ y v', e = .returned (.tuple #[p.val y, .bool true]) ∧ NetR w' g v' (bs.eraseIdx i) (l.eraseIdx i) last ∧ Ev (fp2 g v) w w' ∧ OwnB w' w.heap.size p.bytes y ∧ v'.ownBlock = v.ownBlock ∧ (∀ b, ob y b → ¬ fp g v' (bs.eraseIdx i) b)
theorem fp_cut {g : Nat} {v v' : Value} {bs bs' : List Value} (hv : v'.ownBlock = v.ownBlock) (hs : bs'.Sublist bs) : ∀ b, fp g v' bs' b → fp g v bs b := by
  intro b hb
  simp only [fp, fpl, List.mem_cons, List.mem_filterMap] at hb ⊢
  rcases hb with rfl | ⟨u, hu, hb⟩
  · exact .inl rfl
  · rcases hu with rfl | hu
    · exact .inr ⟨v, .inl rfl, by rw [← hv]; exact hb⟩
    · exact .inr ⟨u, .inr (hs.subset hu), hb⟩
theorem fp2_fp {g : Nat} {v : Value} {bs : List Value} : ∀ b, fp2 g v b → fp g v bs b := by
  intro b hb
  simp only [fp, fpl, List.mem_cons, List.mem_filterMap]
  rcases hb with hb | hb
  · exact .inl hb
  · exact .inr ⟨v, .inl rfl, hb⟩
theorem deliver_in {w : World} {g : Nat} {v : Value} {bs : List Value} {l : List Pkt} {last : Int} {i : Nat} {p : Pkt} (hn : NetR w g v bs l last) (hp : l[i]? = some p) (hl : l.length ≤ 1000) (hpb : p.bytes.length ≤ lim) :
    Calls Try.prog 27 #[.pointer (some ⟨g, 0, none⟩), .int .i64 i] w (DeliverR w g v bs l last i p) := by
  have hi : i < l.length := (List.getElem?_eq_some_iff.1 hp).1
  obtain ⟨gv, cap, b, A, c, rfl, rfl, hbi, hcell, hob⟩ := hn.pkt hp
  refine enter hT [.pointer (some ⟨g, 0, none⟩), .int .i64 i] Try.func27 rfl rfl rfl ?_
  refine go_newB hT (.agg #[.int .i64 0, .int .i64 0, .int .i64 0, .slice none 0 0]) (cs := [.int .i64 0, .int .i64 0, .int .i64 0, .slice none 0 0]) rfl rfl (by kernel_rfl) rfl fun w1 g1 he1 hg1 hb1 => ⟨trivial, ?_⟩
  have l1 := hb1.lt
  have s1 := he1.size
  have lw := hn.lt
  have hn1 := hn.ev he1 fun _ _ h => h
  refine go_call hT rfl rfl (by kernel_rfl) rfl (there_any hn1) ?_
  rintro e w2 ⟨rfl, rfl⟩
  refine ⟨_, rfl, trivial, ?_⟩
  refine go_f hT rfl (by simp; omega) ?_
  refine go_ldB hT rfl rfl rfl rfl hn1.blk rfl ?_
  refine go_ix hT rfl rfl rfl rfl rfl (by omega) (by omega) ?_
  refine go_lda hT (p.cells (.slice A p.bytes.length c)) rfl rfl rfl rfl (fun j u hj => he1.cell (hcell j u hj) (fun h => h)) ?_
  refine go_call hT rfl rfl (by kernel_rfl) rfl (copied_any (M := no) p ((hob.read no fun _ _ h => h).to he1) hpb) ?_
  rintro e w2 ⟨y, rfl, he2, hy⟩
  refine ⟨_, rfl, trivial, ?_⟩
  have s2 := he2.size
  have hb1 := hb1.ev he2 fun h => h
  have hy1 : ∃ Ay cy, y = .slice Ay p.bytes.length cy := by obtain ⟨Ay, cy, e, _⟩ := hy.shape; exact ⟨Ay, cy, e⟩
  have hyl := hy.lt
  obtain ⟨Ay, cy, rfl⟩ := hy1
  refine go_newB hT (.agg #[.int .i64 0, .int .i64 0, .int .i64 0, .slice none 0 0]) (cs := [.int .i64 0, .int .i64 0, .int .i64 0, .slice none 0 0]) rfl rfl (by kernel_rfl) rfl fun w3 g3 he3 hg3 hb3 => ⟨trivial, ?_⟩
  have hb1 := hb1.ev he3 fun h => h
  have l3 := hb3.lt
  have s3 := he3.size
  refine go_staB hT (p.cells (.slice Ay p.bytes.length cy)) rfl rfl rfl rfl rfl (by simp [Pkt.cells, Value.oneCell']) hb3 rfl fun w4 he4 hb3 => ⟨trivial, ?_⟩
  have hb1 := hb1.ev he4 fun h => by simp only [at1] at h; omega
  have s4 := he4.size
  have hy4 := (hy.ev he3 fun _ _ h => h).ev he4 fun b hb h => by simp only [at1] at h; have := (hyl b hb).2; omega
  have hn4 := ((hn1.ev he2 fun _ _ h => h).ev he3 fun _ _ h => h).ev he4 fun b hb h => by simp only [at1] at h; have := lw b hb; omega
  refine go_call hT rfl rfl (by kernel_rfl) rfl (drop_in hn4 hi hl) ?_
  rintro e w5 ⟨rfl, v', hn5, he5, hvb⟩
  refine ⟨_, rfl, trivial, ?_⟩
  have lw2 : ∀ b, fp2 g (.slice (some ⟨gv, 0, none⟩) l.length cap) b → b < w.heap.size := fun b hb => lw b (fp2_fp b hb)
  have hb1 := hb1.ev he5 fun h => by have := lw2 _ h; omega
  have hb3 := hb3.ev he5 fun h => by have := lw2 _ h; omega
  have hy5 := hy4.ev he5 fun b hb h => by have := (hyl b hb).1; have := lw2 _ h; omega
  refine go_lda hT (p.cells (.slice Ay p.bytes.length cy)) rfl rfl rfl rfl hb3.cells ?_
  refine go_staB hT (p.cells (.slice Ay p.bytes.length cy)) rfl rfl rfl rfl rfl (by simp [Pkt.cells, Value.oneCell']) hb1 rfl fun w6 he6 hb1 => ⟨trivial, ?_⟩
  have hfp : ∀ b, fp g v' (bs.eraseIdx i) b → b < w.heap.size := fun b hb => lw b (fp_cut hvb (List.eraseIdx_sublist ..) b hb)
  refine go_ret hT [p.val (.slice Ay p.bytes.length cy), .bool true] rfl rfl ⟨⟨_, rfl, run_loada hT rfl hb1.cells⟩, rfl, trivial⟩ ⟨_, v', rfl, hn5.ev he6 fun b hb h => by simp only [at1] at h; have := hfp b hb; omega, ?_, (hy5.ev he6 fun b hb h => by simp only [at1] at h; have := (hyl b hb).1; omega).lower (by omega), hvb, fun b hb h => by have := (hyl b hb).1; have := hfp b h; omega⟩
  have e14 : Ev no w w4 := ((he1.trans he2).trans he3).then he4 fun i hi h => by simp only [at1] at h; omega
  exact (e14.no.trans he5).then he6 fun i hi h => by simp only [at1] at h; omega
theorem deliver_out {w : World} {g : Nat} {v : Value} {bs : List Value} {l : List Pkt} {last i : Int} (hn : NetR w g v bs l last) (hi : ¬ (0 ≤ i ∧ i < l.length)) :
    Calls Try.prog 27 #[.pointer (some ⟨g, 0, none⟩), .int .i64 i] w fun e w' => e = .returned (.tuple #[.agg #[.int .i64 0, .int .i64 0, .int .i64 0, .slice none 0 0], .bool false]) ∧ Ev no w w' := by
  refine enter hT [.pointer (some ⟨g, 0, none⟩), .int .i64 i] Try.func27 rfl rfl rfl ?_
  refine go_newB hT (.agg #[.int .i64 0, .int .i64 0, .int .i64 0, .slice none 0 0]) (cs := [.int .i64 0, .int .i64 0, .int .i64 0, .slice none 0 0]) rfl rfl (by kernel_rfl) rfl fun w1 g1 he1 hg1 hb1 => ⟨trivial, ?_⟩
  refine go_call hT rfl rfl (by kernel_rfl) rfl (there_any (hn.ev he1 fun _ _ h => h)) ?_
  rintro e w2 ⟨rfl, rfl⟩
  refine ⟨_, rfl, trivial, ?_⟩
  refine go_t hT rfl (by simp; omega) ?_
  refine go_build hT #[.int .i64 0, .int .i64 0, .int .i64 0, .slice none 0 0] rfl rfl rfl (by kernel_rfl) rfl ?_
  refine go_staB hT [.int .i64 0, .int .i64 0, .int .i64 0, .slice none 0 0] rfl rfl rfl rfl rfl (by simp [Value.oneCell']) hb1 rfl fun w3 he3 hb3 => ⟨trivial, ?_⟩
  refine go_ret hT [.agg #[.int .i64 0, .int .i64 0, .int .i64 0, .slice none 0 0], .bool false] rfl rfl ⟨⟨_, rfl, run_loada hT rfl hb3.cells⟩, rfl, trivial⟩ ⟨rfl, he1.then he3 fun i hi h => ?_⟩
  simp only [at1] at h; omega
end Go.Proofs.Ytdconcindpfmcaa
