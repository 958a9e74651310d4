/- The net: Damage, All; bytes that are turned. -/
import Derived.Test.YtdconcindpfmcaaNc
set_option linter.unusedVariables false
set_option linter.unusedSimpArgs false
namespace Go.Proofs.Ytdconcindpfmcaa
open V

theorem xor_u8 (a b : UInt8) : IntKind.wrap .u8 (BitVec.ofInt IntKind.u8.bits (a.toNat : Int) ^^^ BitVec.ofInt IntKind.u8.bits (b.toNat : Int)).toNat = ((a ^^^ b).toNat : Int) := by
  have h1 : (BitVec.ofInt IntKind.u8.bits (a.toNat : Int)) = BitVec.ofNat 8 a.toNat := rfl
  have h2 : (BitVec.ofInt IntKind.u8.bits (b.toNat : Int)) = BitVec.ofNat 8 b.toNat := rfl
  rw [h1, h2]
  have h3 := a.toNat_lt
  have h4 := b.toNat_lt
  have h5 : (BitVec.ofNat 8 a.toNat ^^^ BitVec.ofNat 8 b.toNat).toNat = (a ^^^ b).toNat := by
    rw [BitVec.toNat_xor, UInt8.toNat_xor, BitVec.toNat_ofNat, BitVec.toNat_ofNat, Nat.mod_eq_of_lt h3, Nat.mod_eq_of_lt h4]
  show IntKind.wrap .u8 (((BitVec.ofNat 8 a.toNat ^^^ BitVec.ofNat 8 b.toNat).toNat : Nat) : Int) = _
  rw [h5]
  have h6 := (a ^^^ b).toNat_lt
  generalize (a ^^^ b).toNat = m at h6
  simp [IntKind.wrap, IntKind.bits, IntKind.signed]
  omega
theorem add_u8 (a b : UInt8) : IntKind.wrap .u8 ((a.toNat : Int) + (b.toNat : Int)) = ((a + b).toNat : Int) := by
  rw [UInt8.toNat_add]
  simp [IntKind.wrap, IntKind.bits, IntKind.signed]

/-- Bytes of one's own, that are some: their block. -/
theorem OwnB.pos {w : World} {base : Nat} {l : List UInt8} {v : Value} (h : OwnB w base l v) (hl : l ≠ []) :
    ∃ gb cap cur, v = .slice (some ⟨gb, 0, none⟩) l.length cap ∧ Blk w gb 5 cur ∧ l.length ≤ cap ∧ cap ≤ maxLen ∧ cur.length = cap ∧ cur.take l.length = l.map byV ∧ base ≤ gb := by
  rcases h.2 with ⟨_, h0⟩ | ⟨gb, cap, cur, hv, h1, h2, h3, h4, h5, h6⟩
  · exact absurd (List.length_eq_zero_iff.1 h0) hl
  · exact ⟨gb, cap, cur.toList, hv, h2, h3, h4, by simpa using h5, by simpa using h6, h1⟩
theorem OwnB.set {w : World} {base gb cap : Nat} {l : List UInt8} {cur : List Value} {j : Nat} {u : UInt8} (h1 : Blk w gb 5 (cur.set j (byV u))) (h2 : l.length ≤ cap) (h3 : cap ≤ maxLen) (h4 : cur.length = cap) (h5 : cur.take l.length = l.map byV) (hb : base ≤ gb) (hj : j < l.length) : OwnB w base (l.set j u) (.slice (some ⟨gb, 0, none⟩) l.length cap) := by
  refine ⟨by simp, .inr ⟨gb, cap, (cur.set j (byV u)).toArray, by simp, hb, h1, by simpa using h2, h3, by simpa using h4, ?_⟩⟩
  rw [List.toList_toArray, List.length_set, Nat.mul_one, List.take_set, h5, List.map_set]
theorem take_get {α : Type} {cur : List Value} {l : List α} {f : α → Value} (h5 : cur.take l.length = l.map f) {j : Nat} (hj : j < l.length) : cur[j]? = some (f l[j]) := by
  have : (cur.take l.length)[j]? = cur[j]? := List.getElem?_take_of_lt hj
  rw [← this, h5, List.getElem?_map, List.getElem?_eq_getElem hj]; rfl
theorem NetR.sep {w : World} {g : Nat} {v : Value} {bs : List Value} {l : List Pkt} {last : Int} (h : NetR w g v bs l last) {i j : Nat} {u u' : Value} (hi : bs[i]? = some u) (hj : bs[j]? = some u') (hij : i ≠ j) {b : Nat} (hb : ob u b) : ¬ ob u' b := by
  intro hb'
  have hnd := h.nd
  simp only [fpl, List.nodup_cons] at hnd
  have h2 : (bs.filterMap Value.ownBlock).Nodup := by
    have := hnd.2
    rw [List.filterMap_cons] at this
    split at this
    · exact this
    · exact (List.nodup_cons.1 this).2
  unfold List.Nodup at h2
  rw [List.pairwise_filterMap, List.pairwise_iff_getElem] at h2
  obtain ⟨hi1, rfl⟩ := List.getElem?_eq_some_iff.1 hi
  obtain ⟨hj1, rfl⟩ := List.getElem?_eq_some_iff.1 hj
  rcases Nat.lt_or_gt_of_ne hij with hlt | hlt
  · exact h2 i j hi1 hj1 hlt b hb b hb' rfl
  · exact h2 j i hj1 hi1 hlt b hb' b hb rfl

def DamageR (w : World) (g : Nat) (v : Value) (bs : List Value) (l : List Pkt) (last : Int) (i j : Nat) (p : Pkt) (by_ : UInt8) (e : Ending) (w' : World) : Prop :=
  e = .returned (.bool true) ∧ NetR w' g v bs (l.set i { p with bytes := p.bytes.set j (p.bytes.getD j 0 ^^^ by_) }) last ∧ Ev (fun b => ∃ u, bs[i]? = some u ∧ ob u b) w w'
theorem pcells_set : ∀ (l : List Pkt) (bs : List Value) (i : Nat) (p : Pkt) (bytes : List UInt8), l[i]? = some p → pcells (l.set i { p with bytes := bytes }) bs = pcells l bs
  | [], _, _, _, _, h => by simp at h
  | q :: l, [], 0, p, b, h => by simp [pcells]
  | q :: l, [], i + 1, p, b, h => by simp [pcells]
  | q :: l, c :: bs, 0, p, b, h => by simp at h; subst h; simp [pcells]
  | q :: l, c :: bs, i + 1, p, b, h => by simp [pcells, pcells_set l bs i p b (by simpa using h)]
set_option maxRecDepth 100000 in
theorem damage_in {w : World} {g : Nat} {v : Value} {bs : List Value} {l : List Pkt} {last : Int} {i j : Nat} {p : Pkt} {by_ : UInt8} (hn : NetR w g v bs l last) (hp : l[i]? = some p) (hj : j < p.bytes.length) :
    Calls Try.prog 35 #[.pointer (some ⟨g, 0, none⟩), .int .i64 i, .int .i64 j, byV by_] w (DamageR w g v bs l last i j p by_) := by
  have hi : i < l.length := (List.getElem?_eq_some_iff.1 hp).1
  obtain ⟨gv, cap, b, A, c, rfl, rfl, hbi, hcell, hob⟩ := hn.pkt hp
  obtain ⟨gb, capb, cur, he, hblk, hc1, hc2, hc3, hc4, hc5⟩ := hob.pos (by intro e; rw [e] at hj; simp at hj)
  cases he
  refine enter hT [.pointer (some ⟨g, 0, none⟩), .int .i64 i, .int .i64 j, byV by_] Try.func35 rfl rfl rfl ?_
  refine go_call hT rfl rfl (by kernel_rfl) rfl (there_any hn) ?_
  rintro e w1 ⟨rfl, rfl⟩
  refine ⟨.bool true, by simp; omega, trivial, ?_⟩
  refine go_gf hT rfl rfl rfl ?_
  refine go_gf hT rfl rfl (by simp) ?_
  refine go_ldB hT rfl rfl rfl rfl hn.blk rfl ?_
  refine go_ix hT rfl rfl rfl rfl rfl (by omega) (by omega) ?_
  refine go_ld hT rfl rfl rfl rfl (hcell 3 _ rfl) ?_
  refine go_f hT rfl (by simp; omega) ?_
  refine go_ldB hT rfl rfl rfl rfl hn.blk rfl ?_
  refine go_ix hT rfl rfl rfl rfl rfl (by omega) (by omega) ?_
  refine go_ld hT rfl rfl rfl rfl (hcell 3 _ rfl) ?_
  refine go_ix hT rfl rfl rfl rfl rfl (by omega) (by omega) ?_
  have hadd : (⟨gb, 0, none⟩ : Addr).add (((j : Int)).toNat * 1) = ⟨gb, j, none⟩ := by rw [add_plain]; simp
  rw [hadd]
  refine go_ldB hT rfl rfl rfl rfl hblk (take_get hc4 hj) ?_
  refine go_xor hT _ rfl rfl rfl rfl (xor_u8 p.bytes[j] by_) ?_
  refine go_ix hT rfl rfl rfl rfl rfl (by omega) (by omega) ?_
  rw [hadd]
  refine go_stB hT rfl rfl rfl rfl (v := byV (p.bytes[j] ^^^ by_)) rfl rfl hblk (by simp; omega) fun w1 he1 hb1 => ?_
  have hbn : ∀ b, ob (.slice (some ⟨gv, 0, none⟩) l.length cap) b ∨ b = g → b ≠ gb := by
    intro b hb e
    subst e
    have := hn.bne (List.mem_of_getElem? hbi) b rfl
    exact this (hb.elim .inr .inl)
  refine go_ret hT [.bool true] rfl rfl ⟨rfl, trivial⟩ ⟨rfl, ⟨?_, ?_, ?_, ?_, hn.nd⟩, he1.mono fun b _ h => ⟨_, hbi, by simp only [at1] at h; subst h; rfl⟩⟩
  · exact hn.blk.ev he1 fun h => hbn g (.inr rfl) h
  · rw [pcells_set l bs i p _ hp, List.length_set]
    exact hn.row.ev he1 fun b hb h => hbn b (.inl hb) h
  · rw [List.length_set]; exact hn.len
  · intro k q b hq hb
    rw [List.getElem?_set] at hq
    by_cases hk : i = k
    · subst hk
      rw [if_pos rfl, if_pos hi] at hq
      cases hq
      rw [hbi] at hb
      cases hb
      rw [List.getD_eq_getElem?_getD, List.getElem?_eq_getElem hj]
      exact OwnB.set hb1 hc1 hc2 hc3 hc4 hc5 hj
    · rw [if_neg hk] at hq
      refine (hn.byt k q b hq hb).ev he1 fun c hc h => ?_
      simp only [at1] at h
      subst h
      exact hn.sep hbi hb hk rfl hc

theorem damage_out {w : World} {g : Nat} {v : Value} {bs : List Value} {l : List Pkt} {last i j : Int} {by_ : UInt8} (hn : NetR w g v bs l last) (hi : ¬ (0 ≤ i ∧ i < l.length ∧ 0 ≤ j ∧ j < ((l[i.toNat]?.map fun p => p.bytes.length).getD 0 : Nat))) :
    Calls Try.prog 35 #[.pointer (some ⟨g, 0, none⟩), .int .i64 i, .int .i64 j, byV by_] w fun e w' => e = .returned (.bool false) ∧ w = w' := by
  refine enter hT [.pointer (some ⟨g, 0, none⟩), .int .i64 i, .int .i64 j, byV by_] Try.func35 rfl rfl rfl ?_
  refine go_call hT rfl rfl (by kernel_rfl) rfl (there_any hn) ?_
  rintro e w1 ⟨rfl, rfl⟩
  refine ⟨_, rfl, trivial, ?_⟩
  refine go_g hT rfl rfl (fun h => ?_) (fun h => ?_)
  · refine go_gt hT rfl rfl rfl ?_
    refine go_t hT rfl rfl ?_
    exact go_ret hT [.bool false] rfl rfl ⟨rfl, trivial⟩ ⟨rfl, rfl⟩
  have hi0 : 0 ≤ i ∧ i < l.length := by simpa using h
  refine go_g hT rfl rfl (fun h => ?_) (fun h => ?_)
  · refine go_t hT rfl rfl ?_
    exact go_ret hT [.bool false] rfl rfl ⟨rfl, trivial⟩ ⟨rfl, rfl⟩
  have hj0 : 0 ≤ j := by simpa using h
  obtain ⟨k, rfl⟩ : ∃ k : Nat, i = k := ⟨i.toNat, by omega⟩
  have hk : k < l.length := by omega
  obtain ⟨gv, cap, b, A, c, rfl, rfl, hbi, hcell, hob⟩ := hn.pkt (List.getElem?_eq_getElem hk)
  refine go_ldB hT rfl rfl rfl rfl hn.blk rfl ?_
  refine go_ix hT rfl rfl rfl rfl rfl (by omega) (by omega) ?_
  refine go_ld hT rfl rfl rfl rfl (hcell 3 _ rfl) ?_
  have hjn : ¬ j < (l[k].bytes.length : Int) := by
    intro hlt
    apply hi
    simp [List.getElem?_eq_getElem hk]
    omega
  refine go_t hT rfl (by simp; omega) ?_
  exact go_ret hT [.bool false] rfl rfl ⟨rfl, trivial⟩ ⟨rfl, rfl⟩

/-! ### All -/
/-- A row of packets of one's own. -/
def PRow (w : World) (base : Nat) (v : Value) (bs : List Value) (l : List Pkt) : Prop :=
  w.ownsRow base 36 4 v l.length (pcells l bs) ∧ bs.length = l.length ∧ (∀ (i : Nat) (p : Pkt) (b : Value), l[i]? = some p → bs[i]? = some b → OwnB w base p.bytes b) ∧ ∀ b ∈ bs, ∀ k, ob b k → ¬ ob v k
set_option maxRecDepth 100000 in
theorem all_any {w : World} {g : Nat} {v : Value} {bs : List Value} {l : List Pkt} {last : Int} (hn : NetR w g v bs l last) (hl : l.length ≤ 1000) (hb : ∀ p ∈ l, p.bytes.length ≤ lim) :
    Calls Try.prog 36 #[.pointer (some ⟨g, 0, none⟩)] w fun e w' => ∃ v' bs', e = .returned v' ∧ Ev no w w' ∧ PRow w' w.heap.size v' bs' l := by
  refine enter hT [.pointer (some ⟨g, 0, none⟩)] Try.func36 rfl rfl rfl ?_
  refine go_call hT rfl rfl (by kernel_rfl) rfl (len_any hn) ?_
  rintro e w1 ⟨rfl, rfl⟩
  refine ⟨_, rfl, trivial, ?_⟩
  refine go_loop hT [0, 3, 6, 7] (fun x : Nat × Value × List Value => [.pointer (some ⟨g, 0, none⟩), x.2.1, .int .i64 l.length, .int .i64 x.1])
    (fun x w' => x.1 ≤ l.length ∧ Ev no w w' ∧ PRow w' w.heap.size x.2.1 x.2.2 (l.take x.1)) (fun x _ => l.length - x.1) (0, .slice none 0 0, []) rfl ⟨by simp, Ev.refl _ _, World.ownsRow_nil _ _ _ _, rfl, by simp, by simp⟩ rfl ?_
  rintro ⟨i, v', bs'⟩ w1 g1 ⟨hi, he1, hp⟩
  simp only at hi he1 hp
  refine go_if hT rfl (fun h => ?_) (fun h => ?_)
  · have hlt : i < l.length := by have := of_decide_eq_true h; omega
    have hpi : l[i]? = some l[i] := List.getElem?_eq_getElem hlt
    have hn1 := hn.ev he1 fun _ _ h => h
    obtain ⟨gv, cap, b, A, c, rfl, rfl, hbi, hcell, hob⟩ := hn1.pkt hpi
    refine go_ldB hT rfl rfl rfl rfl hn1.blk rfl ?_
    refine go_ix hT rfl rfl rfl rfl rfl (by omega) (by omega) ?_
    refine go_lda hT (l[i].cells (.slice A l[i].bytes.length c)) rfl rfl rfl rfl hcell ?_
    refine go_call hT rfl rfl (by kernel_rfl) rfl (copied_any (M := no) l[i] (hob.read no fun _ _ h => h) (hb _ (List.getElem_mem hlt))) ?_
    rintro e w2 ⟨y, rfl, he2, hy⟩
    refine ⟨_, rfl, trivial, ?_⟩
    obtain ⟨Ay, cy, rfl, hcy⟩ := hy.shape
    refine go_lit1R hT (cs := l[i].cells (.slice Ay l[i].bytes.length cy)) rfl rfl rfl el36 rfl rfl rfl rfl fun g3 w3 hb3 hg3 he3 => ⟨trivial, ?_⟩
    obtain ⟨hr, hbl, hbyt, hsep⟩ := hp
    have htl : (l.take i).length = i := by rw [List.length_take]; omega
    have hr3 := (hr.ev he2 (fun _ _ h => h)).ev he3 (fun _ _ h => h)
    have s1 := he1.size
    have s2 := he2.size
    have s3 := he3.size
    refine go_appR hT rfl rfl rfl el36 rfl rfl hr3 (by omega) (m := 1) (news := l[i].cells (.slice Ay l[i].bytes.length cy)) rfl (fun _ => ⟨_, rfl, hb3.cells⟩) (by simp [Pkt.cells, Value.oneCell']) (by unfold lim; omega) fun v4 w4 hv4 he4 hob4 => ⟨trivial, ?_⟩
    have hvl := hr.lt
    have hyl := hy.lt
    have e14 : Ev no w w4 := ((he1.trans he2).trans he3).then he4 fun k hk h => by have := (hvl k h).1; omega
    have hbsl : ∀ b ∈ bs', ∀ k, ob b k → w.heap.size ≤ k ∧ k < w1.heap.size := by
      intro b hbm k hk
      obtain ⟨j, hj, rfl⟩ := List.getElem_of_mem hbm
      exact (hbyt j _ _ (List.getElem?_eq_getElem (by omega)) (List.getElem?_eq_getElem hj)).lt k hk
    refine go_next hT (i + 1, v4, bs' ++ [.slice Ay l[i].bytes.length cy]) rfl (congrArg (fun z => [Value.pointer (some ⟨g, 0, none⟩), v4, .int .i64 l.length, .int .i64 z]) (next64 (by omega))) ⟨by simp; omega, e14, ?_⟩ (by simp; omega)
    show PRow w4 w.heap.size v4 (bs' ++ [.slice Ay l[i].bytes.length cy]) (l.take (i + 1))
    have htake : l.take (i + 1) = l.take i ++ [l[i]] := by rw [List.take_add_one, hpi]; rfl
    rw [htake]
    refine ⟨?_, by simp only [List.length_append, hbl]; rfl, ?_, ?_⟩
    · rw [pcells_app _ _ _ _ hbl, List.length_append]
      exact hv4
    · intro j p b hp hb
      rcases Nat.lt_or_ge j i with hj | hj
      · rw [List.getElem?_append_left (by omega)] at hp
        rw [List.getElem?_append_left (by omega)] at hb
        exact (((hbyt j p b hp hb).ev he2 (fun _ _ h => h)).ev he3 (fun _ _ h => h)).ev he4 fun k hk h => hsep b (List.mem_of_getElem? hb) k hk h
      · rw [List.getElem?_append_right (by omega)] at hp
        rw [List.getElem?_append_right (by omega)] at hb
        have hji : j = i := by
          have := (List.getElem?_eq_some_iff.1 hp).1
          simp at this; omega
        subst hji
        simp [htl] at hp
        simp [hbl, htl] at hb
        subst hp; subst hb
        exact ((hy.ev he3 (fun _ _ h => h)).ev he4 fun k hk h => by have := (hyl k hk).1; have := (hvl k h).2; omega).lower (by omega)
    · intro b hb k hk h4
      rcases List.mem_append.1 hb with hb | hb
      · rcases hob4 k h4 with h | h
        · exact hsep b hb k hk h
        · have := (hbsl b hb k hk).2; omega
      · simp at hb
        subst hb
        have := hyl k hk
        rcases hob4 k h4 with h | h
        · have := (hvl k h).2; omega
        · omega
  · have hge : i = l.length := by have := of_decide_eq_false h; omega
    subst hge
    rw [List.take_length] at hp
    exact go_ret hT [v'] rfl rfl ⟨rfl, trivial⟩ ⟨v', bs', rfl, he1, hp⟩
theorem PRow.pkt {w : World} {base : Nat} {v : Value} {bs : List Value} {l : List Pkt} (h : PRow w base v bs l) {i : Nat} {p : Pkt} (hp : l[i]? = some p) :
    ∃ gv cap b A c, v = .slice (some ⟨gv, 0, none⟩) l.length cap ∧ b = .slice A p.bytes.length c ∧ bs[i]? = some b ∧ Cells w ((⟨gv, 0, none⟩ : Addr).add (i * 4)) (p.cells b) ∧ OwnB w base p.bytes b ∧ base ≤ gv := by
  obtain ⟨hrow, hlen, hbyt, hsep⟩ := h
  have hi : i < l.length := (List.getElem?_eq_some_iff.1 hp).1
  have hb : bs[i]? = some bs[i] := List.getElem?_eq_getElem (by omega)
  have ho := hbyt i p _ hp hb
  obtain ⟨A, c, e, _⟩ := ho.shape
  rcases hrow.2 with ⟨_, h0⟩ | ⟨gv, cap, cur, hv, h1, h2, h3, h4, h5, h6⟩
  · omega
  · refine ⟨gv, cap, bs[i], A, c, hv, e, hb, fun j u hj => ?_, ho, h1⟩
    have hj4 : j < 4 := (List.getElem?_eq_some_iff.1 hj).1
    rw [← pcells_get l bs i p _ hp hb j hj4] at hj
    rw [add_off, add_off, Nat.zero_add]
    have := hrow.cells (g := gv) (by rw [hv]; rfl) (i * 4 + j) u hj
    simpa [add_plain] using this

theorem damage_S {W w : World} {g : Nat} {l : List Pkt} {last : Int} {i j : Nat} {p : Pkt} {by_ : UInt8} (h : NetS W w g l last) (hp : l[i]? = some p) (hj : j < p.bytes.length) :
    Calls Try.prog 35 #[.pointer (some ⟨g, 0, none⟩), .int .i64 i, .int .i64 j, byV by_] w fun e w' => e = .returned (.bool true) ∧ NetS W w' g (l.set i { p with bytes := p.bytes.set j (p.bytes.getD j 0 ^^^ by_) }) last := by
  obtain ⟨v, bs, hn, he, hf⟩ := h
  refine (damage_in hn hp hj).mono fun e w' ⟨h1, h2, h3⟩ => ⟨h1, v, bs, h2, he.then h3 fun b hb ⟨u, hu, hob⟩ => ?_, hf⟩
  have := hf b (NetR.mem (List.mem_of_getElem? hu) b hob)
  omega
theorem all_S {W w : World} {g : Nat} {l : List Pkt} {last : Int} (h : NetS W w g l last) (hl : l.length ≤ 1000) (hb : ∀ p ∈ l, p.bytes.length ≤ lim) :
    Calls Try.prog 36 #[.pointer (some ⟨g, 0, none⟩)] w fun e w' => ∃ v' bs', e = .returned v' ∧ Ev no w w' ∧ PRow w' w.heap.size v' bs' l := by
  obtain ⟨v, bs, hn, he, hf⟩ := h
  exact all_any hn hl hb
end Go.Proofs.Ytdconcindpfmcaa
