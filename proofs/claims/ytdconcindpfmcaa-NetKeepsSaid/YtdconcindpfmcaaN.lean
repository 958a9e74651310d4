/- The net: its contracts. -/
import Derived.Test.YtdconcindpfmcaaT
import Derived.Test.YtdconcindpfmcaaO
set_option linter.unusedVariables false
set_option linter.unusedSimpArgs false
namespace Go.Proofs.Ytdconcindpfmcaa
open V

/-- A row of bytes of one's own. -/
def OwnB (w : World) (base : Nat) (l : List UInt8) (v : Value) : Prop := w.ownsRow base 5 1 v l.length (l.map byV)
theorem OwnB.own {w : World} {base : Nat} {l : List UInt8} {v : Value} (h : OwnB w base l v) (M : Nat → Prop) : Own M w base 5 1 (l.map byD) v := ⟨_, _, h, oneCells byV (fun _ => rfl) l⟩
theorem vals_eq {M : Nat → Prop} {w : World} {α : Type} {g : α → Value} : ∀ {l : List α} {xs : List Value}, VRep M w (l.map fun x => .v (g x)) xs → xs = l.map g
  | [], xs, h => by unfold VRep at h; exact h
  | x :: l, xs, h => by
    simp only [List.map_cons] at h
    unfold VRep at h
    obtain ⟨y, r, rfl, h1, h2⟩ := h
    rw [h1.val, vals_eq h2]; rfl
theorem OwnB.of {M : Nat → Prop} {w : World} {base : Nat} {l : List UInt8} {v : Value} (h : Own M w base 5 1 (l.map byD) v) : OwnB w base l v := by
  obtain ⟨m, xs, ho, hx⟩ := h
  have e := vals_eq (g := byV) hx
  have : m = l.length := by have := ho.1; rw [e] at this; simp at this; omega
  subst this; subst e; exact ho
theorem OwnB.read {w : World} {base : Nat} {l : List UInt8} {v : Value} (h : OwnB w base l v) (M : Nat → Prop) (hM : ∀ b, ob v b → ¬ M b) : ARep M w (bytesD l) v := (h.own M).read hM
theorem OwnB.ev {N : Nat → Prop} {w w' : World} {base : Nat} {l : List UInt8} {v : Value} (h : OwnB w base l v) (he : Ev N w w') (hN : ∀ b, ob v b → ¬ N b) : OwnB w' base l v :=
  OwnB.of (M := no) ((h.own N).ev he (fun b _ h => h.elim id fun h => h.elim) hN)
theorem OwnB.lt {w : World} {base : Nat} {l : List UInt8} {v : Value} (h : OwnB w base l v) : ∀ b, ob v b → base ≤ b ∧ b < w.heap.size := World.ownsRow.lt h
theorem OwnB.shape {w : World} {base : Nat} {l : List UInt8} {v : Value} (h : OwnB w base l v) : ∃ A c, v = .slice A l.length c ∧ l.length ≤ c := by
  rcases h.2 with ⟨rfl, h0⟩ | ⟨g, cap, cur, rfl, hb, hh, hn, _⟩
  · exact ⟨none, 0, by rw [h0], by omega⟩
  · exact ⟨_, cap, rfl, hn⟩

theorem el8 : elemOk Try.prog 5 1 = true := by kernel_rfl

def CloneR (w : World) (l : List UInt8) (e : Ending) (w' : World) : Prop := ∃ v, e = .returned v ∧ Ev no w w' ∧ OwnB w' w.heap.size l v
theorem clone_u8 {M : Nat → Prop} {w : World} {l : List UInt8} {x : Value} (h : ARep M w (bytesD l) x) (hl : l.length ≤ lim) :
    Calls Try.prog 63 #[x] w (CloneR w l) := by
  obtain ⟨A, c, rfl, hc, hr⟩ := bytes_cells h
  refine enter hT [.slice A l.length c] Try.func63 rfl rfl rfl ?_
  cases A with
  | none =>
    have : l = [] := by
      cases l with
      | nil => rfl
      | cons b l => obtain ⟨ad, h, _⟩ := hr (by simp); cases h
    subst this
    refine go_t hT rfl rfl ?_
    refine go_ret hT [.slice none 0 0] rfl rfl ⟨rfl, trivial⟩ ⟨_, rfl, Ev.refl _ _, World.ownsRow_nil _ _ _ _⟩
  | some ad =>
    refine go_f hT rfl rfl ?_
    refine go_lit0 hT (M := no) rfl rfl rfl fun u w1 hu he1 => ⟨trivial, ?_⟩
    refine go_app hT rfl rfl rfl el8 rfl rfl hu he1.size (h.past he1 (M' := or2 no (ob u)) fun b hb => hb.elim (fun h => h.elim) fun hb => .inr (hu.lt b hb).1) (by simpa [bytesD] using hl) fun v w2 hv he2 hb => ⟨trivial, ?_⟩
    refine go_ret hT [v] rfl rfl ⟨rfl, trivial⟩ ⟨v, rfl, he1.then he2 fun i hi ho => absurd hi (Nat.not_lt.2 (hu.lt i ho).1), OwnB.of (M := no) (by simpa using hv)⟩

theorem _root_.Go.World.ownsRow.shape {w : World} {base e k : Nat} {v : Value} {m : Nat} {xs : List Value} (h : w.ownsRow base e k v m xs) : ∃ A c, v = .slice A m c ∧ m ≤ c := by
  rcases h.2 with ⟨rfl, h0⟩ | ⟨g, cap, cur, rfl, hb, hh, hn, _⟩
  · exact ⟨none, 0, by rw [h0], by omega⟩
  · exact ⟨_, cap, rfl, hn⟩
theorem _root_.Go.World.ownsRow.ev {N : Nat → Prop} {w w' : World} {base e k : Nat} {v : Value} {m : Nat} {xs : List Value} (h : w.ownsRow base e k v m xs) (he : Ev N w w') (hN : ∀ b, ob v b → ¬ N b) : w'.ownsRow base e k v m xs := by
  obtain ⟨hl, ho⟩ := h
  refine ⟨hl, ?_⟩
  rcases ho with ho | ⟨g, cap, cur, rfl, hb, hh, r⟩
  · exact .inl ho
  · exact .inr ⟨g, cap, cur, rfl, hb, by rw [he.block g (Array.getElem?_eq_some_iff.1 hh).1 (hN g rfl)]; exact hh, r⟩

theorem _root_.Go.World.ownsRow.lower {w : World} {base base' e k : Nat} {v : Value} {m : Nat} {xs : List Value} (h : w.ownsRow base e k v m xs) (hb : base' ≤ base) : w.ownsRow base' e k v m xs := by
  obtain ⟨hl, ho⟩ := h
  refine ⟨hl, ?_⟩
  rcases ho with ho | ⟨g, cap, cur, e1, e2, r⟩
  · exact .inl ho
  · exact .inr ⟨g, cap, cur, e1, by omega, r⟩

/-! ### Packets, and the net -/
structure Pkt where
  num : Int
  frm : Int
  to : Int
  bytes : List UInt8
def pcells : List Pkt → List Value → List Value
  | p :: l, b :: bs => .int .i64 p.num :: .int .i64 p.frm :: .int .i64 p.to :: b :: pcells l bs
  | _, _ => []
theorem pcells_app : ∀ (l : List Pkt) (bs : List Value) (p : Pkt) (b : Value), bs.length = l.length → pcells (l ++ [p]) (bs ++ [b]) = pcells l bs ++ [.int .i64 p.num, .int .i64 p.frm, .int .i64 p.to, b]
  | [], [], p, b, _ => rfl
  | [], _ :: _, p, b, h => by simp at h
  | _ :: _, [], p, b, h => by simp at h
  | q :: l, c :: bs, p, b, h => by simp [pcells, pcells_app l bs p b (by simpa using h)]
def fpl (g : Nat) (v : Value) (bs : List Value) : List Nat := g :: (v :: bs).filterMap Value.ownBlock
def fp (g : Nat) (v : Value) (bs : List Value) : Nat → Prop := fun b => b ∈ fpl g v bs
structure NetR (w : World) (g : Nat) (v : Value) (bs : List Value) (l : List Pkt) (last : Int) : Prop where
  blk : Blk w g 98 [v, .int .i64 last]
  row : w.ownsRow 0 36 4 v l.length (pcells l bs)
  len : bs.length = l.length
  byt : ∀ (i : Nat) (p : Pkt) (b : Value), l[i]? = some p → bs[i]? = some b → OwnB w 0 p.bytes b
  nd : (fpl g v bs).Nodup
/-- A net at block g: its packets, the last number, and the blocks that are its own. -/
def NetO (w : World) (g : Nat) (S : Nat → Prop) (l : List Pkt) (last : Int) : Prop := ∃ v bs, NetR w g v bs l last ∧ S = fp g v bs

theorem el36 : elemOk Try.prog 36 4 = true := by kernel_rfl

def CopiedR (w : World) (p : Pkt) (e : Ending) (w' : World) : Prop := ∃ v, e = .returned (.agg #[.int .i64 p.num, .int .i64 p.frm, .int .i64 p.to, v]) ∧ Ev no w w' ∧ OwnB w' w.heap.size p.bytes v
theorem copied_any {M : Nat → Prop} {w : World} (p : Pkt) {x : Value} (h : ARep M w (bytesD p.bytes) x) (hl : p.bytes.length ≤ lim) :
    Calls Try.prog 59 #[.agg #[.int .i64 p.num, .int .i64 p.frm, .int .i64 p.to, x]] w (CopiedR w p) := by
  refine enter hT [.agg #[.int .i64 p.num, .int .i64 p.frm, .int .i64 p.to, x]] Try.func59 rfl rfl rfl ?_
  refine go_boxB hT (cs := [.int .i64 p.num, .int .i64 p.frm, .int .i64 p.to, x]) rfl rfl rfl rfl fun w1 g1 he1 hg1 hb1 => ⟨trivial, ?_⟩
  refine go_newB hT (.agg #[.int .i64 0, .int .i64 0, .int .i64 0, .slice none 0 0]) (cs := [.int .i64 0, .int .i64 0, .int .i64 0, .slice none 0 0]) rfl rfl (by kernel_rfl) rfl fun w2 g2 he2 hg2 hb2 => ⟨trivial, ?_⟩
  have l1 := hb1.lt
  have l2 := hb2.lt
  have hb1 := hb1.ev he2 (fun h => h)
  refine go_ldB hT rfl rfl rfl rfl hb1 rfl ?_
  refine go_call hT rfl rfl (by kernel_rfl) rfl (clone_u8 ((h.to he1).to he2) hl) ?_
  rintro e w3 ⟨y, rfl, he3, hy⟩
  refine ⟨y, rfl, trivial, ?_⟩
  have hb1 := hb1.ev he3 (fun h => h)
  have hb2 := hb2.ev he3 (fun h => h)
  obtain ⟨A, c, rfl, hc⟩ := hy.shape
  refine go_stB hT rfl rfl rfl rfl rfl rfl hb1 rfl fun w4 he4 hb1 => ?_
  have hb2 := hb2.ev he4 (fun h => by simp only [at1] at h; omega)
  refine go_lda hT [.int .i64 p.num, .int .i64 p.frm, .int .i64 p.to, .slice A p.bytes.length c] rfl rfl rfl rfl hb1.cells ?_
  refine go_staB hT [.int .i64 p.num, .int .i64 p.frm, .int .i64 p.to, .slice A p.bytes.length c] rfl rfl rfl rfl rfl (by simp [Value.oneCell']) hb2 rfl fun w5 he5 hb2 => ⟨trivial, ?_⟩
  refine go_ret hT [.agg #[.int .i64 p.num, .int .i64 p.frm, .int .i64 p.to, .slice A p.bytes.length c]] rfl rfl ⟨⟨_, rfl, run_loada hT rfl hb2.cells⟩, trivial⟩ ?_
  have hs1 := he1.size
  have hs2 := he2.size
  have hs3 := he3.size
  have hy2 := (hy.ev he4 fun b hb h => by simp only [at1] at h; have := (hy.lt b hb).1; omega).ev he5 fun b hb h => by simp only [at1] at h; have := (hy.lt b hb).1; omega
  refine ⟨_, rfl, ?_, World.ownsRow.lower hy2 (by omega)⟩
  have h13 := (he1.trans he2).trans he3
  have h14 : Ev no w w4 := h13.then he4 fun i hi h => by simp only [at1] at h; omega
  exact h14.then he5 fun i hi h => by simp only [at1] at h; omega

/-- New -/
theorem new_any (w : World) : Calls Try.prog 25 #[] w fun e w' => ∃ g, e = .returned (.pointer (some ⟨g, 0, none⟩)) ∧ Ev no w w' ∧ w.heap.size ≤ g ∧ NetO w' g (at1 g) [] 0 := by
  refine enter hT [] Try.func25 rfl rfl rfl ?_
  refine go_build hT #[.slice none 0 0, .int .i64 0] rfl rfl rfl (by kernel_rfl) rfl ?_
  refine go_boxB hT (cs := [.slice none 0 0, .int .i64 0]) rfl rfl rfl rfl fun w1 g he hg hb => ⟨trivial, ?_⟩
  refine go_ret hT [.pointer (some ⟨g, 0, none⟩)] rfl rfl ⟨rfl, trivial⟩ ⟨g, rfl, he, hg, .slice none 0 0, [], ⟨hb, World.ownsRow_nil _ _ _ _, rfl, fun i p b h => by simp at h, by simp [fpl, List.filterMap, Value.ownBlock]⟩, ?_⟩
  funext b
  simp [fp, fpl, List.filterMap, Value.ownBlock, at1]

theorem fp_app (g : Nat) (v v' : Value) (bs : List Value) (b' : Value) (n : Nat) (h1 : ∀ b, ob v' b → ob v b ∨ n ≤ b) (h2 : ∀ b, ob b' b → n ≤ b) : ∀ b, fp g v' (bs ++ [b']) b → fp g v bs b ∨ n ≤ b := by
  intro b hb
  simp only [fp, fpl, List.mem_cons, List.filterMap_cons, List.filterMap_append] at hb ⊢
  rcases hb with rfl | hb
  · exact .inl (.inl rfl)
  · have key : v'.ownBlock = some b ∨ b ∈ bs.filterMap Value.ownBlock ∨ b'.ownBlock = some b := by
      cases hv : v'.ownBlock <;> cases hb' : b'.ownBlock <;> simp [hv, hb'] at hb ⊢
      · exact hb
      · rcases hb with h | h
        · exact .inl h
        · exact .inr h.symm
      · rcases hb with h | h
        · exact .inl h.symm
        · exact .inr h
      · rcases hb with h | h | h
        · exact .inl h.symm
        · exact .inr (.inl h)
        · exact .inr (.inr h.symm)
    rcases key with h | h | h
    · rcases h1 b h with h | h
      · left; right; unfold ob at h; simp [h]
      · exact .inr h
    · left; right
      cases hv : v.ownBlock <;> simp [hv, h]
    · exact .inr (h2 b h)

/-- The net's own two blocks. -/
def fp2 (g : Nat) (v : Value) : Nat → Prop := or2 (at1 g) (ob v)
theorem NetR.ne {w : World} {g : Nat} {v : Value} {bs : List Value} {l : List Pkt} {last : Int} (h : NetR w g v bs l last) : ∀ b, ob v b → b ≠ g := by
  intro b hb e
  have := h.nd
  simp only [fpl, List.filterMap_cons, ob] at this hb
  rw [hb] at this
  simp [e] at this
theorem NetR.bne {w : World} {g : Nat} {v : Value} {bs : List Value} {l : List Pkt} {last : Int} (h : NetR w g v bs l last) {u : Value} (hu : u ∈ bs) : ∀ b, ob u b → ¬ fp2 g v b := by
  intro b hb e
  have hnd := h.nd
  have hmem : b ∈ bs.filterMap Value.ownBlock := List.mem_filterMap.2 ⟨u, hu, hb⟩
  simp only [fpl, List.nodup_cons] at hnd
  rcases e with e | e
  · simp only [at1] at e
    subst e
    apply hnd.1
    rw [List.filterMap_cons]
    cases v.ownBlock <;> simp [hmem]
  · have h2 := hnd.2
    rw [List.filterMap_cons] at h2
    unfold ob at e
    rw [e] at h2
    simp only [List.nodup_cons] at h2
    exact h2.1 hmem
theorem NetR.lt {w : World} {g : Nat} {v : Value} {bs : List Value} {l : List Pkt} {last : Int} (h : NetR w g v bs l last) : ∀ b, fp g v bs b → b < w.heap.size := by
  intro b hb
  simp only [fp, fpl, List.mem_cons, List.mem_filterMap] at hb
  rcases hb with rfl | ⟨u, hu, hb⟩
  · exact h.blk.lt
  · rcases hu with rfl | hu
    · exact (h.row.lt b hb).2
    · obtain ⟨i, hi, rfl⟩ := List.getElem_of_mem hu
      have hl := h.len
      exact ((h.byt i l[i] bs[i] (List.getElem?_eq_getElem (by omega)) (List.getElem?_eq_getElem hi)).lt b hb).2

theorem NetR.mem {g : Nat} {v : Value} {bs : List Value} {u : Value} (hu : u ∈ bs) : ∀ b, ob u b → fp g v bs b := by
  intro b hb
  simp only [fp, fpl, List.mem_cons, List.mem_filterMap]
  exact .inr ⟨u, .inr hu, hb⟩
theorem NetR.ev {N : Nat → Prop} {w w' : World} {g : Nat} {v : Value} {bs : List Value} {l : List Pkt} {last : Int} (h : NetR w g v bs l last) (he : Ev N w w') (hN : ∀ b, fp g v bs b → ¬ N b) : NetR w' g v bs l last :=
  ⟨h.blk.ev he (hN g (by simp [fp, fpl])), h.row.ev he (fun b hb => hN b (by simp only [fp, fpl, List.mem_cons, List.mem_filterMap]; exact .inr ⟨v, .inl rfl, hb⟩)), h.len,
    fun i p b hp hb => (h.byt i p b hp hb).ev he (fun c hc => hN c (NetR.mem (List.mem_of_getElem? hb) c hc)), h.nd⟩
theorem fpl_eq (g : Nat) (v : Value) (bs : List Value) : fpl g v bs = g :: (v.ownBlock.toList ++ bs.filterMap Value.ownBlock) := by
  unfold fpl
  rw [List.filterMap_cons]
  cases v.ownBlock <;> rfl
theorem nd_app {g : Nat} {v v' b' : Value} {bs : List Value} {m n : Nat} (h : (fpl g v bs).Nodup) (hold : ∀ b, fp g v bs b → b < m) (hmn : m ≤ n) (h1 : ∀ b, ob v' b → ob v b ∨ n ≤ b) (h2 : ∀ b, ob b' b → m ≤ b ∧ b < n) : (fpl g v' (bs ++ [b'])).Nodup := by
  have hv' : ∀ b ∈ v'.ownBlock.toList, ob v b ∨ n ≤ b := fun b hb => h1 b (by unfold ob; cases hq : v'.ownBlock <;> simp_all)
  have hb' : ∀ b ∈ b'.ownBlock.toList, m ≤ b ∧ b < n := fun b hb => h2 b (by unfold ob; cases hq : b'.ownBlock <;> simp_all)
  have hvm : ∀ b, ob v b → b ∈ v.ownBlock.toList := fun b hb => by unfold ob at hb; simp [hb]
  have one : ∀ o : Option Nat, o.toList.Nodup := fun o => by cases o <;> simp
  have holdg : g < m := hold g (by simp [fp, fpl])
  have holdv : ∀ b, ob v b → b < m := fun b hb => hold b (by simp only [fp, fpl_eq]; simp [hvm b hb])
  have holdb : ∀ b ∈ bs.filterMap Value.ownBlock, b < m := fun b hb => hold b (by simp only [fp, fpl_eq]; exact List.mem_cons_of_mem _ (List.mem_append_right _ hb))
  rw [fpl_eq] at h ⊢
  rw [List.nodup_cons, List.nodup_append] at h ⊢
  obtain ⟨hg, hn1, hn2, hd⟩ := h
  have hb'n : (bs ++ [b']).filterMap Value.ownBlock = bs.filterMap Value.ownBlock ++ b'.ownBlock.toList := by
    rw [List.filterMap_append]; cases hq : b'.ownBlock <;> simp [List.filterMap, hq]
  rw [hb'n]
  refine ⟨?_, one _, ?_, ?_⟩
  · simp only [List.mem_append, not_or] at hg ⊢
    refine ⟨fun hm => ?_, hg.2, fun hm => ?_⟩
    · rcases hv' g hm with h | h
      · exact hg.1 (hvm g h)
      · omega
    · have := hb' g hm; omega
  · rw [List.nodup_append]
    exact ⟨hn2, one _, fun a ha b hb e => by subst e; have := holdb a ha; have := hb' a hb; omega⟩
  · intro a ha b hb e
    subst e
    rw [List.mem_append] at hb
    rcases hv' a ha with h | h
    · rcases hb with hb | hb
      · exact hd a (hvm a h) a hb rfl
      · have := hb' a hb; have := holdv a h; omega
    · rcases hb with hb | hb
      · have := holdb a hb; omega
      · have := hb' a hb; omega

def SendR (w : World) (g : Nat) (v : Value) (bs : List Value) (l : List Pkt) (last frm to : Int) (bytes : List UInt8) (e : Ending) (w' : World) : Prop :=
  e = .returned (.tuple #[.int .i64 (last + 1), .int .i64 0]) ∧ ∃ v' b', NetR w' g v' (bs ++ [b']) (l ++ [⟨last + 1, frm, to, bytes⟩]) (last + 1) ∧ Ev (fp2 g v) w w' ∧ (∀ b, ob v' b → ob v b ∨ w.heap.size ≤ b) ∧ (∀ b, ob b' b → w.heap.size ≤ b)
set_option maxRecDepth 100000 in
theorem send_room {w : World} {g : Nat} {v : Value} {bs : List Value} {l : List Pkt} {last frm to : Int} {x : Value} {bytes : List UInt8} (hn : NetR w g v bs l last) (h : ARep (fp2 g v) w (bytesD bytes) x) (hb : bytes.length ≤ lim) (hlen : l.length < 200) (hl0 : 0 ≤ last) (hl1 : last < 4611686018427387904) :
    Calls Try.prog 26 #[.pointer (some ⟨g, 0, none⟩), .int .i64 frm, .int .i64 to, x] w (SendR w g v bs l last frm to bytes) := by
  obtain ⟨A, c, rfl, hc⟩ := hn.row.shape
  obtain ⟨A1, c1, rfl, hc1, _⟩ := bytes_cells h
  have hvg := hn.ne
  refine enter hT [.pointer (some ⟨g, 0, none⟩), .int .i64 frm, .int .i64 to, .slice A1 bytes.length c1] Try.func26 rfl rfl rfl ?_
  refine go_f hT rfl rfl ?_
  refine go_ldB hT rfl rfl rfl rfl hn.blk rfl ?_
  refine go_f hT rfl (by simp; omega) ?_
  refine go_ldB hT rfl rfl rfl rfl hn.blk rfl ?_
  refine go_stB hT rfl rfl rfl rfl (v := .int .i64 (last + 1)) (congrArg (Value.int .i64) (show IntKind.wrap .i64 (last + 1) = last + 1 by simp [IntKind.wrap, IntKind.bits, IntKind.signed]; omega)) rfl hn.blk rfl fun w1 he1 hb1 => ?_
  have hrow := hn.row.ev he1 hvg
  refine go_draw hT (fun w' => Blk w' g 98 [.slice A l.length c, .int .i64 (last + 1)]) true [(0, false), (1, false), (5, false), (9, false), (10, false), (11, false), (2, false), (6, false), (3, false), (7, false), (4, false), (8, false), (12, true), (13, true), (14, true), (15, true), (16, false), (17, false), (18, true)] rfl (by kernel_rfl) (by kernel_rfl) hb1 ?_
  refine go_ldS hT rfl rfl rfl rfl (fun w' h => h.cell 0 rfl) ?_
  refine go_ldS hT rfl rfl rfl rfl (fun w' h => h.cell 1 rfl) ?_
  refine go_build hT (z := #[.int .i64 0, .int .i64 0, .int .i64 0, .slice none 0 0]) #[.int .i64 (last + 1), .int .i64 frm, .int .i64 to, .slice A1 bytes.length c1] rfl rfl rfl (by kernel_rfl) rfl ?_
  have he1d := Ev.drew w1
  have hx1 : ARep (fp2 g (.slice A l.length c)) w1.drew (bytesD bytes) (.slice A1 bytes.length c1) :=
    h.ev (he1.to he1d) fun b hb hm => hm.elim .inl id
  refine go_call hT rfl rfl (by kernel_rfl) rfl (copied_any ⟨last + 1, frm, to, bytes⟩ hx1 hb) ?_
  rintro e w2 ⟨y, rfl, he2, hy⟩
  have hb2 := (hb1.ev he1d (fun h => h)).ev he2 (fun h => h)
  refine ⟨_, rfl, .inr hb2, ?_⟩
  obtain ⟨Ay, cy, rfl, hcy⟩ := hy.shape
  refine go_lit1R hT (cs := [.int .i64 (last + 1), .int .i64 frm, .int .i64 to, .slice Ay bytes.length cy]) rfl rfl rfl el36 rfl rfl rfl rfl fun g3 w3 hb3 hg3 he3 => ?_
  have hb2 := hb2.ev he3 (fun h => h)
  refine ⟨.inr hb2, ?_⟩
  have hrow := ((hrow.ev he1d (fun _ _ h => h)).ev he2 (fun _ _ h => h)).ev he3 (fun _ _ h => h)
  refine go_appR hT rfl rfl rfl el36 rfl rfl hrow (Nat.zero_le _) (m := 1) (news := [.int .i64 (last + 1), .int .i64 frm, .int .i64 to, .slice Ay bytes.length cy]) rfl (fun _ => ⟨_, rfl, hb3.cells⟩) (by simp [Value.oneCell']) (by unfold lim; omega) fun v' w4 hv' he4 hob4 => ?_
  have hb4 := hb2.ev he4 (fun h => hvg _ h rfl)
  refine ⟨.inr hb4, ?_⟩
  obtain ⟨A', c', rfl, hc'⟩ := hv'.shape
  refine go_stBS hT rfl rfl rfl rfl rfl rfl hb4 rfl fun w5 he5 hb5 => ⟨.inl rfl, ?_⟩
  refine go_ldB hT rfl rfl rfl rfl hb5 rfl ?_
  refine go_ret hT [.int .i64 (last + 1), .int .i64 0] rfl rfl ⟨rfl, rfl, trivial⟩ ⟨rfl, .slice A' (l.length + 1) c', .slice Ay bytes.length cy, ?_⟩
  -- what is so now
  have hs1 := he1.size
  have hs2 := he2.size
  have hs3 := he3.size
  have hs4 := he4.size
  have hs1d : w1.drew.heap.size = w1.heap.size := rfl
  have hvlt := hn.row.lt
  have hglt := hn.blk.lt
  have hyne : ∀ b, ob (.slice Ay bytes.length cy) b → w.heap.size ≤ b := fun b hb => by have := (hy.lt b hb).1; omega
  have hob5 : ∀ b, ob (.slice A' (l.length + 1) c') b → ob (.slice A l.length c) b ∨ w.heap.size ≤ b := fun b hb => (hob4 b hb).imp id fun h => by omega
  have he14 : Ev (fp2 g (.slice A l.length c)) w w4 :=
    ((((he1.mono fun b _ h => .inl h).to he1d).to he2).to he3).then he4 fun i hi h => .inr h
  have he15 : Ev (fp2 g (.slice A l.length c)) w w5 := he14.then he5 fun i hi h => .inl h
  refine ⟨⟨hb5, ?_, by simp [hn.len], ?_, ?_⟩, he15, hob5, hyne⟩
  · have := hv'.ev he5 (fun b hb h => by
      simp only [at1] at h
      subst h
      rcases hob4 b hb with h | h
      · exact hvg b h rfl
      · omega)
    rw [pcells_app l bs _ _ hn.len]
    simpa using this
  · intro i p b hp hb
    rcases Nat.lt_or_ge i l.length with hi | hi
    · rw [List.getElem?_append_left hi] at hp
      rw [List.getElem?_append_left (by rw [hn.len]; exact hi)] at hb
      exact (hn.byt i p b hp hb).ev he15 (hn.bne (List.mem_of_getElem? hb))
    · have hi2 : i = l.length := by
        have := (List.getElem?_eq_some_iff.1 hp).1
        simp at this; omega
      subst hi2
      rw [List.getElem?_append_right (Nat.le_refl _)] at hp
      rw [List.getElem?_append_right (by rw [hn.len]; exact Nat.le_refl _)] at hb
      simp [hn.len] at hp hb
      subst hp; subst hb
      refine (((hy.ev he3 (fun _ _ h => h)).ev he4 fun b hb h => ?_).ev he5 fun b hb h => ?_).lower (Nat.zero_le _)
      · have := hyne b hb; have := (hvlt b h).2; omega
      · simp only [at1] at h; subst h; have := hyne b hb; omega
  · refine nd_app (m := w.heap.size) (n := w3.heap.size) hn.nd hn.lt (by omega) hob4 fun b hb => ?_
    have := hy.lt b hb
    omega

/-- A full net takes nothing. -/
theorem send_full {w : World} {g : Nat} {v : Value} {bs : List Value} {l : List Pkt} {last frm to : Int} {x : Value} (hn : NetR w g v bs l last) (hlen : 200 ≤ l.length) :
    Calls Try.prog 26 #[.pointer (some ⟨g, 0, none⟩), .int .i64 frm, .int .i64 to, x] w fun e w' => e = .returned (.tuple #[.int .i64 0, .int .i64 14]) ∧ w = w' := by
  obtain ⟨A, c, rfl, hc⟩ := hn.row.shape
  refine enter hT [.pointer (some ⟨g, 0, none⟩), .int .i64 frm, .int .i64 to, x] Try.func26 rfl rfl rfl ?_
  refine go_f hT rfl rfl ?_
  refine go_ldB hT rfl rfl rfl rfl hn.blk rfl ?_
  refine go_t hT rfl (by simp; omega) ?_
  exact go_ret hT [.int .i64 0, .int .i64 14] rfl rfl ⟨rfl, rfl, trivial⟩ ⟨rfl, rfl⟩
theorem send_nil {w : World} {frm to : Int} {x : Value} :
    Calls Try.prog 26 #[.pointer none, .int .i64 frm, .int .i64 to, x] w fun e w' => e = .returned (.tuple #[.int .i64 0, .int .i64 1]) ∧ w = w' := by
  refine enter hT [.pointer none, .int .i64 frm, .int .i64 to, x] Try.func26 rfl rfl rfl ?_
  refine go_t hT rfl rfl ?_
  exact go_ret hT [.int .i64 0, .int .i64 1] rfl rfl ⟨rfl, rfl, trivial⟩ ⟨rfl, rfl⟩
theorem len_any {w : World} {g : Nat} {v : Value} {bs : List Value} {l : List Pkt} {last : Int} (hn : NetR w g v bs l last) :
    Calls Try.prog 28 #[.pointer (some ⟨g, 0, none⟩)] w fun e w' => e = .returned (.int .i64 l.length) ∧ w = w' := by
  obtain ⟨A, c, rfl, hc⟩ := hn.row.shape
  refine enter hT [.pointer (some ⟨g, 0, none⟩)] Try.func28 rfl rfl rfl ?_
  refine go_f hT rfl rfl ?_
  refine go_ldB hT rfl rfl rfl rfl hn.blk rfl ?_
  exact go_ret hT [.int .i64 l.length] rfl rfl ⟨rfl, trivial⟩ ⟨rfl, rfl⟩
theorem len_nil {w : World} : Calls Try.prog 28 #[.pointer none] w fun e w' => e = .returned (.int .i64 0) ∧ w = w' := by
  refine enter hT [.pointer none] Try.func28 rfl rfl rfl ?_
  refine go_t hT rfl rfl ?_
  exact go_ret hT [.int .i64 0] rfl rfl ⟨rfl, trivial⟩ ⟨rfl, rfl⟩
theorem there_nil {w : World} {i : Int} : Calls Try.prog 60 #[.pointer none, .int .i64 i] w fun e w' => e = .returned (.bool false) ∧ w = w' := by
  refine enter hT [.pointer none, .int .i64 i] Try.func60 rfl rfl rfl ?_
  refine go_g hT rfl rfl (fun h => ?_) (fun h => ?_)
  · have h : i ≥ 0 := by simpa using h
    refine go_call hT rfl rfl (by kernel_rfl) rfl len_nil ?_
    rintro e w1 ⟨rfl, rfl⟩
    refine ⟨_, rfl, trivial, ?_⟩
    refine go_ret hT [.bool (decide (i < 0))] rfl rfl ⟨rfl, trivial⟩ ⟨?_, rfl⟩
    simp [tup]; omega
  · exact go_ret hT [.bool false] rfl rfl ⟨rfl, trivial⟩ ⟨rfl, rfl⟩
theorem there_any {w : World} {g : Nat} {v : Value} {bs : List Value} {l : List Pkt} {last i : Int} (hn : NetR w g v bs l last) :
    Calls Try.prog 60 #[.pointer (some ⟨g, 0, none⟩), .int .i64 i] w fun e w' => e = .returned (.bool (decide (0 ≤ i ∧ i < l.length))) ∧ w = w' := by
  refine enter hT [.pointer (some ⟨g, 0, none⟩), .int .i64 i] Try.func60 rfl rfl rfl ?_
  refine go_g hT rfl rfl (fun h => ?_) (fun h => ?_)
  · have h : i ≥ 0 := by simpa using h
    refine go_call hT rfl rfl (by kernel_rfl) rfl (len_any hn) ?_
    rintro e w1 ⟨rfl, rfl⟩
    refine ⟨_, rfl, trivial, ?_⟩
    refine go_ret hT [.bool (decide (i < (l.length : Int)))] rfl rfl ⟨rfl, trivial⟩ ⟨?_, rfl⟩
    simp [tup]; omega
  · have h : i < 0 := by simpa using h
    refine go_ret hT [.bool false] rfl rfl ⟨rfl, trivial⟩ ⟨?_, rfl⟩
    simp [tup]; omega

end Go.Proofs.Ytdconcindpfmcaa
