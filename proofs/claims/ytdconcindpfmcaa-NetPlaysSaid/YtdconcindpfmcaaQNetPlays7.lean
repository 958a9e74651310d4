import Derived.Test.YtdconcindpfmcaaQNetPlays5
import Derived.Test.YtdconcindpfmcaaQNetPlays3
import Derived.Test.YtdconcindpfmcaaQNetPlays6
import Derived.Lib.Overlaps
import Derived.Test.YtdconcindpfmcaaQNetPlays2
import Derived.Test.YtdconcindpfmcaaQNetPlays4
section
/- slices.Delete and slices.Insert at packets. -/
set_option linter.unusedVariables false
set_option linter.unusedSimpArgs false
namespace Go.Proofs.Ytdconcindpfmcaa
open V

/-- An element is cut out, in place. -/
def DeleteR (w : World) (v : Value) (n i : Nat) (xs : List Value) (e : Ending) (w' : World) : Prop :=
  ∃ v', e = .returned v' ∧ w'.ownsRow 0 36 4 v' (n - 1) (xs.take (i * 4) ++ xs.drop ((i + 1) * 4)) ∧ Ev (ob v) w w' ∧ v'.ownBlock = v.ownBlock ∧ ∃ g cap, v' = .slice (some ⟨g, 0, none⟩) (n - 1) cap ∧ n ≤ cap
set_option maxRecDepth 100000 in
theorem delete_at {w : World} {v : Value} {n i : Nat} {xs : List Value} (ho : w.ownsRow 0 36 4 v n xs) (hi : i < n) (h1 : ∀ u ∈ xs, u.oneCell' = true) :
    Calls Try.prog 61 #[v, .int .i64 i, .int .i64 (i + 1 : Nat)] w (DeleteR w v n i xs) := by
  obtain ⟨hxl, ho⟩ := ho
  rcases ho with ⟨rfl, h0⟩ | ⟨g, cap, cur, rfl, hb, hh, hnc, hcm, hcs, htk⟩
  · omega
  have hblk : Blk w g 36 cur.toList := hh
  refine enter hT [.slice (some ⟨g, 0, none⟩) n cap, .int .i64 i, .int .i64 (i + 1 : Nat)] Try.func61 rfl rfl rfl ?_
  refine go_sl3 hT i (i + 1) n rfl rfl rfl rfl rfl rfl rfl (by omega) (by omega) (by omega) ?_
  refine go_f hT rfl (by simp; omega) ?_
  refine go_draw hT (fun _ => True) true [(0, false), (1, false), (3, false), (4, false), (2, false), (5, false), (6, true), (7, false)] rfl (by kernel_rfl) (by kernel_rfl) trivial ?_
  have hc0 : cap ≠ 0 := by omega
  have hlc : cur.toList.length = cap * 4 := by simpa using hcs
  have hxs : ∀ j, j < n * 4 → cur.toList[j]? = xs[j]? := fun j hj => by rw [← htk, List.getElem?_take_of_lt hj]
  have hbd := hblk.ev (Ev.drew w) (fun h => h)
  refine go_slB hT 0 i (.slice (some ⟨g, 0, none⟩) i cap) rfl rfl rfl rfl rfl ⟨_, rfl⟩ (by omega) (by omega) (by simp) ?_
  refine go_slB hT (i + 1) n (.slice (some ⟨g, if cap = i + 1 then 0 else (i + 1) * 4, none⟩) (n - (i + 1)) (cap - (i + 1))) rfl rfl rfl rfl ⟨_, rfl⟩ rfl (by omega) (by omega) (by simp) ?_
  have hone : ∀ u ∈ xs.drop ((i + 1) * 4), u.oneCell' = true := fun u hu => h1 u (List.mem_of_mem_drop hu)
  refine go_appIn hT (news := xs.drop ((i + 1) * 4)) rfl rfl rfl rfl rfl hbd (by simp [hxl, Nat.sub_mul]) (fun hne => ?_) hone (by omega) (by rw [hlc]; omega) fun w1 hb1 he1 => ⟨.inr trivial, ?_⟩
  · have hlt : (i + 1) * 4 < n * 4 := by
      rcases Nat.lt_or_ge ((i + 1) * 4) (n * 4) with h | h
      · exact h
      · exact absurd (List.drop_eq_nil_of_le (by omega)) hne
    refine ⟨_, rfl, fun j u hj => ?_⟩
    rw [if_neg (by omega), add_off]
    rw [List.getElem?_drop] at hj
    have hjl : (i + 1) * 4 + j < n * 4 := by have := (List.getElem?_eq_some_iff.1 hj).1; omega
    exact hbd.cell _ (by rw [hxs _ hjl]; exact hj)
  have hsl : i + (n - (i + 1)) = n - 1 := by omega
  rw [hsl] at hb1 ⊢
  have htake : cur.toList.take (i * 4) = xs.take (i * 4) := by
    rw [← htk, List.take_take, Nat.min_eq_left (by omega)]
  have hl1 : (xs.take (i * 4) ++ xs.drop ((i + 1) * 4)).length = (n - 1) * 4 := by
    simp [hxl]; omega
  rw [Nat.zero_add, Nat.zero_add, htake] at hb1
  have hl2 : (xs.take (i * 4) ++ xs.drop ((i + 1) * 4) ++ cur.toList.drop ((n - 1) * 4)).length = cap * 4 := by
    rw [List.length_append, hl1, List.length_drop, hlc]; omega
  refine go_slB hT (n - 1) n (.slice (some ⟨g, (n - 1) * 4, none⟩) 1 (cap - (n - 1))) rfl rfl rfl rfl ⟨_, rfl⟩ ⟨_, rfl⟩ (by omega) (by omega) ?_ ?_
  · rw [if_neg (by omega), show n - (n - 1) = 1 by omega, Nat.zero_add]
  refine go_clear hT (.agg #[.int .i64 0, .int .i64 0, .int .i64 0, .slice none 0 0]) rfl rfl rfl rfl (by kernel_rfl) rfl rfl hb1 (by rw [hl2]; omega) fun w2 zs hz hb2 he2 => ⟨trivial, ?_⟩
  refine go_ret hT [.slice (some ⟨g, 0, none⟩) (n - 1) cap] rfl rfl ⟨rfl, trivial⟩ ⟨_, rfl, ⟨hl1, .inr ⟨g, cap, _, rfl, Nat.zero_le _, hb2, by omega, hcm, ?_, ?_⟩⟩, ?_, rfl, g, cap, rfl, by omega⟩
  · simp only [List.size_toArray, List.length_append, List.length_take, List.length_drop, hz, List.length_append] at hl2 ⊢
    omega
  · show List.take ((n - 1) * 4) (List.toArray _).toList = _
    rw [List.toList_toArray, List.append_assoc, List.take_append_of_le_length (by rw [List.length_take, hl2]; omega), List.take_take, Nat.min_self, List.take_append_of_le_length (by rw [hl1]; omega), ← hl1, List.take_length]
  · exact ((((Ev.drew w).no.mono fun _ _ h => h).trans (he1.mono fun b _ h => by simp only [at1] at h; subst h; rfl)).trans (he2.mono fun b _ h => by simp only [at1] at h; subst h; rfl))


section
variable {P : Program} {L : List TD} {n : Nat} {Q : Exit → Act → World → Prop}
variable {s : MS} {f f' : Env} {w : World} {κ : List Kt} {all : Array Oper} {dec : List Nat} {o : Oper} {al : Bool} {rest : List (Oper × Bool)} {S : World → Prop} {ex : Ex}
/-- A function of the model's own is called, that turns nothing. -/
theorem go_ext (hT : TOk P L) {D : Dr} {k : FuncId} {xs : Array Operand} {ts : Array TypeId} {args : List Value} {v : Value} (h : mach L n fuel s f = .op D κ all dec o true rest f') (ho : o.op = .call ⟨.value (.func k), xs, ts⟩) (ha : xs.toList.map (ev n f') = args) (hr : (callFunc k args.toArray).run P w = .ok (.value v) w) (hS : Keep D rest.isEmpty w)
    (hk : DenS P n Q (.ops D κ all dec rest) (put f' o.dst v) w) : DenS P n Q s f w := by
  refine go hT h (den_new (w1 := w) v ?_ hS hk)
  have : xs.map (ev n f') = args.toArray := by rw [← ha]; obtain ⟨xs⟩ := xs; simp
  simp [execOp, ho, resolve, invoke, ev, evK, Deferred.ofValue, hr, this]
end
/-- One is put in, in place: there is room. -/
def InsertR (w : World) (g n cap i : Nat) (cur xs ys : List Value) (e : Ending) (w' : World) : Prop :=
  e = .returned (.slice (some ⟨g, 0, none⟩) (n + 1) cap) ∧ Blk w' g 36 (xs.take (i * 4) ++ ys ++ xs.drop (i * 4) ++ cur.drop ((n + 1) * 4)) ∧ Ev (at1 g) w w'
theorem ov_run {w : World} {g gy off lb cb cy : Nat} {cur ycur : List Value} (hne : gy ≠ g) (hb : Blk w g 36 cur) (hy : Blk w gy 36 ycur) (hk : cur ≠ []) :
    (callFunc 83 #[.slice (some ⟨gy, 0, none⟩) 1 cy, .slice (some ⟨g, off, none⟩) lb cb]).run Try.prog w = .ok (.value (.bool false)) w := by
  rw [run_callFunc_extern (fn := Try.f83) (by kernel_rfl) (by kernel_rfl) (by kernel_rfl) (by kernel_rfl) (e := Extern.SlicesOverlaps.overlaps #[53, 53] #[4]) (by kernel_rfl)]
  rw [Lib.run_overlaps_apart w 53 4 36 (by kernel_rfl) 4 (fun w => by rw [run_sizeOf' (P := Try.prog) (t := 36) (by kernel_rfl) w, show Try.prog.cellsOf 36 = 4 from by kernel_rfl]) ⟨gy, 0, none⟩ ⟨g, off, none⟩ 1 cy lb cb hne 36 36 ycur.length cur.length ?_ ?_ ?_ ?_ ?_]
  · rfl
  · unfold Blk at hy; simp [World.shape?, hy]
  · unfold Blk at hb; simp [World.shape?, hb]
  · simpa using hk
  · unfold Blk at hy; simp [World.frozen?, hy]
  · unfold Blk at hy; simp [World.frozen?, hy]
set_option maxRecDepth 100000 in
theorem insert_in {w : World} {g gy n cap cy i : Nat} {cur ycur xs ys : List Value} (hb : Blk w g 36 cur) (hlc : cur.length = cap * 4) (hroom : n + 1 ≤ cap) (htk : cur.take (n * 4) = xs) (hi : i < n) (hn63 : n < 1000000) (hy : Blk w gy 36 ycur) (hne : gy ≠ g) (hyt : ycur.take 4 = ys) (hyl : ys.length = 4) (h1 : ∀ u ∈ xs, u.oneCell' = true) (h2 : ∀ u ∈ ys, u.oneCell' = true) :
    Calls Try.prog 75 #[.slice (some ⟨g, 0, none⟩) n cap, .int .i64 i, .slice (some ⟨gy, 0, none⟩) 1 cy] w (InsertR w g n cap i cur xs ys) := by
  have hxl : xs.length = n * 4 := by rw [← htk, List.length_take]; omega
  refine enter hT [.slice (some ⟨g, 0, none⟩) n cap, .int .i64 i, .slice (some ⟨gy, 0, none⟩) 1 cy] Try.func75 rfl rfl rfl ?_
  refine go_slB hT i n _ rfl rfl rfl rfl ⟨_, rfl⟩ rfl (by omega) (by omega) rfl ?_
  refine go_f hT rfl rfl ?_
  refine go_f hT rfl (by simp; omega) ?_
  have hw1 : IntKind.i64.wrap ((n : Int) + 1) = ((n + 1 : Nat) : Int) := by rw [IntKind.wrap_i64]; omega
  have hw2 : IntKind.i64.wrap ((i : Int) + 1) = ((i + 1 : Nat) : Int) := by rw [IntKind.wrap_i64]; omega
  refine go_f hT rfl (by show decide (IntKind.i64.wrap ((n : Int) + 1) > (cap : Int)) = false; rw [hw1]; simp; omega) ?_
  refine go_slB hT 0 (n + 1) (.slice (some ⟨g, 0, none⟩) (n + 1) cap) rfl rfl rfl rfl rfl ⟨_, congrArg (Value.int .i64) hw1⟩ (by omega) (by omega) (by simp) ?_
  refine go_slB hT (i + 1) (n + 1) (.slice (some ⟨g, (i + 1) * 4, none⟩) (n + 1 - (i + 1)) (cap - (i + 1))) rfl rfl rfl rfl ⟨_, congrArg (Value.int .i64) hw2⟩ rfl (by omega) (by omega) (by rw [if_neg (by omega), Nat.zero_add]) ?_
  have hcn : cur ≠ [] := fun h => by rw [h] at hlc; simp at hlc; omega
  refine go_ext hT (v := .bool false) rfl rfl rfl (ov_run hne hb hy hcn) trivial ?_
  refine go_t hT rfl rfl ?_
  refine go_draw hT (fun _ => True) true [(0, false), (1, false), (2, false), (5, false), (6, false), (3, false), (7, false), (4, false), (8, true)] rfl (by kernel_rfl) (by kernel_rfl) trivial ?_
  have hbd := hb.ev (Ev.drew w) (fun h => h)
  have hyd := hy.ev (Ev.drew w) (fun h => h)
  have hxs : ∀ j, j < n * 4 → cur[j]? = xs[j]? := fun j hj => by rw [← htk, List.getElem?_take_of_lt hj]
  refine go_slB hT i (n + 1) (.slice (some ⟨g, i * 4, none⟩) (n + 1 - i) (cap - i)) rfl rfl rfl rfl ⟨_, rfl⟩ rfl (by omega) (by omega) (by rw [if_neg (by omega), Nat.zero_add]) ?_
  refine go_slB hT (i + 1) (n + 1) (.slice (some ⟨g, (i + 1) * 4, none⟩) (n + 1 - (i + 1)) (cap - (i + 1))) rfl rfl rfl rfl ⟨_, congrArg (Value.int .i64) hw2⟩ rfl (by omega) (by omega) (by rw [if_neg (by omega), Nat.zero_add]) ?_
  have hmn : min (n + 1 - i) (n + 1 - (i + 1)) = n - i := by omega
  refine go_copy hT (news := xs.drop (i * 4)) rfl rfl rfl rfl rfl hbd (by rw [hmn, List.length_drop, hxl, Nat.sub_mul]) (fun hnn => ?_) (fun u hu => h1 u (List.mem_of_mem_drop hu)) (by rw [hmn, hlc]; omega) fun w1 hb1 he1 => ⟨.inr trivial, ?_⟩
  · refine ⟨_, rfl, fun j u hj => ?_⟩
    rw [add_off]
    rw [List.getElem?_drop] at hj
    have hjl : i * 4 + j < n * 4 := by have := (List.getElem?_eq_some_iff.1 hj).1; omega
    exact hbd.cell _ (by rw [hxs _ hjl]; exact hj)
  rw [hmn] at hb1 ⊢
  have hy1 := hyd.ev he1 (fun h => hne (by simpa [at1] using h))
  have hx4 : xs.take (i * 4) = cur.take (i * 4) := by rw [← htk, List.take_take, Nat.min_eq_left (by omega)]
  generalize hC1 : cur.take ((i + 1) * 4) ++ xs.drop (i * 4) ++ cur.drop ((i + 1) * 4 + (n - i) * 4) = C1 at hb1
  have hl1 : (cur.take ((i + 1) * 4)).length = (i + 1) * 4 := by rw [List.length_take]; omega
  have hl2 : C1.length = cap * 4 := by
    rw [← hC1]
    simp only [List.length_append, List.length_take, List.length_drop, hxl, hlc]
    omega
  have ht1 : C1.take (i * 4) = xs.take (i * 4) := by
    rw [← hC1, List.append_assoc, List.take_append_of_le_length (by omega), List.take_take, Nat.min_eq_left (by omega), hx4]
  have hd1 : C1.drop (i * 4 + 1 * 4) = xs.drop (i * 4) ++ cur.drop ((n + 1) * 4) := by
    rw [← hC1, List.append_assoc, show i * 4 + 1 * 4 = (cur.take ((i + 1) * 4)).length by omega, List.drop_left, show (i + 1) * 4 + (n - i) * 4 = (n + 1) * 4 by omega]
  refine go_slB hT i (n + 1) (.slice (some ⟨g, i * 4, none⟩) (n + 1 - i) (cap - i)) rfl rfl rfl rfl ⟨_, rfl⟩ rfl (by omega) (by omega) (by rw [if_neg (by omega), Nat.zero_add]) ?_
  have hm2 : min 1 (n + 1 - i) = 1 := by omega
  refine go_copy hT (news := ys) rfl rfl rfl rfl rfl hb1 (by rw [hm2, hyl]) (fun hnn => ?_) h2 (by rw [hm2, hl2]; omega) fun w2 hb2 he2 => ⟨trivial, ?_⟩
  · refine ⟨_, rfl, fun j u hj => ?_⟩
    have hj4 : j < 4 := by have := (List.getElem?_eq_some_iff.1 hj).1; omega
    rw [add_off, Nat.zero_add]
    exact hy1.cell _ (by rw [← hyt, List.getElem?_take_of_lt hj4] at hj; exact hj)
  rw [hm2, ht1, hd1, ← List.append_assoc] at hb2
  refine go_ret hT [.slice (some ⟨g, 0, none⟩) (n + 1) cap] rfl rfl ⟨rfl, trivial⟩ ⟨rfl, hb2, ?_⟩
  exact (((Ev.drew w).no.mono fun _ _ h => h).trans he1).trans he2
end Go.Proofs.Ytdconcindpfmcaa
end

section
/- Lists by keys, plain; keys that are numbers. -/
set_option linter.unusedVariables false
set_option linter.unusedSimpArgs false
namespace Go.Proofs.Ytdconcindpfmcaa
open V A
def kU (n : Int) : Value := .int .u64 n
def kI (n : Int) : Value := .int .i64 n
theorem kU_ok : KeyOk Try.prog 43 kU := key_int (by kernel_rfl)
theorem kI_ok : KeyOk Try.prog 3 kI := key_int (by kernel_rfl)
def ptrA (g h : Nat) : AV := .v (.pointer (some ⟨g, 0, none⟩)) h

theorem filter_erase {α : Type} {p : α → Bool} : ∀ {l : List α} {i : Nat} {x : α}, l[i]? = some x → p x = false → (l.eraseIdx i).filter p = l.filter p
  | [], i, x, h, hp => by simp at h
  | y :: l, 0, x, h, hp => by simp at h; subst h; simp [hp]
  | y :: l, i + 1, x, h, hp => by
    have := filter_erase (l := l) (i := i) (by simpa using h) hp
    simp only [List.eraseIdx_cons_succ, List.filter_cons, this]
theorem map_set_same {α β : Type} (g : α → β) {l : List α} {i : Nat} {x y : α} (h : l[i]? = some x) (e : g y = g x) : (l.set i y).map g = l.map g := by
  rw [List.map_set, e]
  apply List.ext_getElem?
  intro j
  rw [List.getElem?_set]
  split
  · rename_i hij; subst hij; have := (List.getElem?_eq_some_iff.1 h).1; rw [List.length_map, if_pos this, List.getElem?_map, h]; rfl
  · rfl
theorem aget_split {β : Type} : ∀ {l : List (Int × β)} {k : Int} {v : β}, aget l k = some v → ∃ a b, l = a ++ (k, v) :: b ∧ ∀ p ∈ a, p.1 ≠ k
  | [], k, v, h => by simp [aget] at h
  | (j, u) :: l, k, v, h => by
    unfold aget at h
    split at h
    · rename_i e
      subst e
      cases h
      exact ⟨[], l, rfl, by simp⟩
    · rename_i e
      obtain ⟨a, b, rfl, hn⟩ := aget_split h
      exact ⟨(j, u) :: a, b, rfl, fun p hp => by rcases List.mem_cons.1 hp with rfl | hp; exact e; exact hn p hp⟩
theorem aput_mid {β : Type} {k : Int} {u v : β} : ∀ {a b : List (Int × β)}, (∀ p ∈ a, p.1 ≠ k) → aput (a ++ (k, u) :: b) k v = a ++ (k, v) :: b
  | [], b, h => by simp [aput]
  | p :: a, b, h => by
    have h1 := h p (by simp)
    rw [List.cons_append, aput, if_neg h1, aput_mid fun q hq => h q (by simp [hq])]
    rfl
theorem aput_new {β : Type} {k : Int} {v : β} : ∀ {a : List (Int × β)}, aget a k = none → aput a k v = a ++ [(k, v)]
  | [], h => rfl
  | (j, u) :: a, h => by
    unfold aget at h
    split at h
    · cases h
    · rename_i e
      rw [aput, if_neg e, aput_new h]
      rfl
theorem aget_mem {β : Type} {l : List (Int × β)} {k : Int} {v : β} (h : aget l k = some v) : (k, v) ∈ l := by
  obtain ⟨a, b, rfl, _⟩ := aget_split h
  simp
theorem aget_nomem {β : Type} : ∀ {l : List (Int × β)} {k : Int}, aget l k = none → k ∉ l.map (·.1)
  | [], k, h => by simp
  | (j, u) :: l, k, h => by
    unfold aget at h
    split at h
    · cases h
    · rename_i e
      rw [List.map_cons, List.mem_cons, not_or]
      exact ⟨fun h => e h.symm, aget_nomem h⟩
theorem mem_aput {β : Type} : ∀ {l : List (Int × β)} {k : Int} {v : β} {p : Int × β}, p ∈ aput l k v → p = (k, v) ∨ p ∈ l
  | [], k, v, p, h => by simp [aput] at h; exact .inl h
  | (j, u) :: l, k, v, p, h => by
    unfold aput at h
    split at h
    · rename_i e
      subst e
      rcases List.mem_cons.1 h with h | h
      · exact .inl h
      · exact .inr (List.mem_cons_of_mem _ h)
    · rcases List.mem_cons.1 h with h | h
      · exact .inr (by rw [h]; simp)
      · exact (mem_aput h).imp id (List.mem_cons_of_mem _)
theorem nodup_aput {β : Type} {l : List (Int × β)} {k : Int} {v : β} (h : (l.map (·.1)).Nodup) : ((aput l k v).map (·.1)).Nodup := by
  cases hg : aget l k with
  | some u =>
    obtain ⟨a, b, rfl, hn⟩ := aget_split hg
    rw [aput_mid hn]
    simpa using h
  | none =>
    rw [aput_new hg, List.map_append, List.nodup_append]
    refine ⟨h, by simp, fun x hx y hy => ?_⟩
    simp at hy
    subst hy
    exact fun e => aget_nomem hg (e ▸ hx)
theorem aput_len_new {β : Type} {l : List (Int × β)} {k : Int} {v : β} (h : aget l k = none) : (aput l k v).length = l.length + 1 := by rw [aput_new h]; simp
theorem aget_aput {β : Type} : ∀ {l : List (Int × β)} {k j : Int} {v : β}, aget (aput l k v) j = if k = j then some v else aget l j
  | [], k, j, v => by simp [aput, aget]
  | (i, u) :: l, k, j, v => by
    unfold aput
    by_cases h : i = k
    · subst h
      rw [if_pos rfl]
      by_cases hj : i = j
      · simp [aget, hj]
      · simp [aget, hj]
    · rw [if_neg h]
      by_cases hj : i = j
      · subst hj
        have : ¬ k = i := fun e => h e.symm
        simp [aget, this]
      · simp only [aget, hj, if_false]
        rw [aget_aput]
theorem aget_filter {β : Type} {p : Int × β → Bool} : ∀ {l : List (Int × β)} {t : Int} {e : β}, aget l t = some e → p (t, e) = true → aget (l.filter p) t = some e
  | [], t, e, h, hp => by simp [aget] at h
  | (i, u) :: l, t, e, h, hp => by
    unfold aget at h
    split at h
    · rename_i hi
      subst hi
      cases h
      rw [List.filter_cons, if_pos hp, aget, if_pos rfl]
    · rename_i hi
      rw [List.filter_cons]
      split
      · rw [aget, if_neg hi]; exact aget_filter h hp
      · exact aget_filter h hp
theorem aput_len_same {β : Type} {l : List (Int × β)} {k : Int} {u v : β} (h : aget l k = some u) : (aput l k v).length = l.length := by
  obtain ⟨a, b, rfl, hn⟩ := aget_split h
  rw [aput_mid hn]
  simp

end Go.Proofs.Ytdconcindpfmcaa
end

section
/- slices.Delete and slices.Insert at packets, as contracts. -/
set_option linter.unusedVariables false
set_option linter.unusedSimpArgs false
namespace Go.Proofs.Ytdconcindpfmcaa
open V
theorem owns_shape {w : World} {base e k : Nat} {v : Value} {m : Nat} {xs : List Value} (h : w.ownsRow base e k v m xs) : ∃ A c, v = .slice A m c ∧ m ≤ c := by
  rcases h.2 with ⟨rfl, h0⟩ | ⟨g, cap, cur, rfl, hb, hh, hn, _⟩
  · exact ⟨none, 0, by rw [h0], by omega⟩
  · exact ⟨_, cap, rfl, hn⟩
theorem insert_end {w : World} {v : Value} {n cy gy : Nat} {xs ys ycur : List Value} (ho : w.ownsRow 0 36 4 v n xs) (hn : n < 1000000) (hy : Blk w gy 36 ycur) (hyt : ycur.take 4 = ys) (hyl : ys.length = 4) (h2 : ∀ u ∈ ys, u.oneCell' = true) :
    Calls Try.prog 75 #[v, .int .i64 n, .slice (some ⟨gy, 0, none⟩) 1 cy] w fun e w' => ∃ v', e = .returned v' ∧ w'.ownsRow 0 36 4 v' (n + 1) (xs ++ ys) ∧ Ev (ob v) w w' ∧ ∀ b, ob v' b → ob v b ∨ w.heap.size ≤ b := by
  obtain ⟨A, c, rfl, hc⟩ := owns_shape ho
  refine enter hT [.slice A n c, .int .i64 n, .slice (some ⟨gy, 0, none⟩) 1 cy] Try.func75 rfl rfl rfl ?_
  refine go_sl hT n n rfl rfl rfl rfl ⟨_, rfl⟩ rfl (Nat.le_refl _) hc ?_
  refine go_f hT rfl rfl ?_
  refine go_t hT rfl (by show ((n : Int) == (n : Int)) = true; simp) ?_
  refine go_appR hT (news := ys) rfl rfl rfl (by kernel_rfl) rfl rfl ho (Nat.zero_le _) (by rw [hyl]) (fun hne => ⟨_, rfl, fun j u hj => ?_⟩) h2 (by unfold lim; omega) fun v' w' h1 he hob => ⟨trivial, ?_⟩
  · have hj4 : j < 4 := by have := (List.getElem?_eq_some_iff.1 hj).1; omega
    rw [add_off, Nat.zero_add]
    exact hy.cell _ (by rw [← hyt, List.getElem?_take_of_lt hj4] at hj; exact hj)
  exact go_ret hT [v'] rfl rfl ⟨rfl, trivial⟩ ⟨v', rfl, h1, he, hob⟩
end Go.Proofs.Ytdconcindpfmcaa
namespace Go.Proofs.Ytdconcindpfmcaa.A
open V
theorem flat_take {k : Nat} : ∀ {es : List (List A.Dat)} (i : Nat), (∀ e ∈ es, e.length = k) → (es.take i).flatten = es.flatten.take (i * k)
  | es, 0, h => by simp
  | [], i + 1, h => by simp
  | d :: es, i + 1, h => by
    have hd := h d (by simp)
    rw [List.take_succ_cons, List.flatten_cons, List.flatten_cons, flat_take i fun e he => h e (by simp [he]), show (i + 1) * k = d.length + i * k by rw [hd, Nat.add_mul]; omega, List.take_append, List.take_of_length_le (l := d) (by omega), Nat.add_sub_cancel_left]
theorem flat_drop {k : Nat} : ∀ {es : List (List A.Dat)} (i : Nat), (∀ e ∈ es, e.length = k) → (es.drop i).flatten = es.flatten.drop (i * k)
  | es, 0, h => by simp
  | [], i + 1, h => by simp
  | d :: es, i + 1, h => by
    have hd := h d (by simp)
    rw [List.drop_succ_cons, List.flatten_cons, flat_drop i fun e he => h e (by simp [he]), show (i + 1) * k = d.length + i * k by rw [hd, Nat.add_mul]; omega, List.drop_append, show d.drop (d.length + i * k) = [] from List.drop_eq_nil_of_le (by omega), Nat.add_sub_cancel_left]
    rfl
theorem vrep_take {M : Nat → Prop} {w : World} : ∀ {ds : List A.Dat} {xs : List Value} (i : Nat), A.VRep M w ds xs → A.VRep M w (ds.take i) (xs.take i)
  | ds, xs, 0, h => by simp; unfold A.VRep; rfl
  | [], xs, i + 1, h => by unfold A.VRep at h; subst h; simp; unfold A.VRep; rfl
  | d :: ds, xs, i + 1, h => by
    unfold A.VRep at h
    obtain ⟨x, r, rfl, h1, h2⟩ := h
    exact VRep.cons h1 (vrep_take i h2)
theorem vrep_drop {M : Nat → Prop} {w : World} : ∀ {ds : List A.Dat} {xs : List Value} (i : Nat), A.VRep M w ds xs → A.VRep M w (ds.drop i) (xs.drop i)
  | ds, xs, 0, h => h
  | [], xs, i + 1, h => by unfold A.VRep at h; subst h; simp; unfold A.VRep; rfl
  | d :: ds, xs, i + 1, h => by
    unfold A.VRep at h
    obtain ⟨x, r, rfl, h1, h2⟩ := h
    exact vrep_drop i h2
end Go.Proofs.Ytdconcindpfmcaa.A
namespace Go.Proofs.Ytdconcindpfmcaa
open V A
abbrev rowPk (v : Value) (es : List (List A.Dat)) : Chunk := .row v 36 4 es
theorem delete_spec {v : Value} {h h1 h2 i : Nat} {es : List (List A.Dat)} (hi : i < es.length) : FSpec Try.prog 61 [.row v h, .v (kI (i : Int)) h1, .v (kI ((i + 1 : Nat) : Int)) h2] [rowPk v es]
    fun a cs => ∃ v', (∃ g cap, v' = .slice (some ⟨g, 0, none⟩) (es.length - 1) cap ∧ es.length ≤ cap) ∧ a = .row v' 1 ∧ cs = [rowPk v' (es.eraseIdx i)] := by
  refine ⟨fun X S w xs hdS hX hh hr => ?_⟩
  unfold Reps at hr
  obtain ⟨x1, r1, rfl, hx1, hr⟩ := hr
  unfold Reps at hr
  obtain ⟨x2, r2, rfl, hx2, hr⟩ := hr
  unfold Reps at hr
  obtain ⟨x3, r3, rfl, hx3, hr⟩ := hr
  unfold Reps at hr
  subst hr
  unfold Rep at hx1 hx2 hx3
  obtain ⟨rfl, hv1⟩ := hx1
  subst hx2
  subst hx3
  have hc := holds_one.1 hh
  obtain ⟨hS1, hk, cells, ho, hv⟩ := hc
  refine (delete_at ho hi hv.one).mono ?_
  rintro e w' ⟨v', rfl, ho', he, hob, g, cap, hv', hcap⟩
  have hob' : ∀ b, V.ob v' b ↔ V.ob x1 b := fun b => by unfold V.ob; rw [hob]
  have hm : ∀ b, b < w.heap.size → V.ob x1 b ∨ or2 S X b → or2 S X b := fun b _ h => h.elim (fun h => .inl ((hS1 b).2 h)) id
  have hlen : (es.eraseIdx i).length = es.length - 1 := List.length_eraseIdx_of_lt hi
  refine ⟨v', .row v' 1, [rowPk v' (es.eraseIdx i)], S, rfl, ⟨v', ⟨g, cap, hv', hcap⟩, rfl, rfl⟩, ?_, ?_, he.mono fun b _ h => (hS1 b).2 h, fun b h => .inl h⟩
  · unfold Rep
    exact ⟨rfl, by rw [hv']; rfl⟩
  · refine holds_one.2 ⟨fun b => (hS1 b).trans (hob' b).symm, fun e he => hk e (List.mem_of_mem_eraseIdx he), _, by rw [hlen]; exact ho', ?_⟩
    rw [List.eraseIdx_eq_take_drop_succ, List.flatten_append, flat_take _ hk, flat_drop _ hk]
    exact ((vrep_take _ hv).ev he hm).app ((vrep_drop _ hv).ev he hm)
theorem insert_spec {v y : Value} {h h1 h2 i g cap : Nat} {es : List (List A.Dat)} {d : List A.Dat} (hi : i ≤ es.length) (hv : v = .slice (some ⟨g, 0, none⟩) es.length cap) (hcap : es.length + 1 ≤ cap) (hn : es.length < 1000000) : FSpec Try.prog 75 [.row v h, .v (kI (i : Int)) h1, .row y h2] [rowPk v es, rowPk y [d]]
    fun a cs => ∃ v', a = .row v' 1 ∧ cs = [rowPk v' (es.take i ++ d :: es.drop i)] := by
  subst hv
  refine ⟨fun X S w xs hdS hX hh hr => ?_⟩
  unfold Reps at hr
  obtain ⟨x1, r1, rfl, hx1, hr⟩ := hr
  unfold Reps at hr
  obtain ⟨x2, r2, rfl, hx2, hr⟩ := hr
  unfold Reps at hr
  obtain ⟨x3, r3, rfl, hx3, hr⟩ := hr
  unfold Reps at hr
  subst hr
  unfold Rep at hx1 hx2 hx3
  obtain ⟨rfl, hv1⟩ := hx1
  subst hx2
  obtain ⟨rfl, hv3⟩ := hx3
  obtain ⟨S1, S2, hS, hdis, hc, hh2⟩ := hh
  have hc2 := holds_one.1 hh2
  obtain ⟨hS1, hk, cells, ho, hv⟩ := hc
  obtain ⟨hS2, hk2, ycells, hoy, hvy⟩ := hc2
  have hd4 : d.length = 4 := hk2 d (by simp)
  have hyl : ycells.length = 4 := by have := hvy.len; simp [hd4] at this; exact this
  obtain ⟨hcl, ho2⟩ := id ho
  rcases ho2 with ⟨h0, _⟩ | ⟨g', cap', cur, e, _, hb, hle, hmx, hsz, htk⟩
  · cases h0
  simp only [Value.slice.injEq, Option.some.injEq, Addr.mk.injEq] at e
  obtain ⟨⟨rfl, _, _⟩, _, rfl⟩ := e
  obtain ⟨_, hoy2⟩ := id hoy
  rcases hoy2 with ⟨_, h0⟩ | ⟨gy, cy, ycur, rfl, _, hby, _, _, _, hyt⟩
  · simp at h0
  have hbb : Blk w g 36 cur.toList := hb
  have hyb : Blk w gy 36 ycur.toList := hby
  have hSg : S1 g := (hS1 g).2 rfl
  have hne : gy ≠ g := fun e => hdis g hSg ((hS2 g).2 (by rw [← e]; rfl))
  have hm : ∀ b, b < w.heap.size → at1 g b ∨ or2 S1 X b → or2 S X b := fun b _ h => h.elim (fun h => .inl ((hS b).2 (.inl (by unfold at1 at h; subst h; exact hSg)))) fun h => h.elim (fun h => .inl ((hS b).2 (.inl h))) .inr
  have hflat : (es.take i ++ d :: es.drop i).flatten = es.flatten.take (i * 4) ++ (d ++ es.flatten.drop (i * 4)) := by
    rw [List.flatten_append, List.flatten_cons, flat_take _ hk, flat_drop _ hk]
  have hlen : (es.take i ++ d :: es.drop i).length = es.length + 1 := by simp; omega
  have hkk : ∀ e ∈ es.take i ++ d :: es.drop i, e.length = 4 := fun e he => by
    rcases List.mem_append.1 he with he | he
    · exact hk e (List.mem_of_mem_take he)
    · rcases List.mem_cons.1 he with rfl | he
      · exact hd4
      · exact hk e (List.mem_of_mem_drop he)
  have hvy : A.VRep (or2 S X) w d ycells := by simpa using hvy
  by_cases hlt : i < es.length
  · refine (insert_in hbb (by simpa using hsz) hcap htk hlt hn hyb hne (by simpa using hyt) hyl hv.one hvy.one).mono ?_
    rintro e w' ⟨rfl, hb', he⟩
    refine ⟨_, .row (.slice (some ⟨g, 0, none⟩) (es.length + 1) cap) 1, [rowPk (.slice (some ⟨g, 0, none⟩) (es.length + 1) cap) (es.take i ++ d :: es.drop i)], S1, rfl, ⟨_, rfl, rfl⟩, ?_, ?_, he.mono fun b _ h => (hS b).2 (.inl (by unfold at1 at h; subst h; exact hSg)), fun b h => .inl ((hS b).2 (.inl h))⟩
    · unfold Rep
      exact ⟨rfl, rfl⟩
    · refine holds_one.2 ⟨fun b => hS1 b, hkk, cells.take (i * 4) ++ (ycells ++ cells.drop (i * 4)), ⟨by rw [hlen]; simp [hyl, hcl]; omega, .inr ⟨g, cap, _, by rw [hlen], Nat.zero_le _, hb', by rw [hlen]; exact hcap, hmx, ?_, ?_⟩⟩, ?_⟩
      · have hsz' : cur.toList.length = cap * 4 := by simpa using hsz
        simp only [List.size_toArray, List.length_append, List.length_take, List.length_drop, hyl, hcl, hsz']
        omega
      · rw [hlen, List.toList_toArray]
        have hl : (cells.take (i * 4) ++ ycells ++ cells.drop (i * 4)).length = (es.length + 1) * 4 := by simp [hyl, hcl]; omega
        rw [← hl, List.take_left, List.append_assoc]
      · rw [hflat]
        exact ((vrep_take _ hv).ev he hm).app ((hvy.ev he hm).app ((vrep_drop _ hv).ev he hm))
  · have hie : i = es.length := by omega
    subst hie
    refine (insert_end ho hn hyb (by simpa using hyt) hyl hvy.one).mono ?_
    rintro e w' ⟨v', rfl, ho', he, hob⟩
    have hm2 : ∀ b, b < w.heap.size → V.ob (Value.slice (some ⟨g, 0, none⟩) es.length cap) b ∨ or2 (V.ob v') X b → or2 S X b := fun b hb h => by
      rcases h with h | h | h
      · exact .inl ((hS b).2 (.inl ((hS1 b).2 h)))
      · rcases hob b h with h | h
        · exact .inl ((hS b).2 (.inl ((hS1 b).2 h)))
        · omega
      · exact .inr h
    refine ⟨v', .row v' 1, [rowPk v' (es.take es.length ++ d :: es.drop es.length)], V.ob v', rfl, ⟨_, rfl, rfl⟩, ?_, ?_, he.mono fun b _ h => (hS b).2 (.inl ((hS1 b).2 h)), fun b h => (hob b h).imp (fun h => (hS b).2 (.inl ((hS1 b).2 h))) id⟩
    · unfold Rep
      obtain ⟨A', c', rfl, _⟩ := owns_shape ho'
      exact ⟨rfl, rfl⟩
    · refine holds_one.2 ⟨fun b => Iff.rfl, hkk, cells ++ ycells, by rw [hlen]; exact ho', ?_⟩
      rw [List.take_length, List.drop_length, List.flatten_append]
      simp only [List.flatten_cons, List.flatten_nil, List.append_nil]
      exact (hv.ev he hm2).app (hvy.ev he hm2)
end Go.Proofs.Ytdconcindpfmcaa
end

section
/- slices.Clone of bytes. -/
set_option linter.unusedVariables false
set_option linter.unusedSimpArgs false
namespace Go.Proofs.Ytdconcindpfmcaa
open V A
theorem el8 : elemOk Try.prog 5 1 = true := by kernel_rfl
/-- A copy of bytes is memory of its own. -/
theorem cloneB {l : List UInt8} (hl : l.length ≤ lim) : FSpec Try.prog 63 [.d (A.bytesD l)] [] fun a cs => ∃ x, a = .row x 1 ∧ cs = [.row x 5 1 (l.map eB)] := by
  refine a_enter hT [.d (A.bytesD l)] [] Try.func63 rfl rfl rfl ⟨rfl, trivial⟩ fun c => ?_
  refine a_isnil hT rfl rfl rfl rfl rfl rfl fun b hb => ?_
  refine a_if hT rfl rfl (fun h => ?_) (fun h => ?_)
  · refine a_run hT 4 rfl rfl ?_
    refine a_nilrow 2 1 5 1 rfl rfl ?_
    refine a_ret hT [1] rfl rfl rfl rfl rfl rfl ⟨_, rfl, ?_⟩
    rw [hb h]
  · refine a_lit hT 1 rfl rfl rfl rfl el8 rfl rfl rfl rfl fun x => ?_
    refine a_app hT 1 (l.map eB) rfl rfl rfl rfl el8 rfl rfl rfl rfl rfl rfl (by simpa using hl) fun x => ?_
    refine a_ret hT [1] rfl rfl rfl rfl rfl rfl ⟨x, rfl, rfl⟩
/-- .. frozen. -/
theorem cloneF {l : List UInt8} (hl : l.length ≤ lim) : FSpec Try.prog 63 [.d (A.bytesD l)] [] fun a cs => a = .d (A.bytesD l) ∧ cs = [] := (cloneB hl).freeze
end Go.Proofs.Ytdconcindpfmcaa
end

section
/- Layer 18's net: what it is, as plain data; New, copied, Send, Len, there. -/
set_option linter.unusedVariables false
set_option linter.unusedSimpArgs false
set_option maxRecDepth 100000
namespace Go.Proofs.Ytdconcindpfmcaa.A
open V
section
variable {P : Program} {n : Nat} {Q : Exit → Act → World → Prop} {c : Ctx} {s : AMS} {f : AEnv} {σ : Store}
/-- A row that a struct's field holds is frozen. -/
theorem a_freezeA (t off h : Nat) {cs : List AV} {x x' : Value} {hx0 e k : Nat} {es : List (List Dat)} (hst : s.still = true) (ht : getA f t = .agg cs) (ht2 : cs[off]? = some (.row x hx0)) (hl : look σ h = some (.row x' e k es)) (hx : x = x') (hk : DenA c P n Q s ((t, .agg (cs.set off (.d (.sl k es)))) :: f) (del σ h)) : DenA c P n Q s f σ := by
  subst hx
  refine a_ghost hst (fun Y S w fc hdY hh he => ?_) hk
  obtain ⟨S1, S2, hS, hd, hc, hr⟩ := hh.take hl
  have hM : ∀ b, or2 S2 Y b → or2 S Y b := fun b h => h.elim (fun h => .inl ((hS b).2 (.inr h))) .inr
  have hfz := row_frozen hc hS hd hdY
  refine ⟨S2, hr.of fun b _ h => hM b h, fun t' => ?_, fun b h => (hS b).2 (.inr h)⟩
  rw [getA_cons]
  split
  · rename_i e
    subst e
    have := he t'
    rw [ht] at this
    unfold Rep at this ⊢
    obtain ⟨xs, e, hrx, h2⟩ := this
    refine ⟨xs, e, ?_, h2⟩
    have hrx' := hrx.of (M' := or2 S2 Y) fun b _ h => hM b h
    obtain ⟨y, hy, hry⟩ := hrx'.get _ _ ht2
    have hlt := (List.getElem?_eq_some_iff.1 hy).1
    have := hrx'.set off (.d (.sl k es)) y (by unfold Rep at hry ⊢; rw [hry.1]; exact hfz)
    have e : xs.set off y = xs := by
      apply List.ext_getElem?
      intro j
      rw [List.getElem?_set]
      split
      · rename_i e; subst e; exact hy.symm
      · rfl
    rwa [e] at this
  · exact (he t').of fun b _ h => hM b h
/-- A struct's field that is a row's value has that row's key again. -/
theorem a_asR (t off k : Nat) {cs : List AV} {x : Value} (ht : getA f t = .agg cs) (h2 : cs[off]? = some (.d (.v x))) (hk : DenA c P n Q s ((t, .agg (cs.set off (.row x k))) :: f) σ) : DenA c P n Q s f σ := by
  refine ⟨fun hok w S fc Sg hs hh => hk.out hok w S fc Sg ⟨fun t' => ?_, hs.ev, hs.sub⟩ hh⟩
  rw [getA_cons]
  split
  · rename_i e
    subst e
    have := hs.env t'
    rw [ht] at this
    unfold Rep at this ⊢
    obtain ⟨xs, e, hrx, h1⟩ := this
    refine ⟨xs, e, ?_, h1⟩
    obtain ⟨y, hy, hry⟩ := hrx.get _ _ h2
    have hlt := (List.getElem?_eq_some_iff.1 hy).1
    have hry' : y = x := by unfold Rep DRep at hry; exact hry.1
    have h1y := h1 y (List.mem_of_getElem? hy)
    have := hrx.set off (.row x k) y (by unfold Rep; exact ⟨hry', by rw [← hry']; exact h1y⟩)
    have e : xs.set off y = xs := by
      apply List.ext_getElem?
      intro j
      rw [List.getElem?_set]
      split
      · rename_i e; subst e; exact hy.symm
      · rfl
    rwa [e] at this
  · exact hs.env t'
/-- A row's value has that row's key again. -/
theorem a_asV (t k : Nat) {x : Value} (ht : getA f t = .d (.v x)) (hk : DenA c P n Q s ((t, .row x k) :: f) σ) : DenA c P n Q s f σ := by
  refine ⟨fun hok w S fc Sg hs hh => hk.out hok w S fc Sg ⟨fun t' => ?_, hs.ev, hs.sub⟩ hh⟩
  rw [getA_cons]
  split
  · rename_i e
    subst e
    have := hs.env t'
    rw [ht] at this
    unfold Rep DRep at this
    unfold Rep
    obtain ⟨h1, h2⟩ := this
    exact ⟨h1, h2⟩
  · exact hs.env t'
/-- A struct's field that is a row's value is that value. -/
theorem a_asD (t off : Nat) {cs : List AV} {x : Value} {k : Nat} (ht : getA f t = .agg cs) (h2 : cs[off]? = some (.row x k)) (hk : DenA c P n Q s ((t, .agg (cs.set off (.d (.v x)))) :: f) σ) : DenA c P n Q s f σ := by
  refine ⟨fun hok w S fc Sg hs hh => hk.out hok w S fc Sg ⟨fun t' => ?_, hs.ev, hs.sub⟩ hh⟩
  rw [getA_cons]
  split
  · rename_i e
    subst e
    have := hs.env t'
    rw [ht] at this
    unfold Rep at this ⊢
    obtain ⟨xs, e, hrx, h1⟩ := this
    refine ⟨xs, e, ?_, h1⟩
    obtain ⟨y, hy, hry⟩ := hrx.get _ _ h2
    have hlt := (List.getElem?_eq_some_iff.1 hy).1
    have := hrx.set off (.d (.v x)) y (by unfold Rep DRep; unfold Rep at hry; obtain ⟨h3, h4⟩ := hry; exact ⟨h3, h4⟩)
    have e : xs.set off y = xs := by
      apply List.ext_getElem?
      intro j
      rw [List.getElem?_set]
      split
      · rename_i e; subst e; exact hy.symm
      · rfl
    rwa [e] at this
  · exact hs.env t'
end
end Go.Proofs.Ytdconcindpfmcaa.A
namespace Go.Proofs.Ytdconcindpfmcaa
open V A
structure Pk where
  num : Int
  fr : Int
  to : Int
  by_ : List UInt8
def pkD (p : Pk) (v : Value) : List A.Dat := [.v (kI p.num), .v (kI p.fr), .v (kI p.to), .v v]
abbrev bR (v : Value) (l : List UInt8) : Chunk := .row v 5 1 (l.map eB)
abbrev netB (g : Nat) (v : Value) (last : Int) : Chunk := .blk g 98 [.row v 30, .v (kI last) 0]
theorem w64 {x : Int} (h1 : -9223372036854775808 ≤ x) (h2 : x < 9223372036854775808) : IntKind.i64.wrap x = x := by
  rw [IntKind.wrap_i64]; omega
theorem net_nil {g : Nat} {last : Int} : Ent [.blk g 98 [.v (.slice none 0 0) 0, .v (kI last) 0]] [netB g (.slice none 0 0) last, rowPk (.slice none 0 0) []] := by
  have e1 : Ent [.blk g 98 [.v (.slice none 0 0) 0, .v (kI last) 0]] [netB g (.slice none 0 0) last] := fun M w U hh => by
    refine holds_one.2 ?_
    obtain ⟨hS, xs, hb, hr, h1⟩ := holds_one.1 hh
    refine ⟨hS, xs, hb, ?_, h1⟩
    unfold Reps at hr
    obtain ⟨x, r, rfl, hx, hr⟩ := hr
    have := rep_v hx
    subst this
    exact Reps.cons (by unfold Rep; exact ⟨rfl, rfl⟩) hr
  have e2 : Ent [] [rowPk (.slice none 0 0) []] := fun M w U hh => holds_one.2 (by
    have h := row_nil (M := M) (w := w) 36 4
    exact ⟨fun b => ⟨fun hb => (hh b hb).elim, fun hb => ((h.1 b).2 hb).elim⟩, h.2⟩)
  exact e1.trans (Ent.cons _ e2)
theorem nnew_spec : FSpec Try.prog 25 [] [] fun a cs => ∃ g, a = ptrA g 10 ∧ cs = [netB g (.slice none 0 0) 0, rowPk (.slice none 0 0) []] := by
  refine FSpec.weak (R := fun a cs => ∃ g, a = ptrA g 10 ∧ cs = [.blk g 98 [.v (.slice none 0 0) 0, .v (kI 0) 0]]) ?_ fun a cs hR => ?_
  · refine a_enter hT [] [] Try.func25 rfl rfl rfl trivial fun c => ?_
    refine a_build hT hZ [.v (.slice none 0 0) 0, .v (kI 0) 0] rfl rfl rfl rfl rfl rfl ?_
    refine a_box hT 10 rfl rfl rfl rfl fun g => ?_
    exact a_ret hT [10] rfl rfl rfl rfl rfl rfl ⟨g, rfl, rfl⟩
  · obtain ⟨g, rfl, rfl⟩ := hR
    exact ⟨_, [netB g (.slice none 0 0) 0, rowPk (.slice none 0 0) []], [], Fit.refl _, net_nil, g, rfl, rfl⟩
theorem copiedF_spec {a1 a2 a3 : Int} {b : List UInt8} (hb : b.length ≤ lim) : FSpec Try.prog 59 [.agg [.v (kI a1) 0, .v (kI a2) 0, .v (kI a3) 0, .d (A.bytesD b)]] [] fun a cs => ∃ v, a = .agg [.v (kI a1) 0, .v (kI a2) 0, .v (kI a3) 0, .row v 1] ∧ cs = [bR v b] := by
  refine a_enter hT [.agg [.v (kI a1) 0, .v (kI a2) 0, .v (kI a3) 0, .d (A.bytesD b)]] [] Try.func59 rfl rfl rfl ⟨⟨rfl, rfl, rfl, rfl, trivial⟩, trivial⟩ fun c => ?_
  refine a_box hT 20 rfl rfl rfl rfl fun g => ?_
  refine a_new hT hZ 21 rfl rfl rfl rfl fun g1 => ?_
  refine a_call hT rfl rfl rfl (by kernel_rfl) (cloneB (l := b) hb) [] [1] rfl rfl ?_
  rintro _ _ ⟨v, rfl, rfl⟩
  refine a_ret hT [1] rfl rfl rfl rfl rfl rfl ?_
  exact ⟨v, rfl, rfl⟩
theorem copiedR_spec {a1 a2 a3 : Int} {b : List UInt8} {v : Value} {h : Nat} (hb : b.length ≤ lim) : FSpec Try.prog 59 [.agg [.v (kI a1) 0, .v (kI a2) 0, .v (kI a3) 0, .row v h]] [bR v b] fun a cs => ∃ v', a = .agg [.v (kI a1) 0, .v (kI a2) 0, .v (kI a3) 0, .row v' 1] ∧ cs = [bR v' b, bR v b] := by
  refine a_enter hT [.agg [.v (kI a1) 0, .v (kI a2) 0, .v (kI a3) 0, .row v 40]] [40] Try.func59 rfl rfl rfl ⟨⟨rfl, rfl, rfl, rfl, trivial⟩, trivial⟩ fun c => ?_
  refine a_box hT 20 rfl rfl rfl rfl fun g => ?_
  refine a_new hT hZ 21 rfl rfl rfl rfl fun g1 => ?_
  refine a_callZ hT rfl rfl rfl (by kernel_rfl) (cloneB (l := b) hb) [40] [] [1] rfl rfl rfl ⟨rfl, trivial⟩ trivial (by rintro _ _ ⟨v, rfl, rfl⟩; exact ⟨inferInstance, inferInstance⟩) ?_
  rintro _ _ ⟨v', rfl, rfl⟩
  refine a_ret hT [1, 40] rfl rfl rfl rfl rfl rfl ?_
  exact ⟨v', rfl, rfl⟩
theorem nlen_spec {g h : Nat} {v : Value} {last : Int} {es : List (List A.Dat)} : FSpec Try.prog 28 [ptrA g h] [netB g v last, rowPk v es] fun a cs => a = .v (kI es.length) 0 ∧ cs = [netB g v last, rowPk v es] := by
  refine a_enter hT [ptrA g 10] [10, 30] Try.func28 rfl rfl rfl ⟨rfl, trivial⟩ fun c => ?_
  refine a_f hT rfl rfl rfl ?_
  refine a_ret hT [10, 30] rfl rfl rfl rfl rfl rfl ?_
  exact ⟨rfl, rfl⟩
theorem nthere_spec {g h h1 : Nat} {v : Value} {last i : Int} {es : List (List A.Dat)} : FSpec Try.prog 60 [ptrA g h, .v (kI i) h1] [netB g v last, rowPk v es] fun a cs => a = .v (.bool (decide (0 ≤ i ∧ i < es.length))) 0 ∧ cs = [netB g v last, rowPk v es] := by
  refine a_enter hT [ptrA g 10, .v (kI i) 0] [10, 30] Try.func60 rfl rfl rfl ⟨rfl, rfl, trivial⟩ fun c => ?_
  refine a_g hT rfl rfl rfl (fun h2 => ?_) (fun h2 => ?_)
  · have h2 : i ≥ 0 := of_decide_eq_true h2
    refine a_call hT rfl rfl rfl (by kernel_rfl) (nlen_spec (g := g) (h := 10)) [10, 30] [10, 30] rfl rfl ?_
    rintro _ _ ⟨rfl, rfl⟩
    refine a_ret hT [10, 30] rfl rfl rfl rfl rfl rfl ?_
    exact ⟨congrArg (fun b => AV.v (.bool b) 0) (decide_eq_decide.2 ⟨fun h => ⟨h2, h⟩, fun h => h.2⟩), rfl⟩
  · have h2 : ¬ i ≥ 0 := of_decide_eq_false h2
    refine a_ret hT [10, 30] rfl rfl rfl rfl rfl rfl ?_
    exact ⟨congrArg (fun b => AV.v (.bool b) 0) (show false = decide _ by rw [eq_comm, decide_eq_false_iff_not]; omega), rfl⟩
theorem nsend_spec {g h h1 h2 : Nat} {v : Value} {last fr to : Int} {es : List (List A.Dat)} {b : List UInt8} (hb : b.length ≤ lim) (hl0 : 0 ≤ last) (hl1 : last < 1000000) : FSpec Try.prog 26 [ptrA g h, .v (kI fr) h1, .v (kI to) h2, .d (A.bytesD b)] [netB g v last, rowPk v es]
    fun a cs => (200 ≤ es.length ∧ a = .tup [.v (kI 0) 0, .v (kI 14) 0] ∧ cs = [netB g v last, rowPk v es]) ∨ (es.length < 200 ∧ ∃ v' y, a = .tup [.v (kI (last + 1)) 0, .v (kI 0) 0] ∧ cs = [netB g v' (last + 1), rowPk v' (es ++ [pkD ⟨last + 1, fr, to, b⟩ y]), bR y b]) := by
  have hw1 : IntKind.i64.wrap (last + 1) = last + 1 := w64 (by omega) (by omega)
  refine a_enter hT [ptrA g 10, .v (kI fr) 0, .v (kI to) 0, .d (A.bytesD b)] [10, 30] Try.func26 rfl rfl rfl ⟨rfl, rfl, rfl, rfl, trivial⟩ fun c => ?_
  refine a_f hT rfl rfl rfl ?_
  refine a_if hT rfl rfl (fun h3 => ?_) (fun h3 => ?_)
  · have h3 : (es.length : Int) ≥ 200 := of_decide_eq_true h3
    refine a_ret hT [10, 30] rfl rfl rfl rfl rfl rfl ?_
    exact .inl ⟨by omega, rfl, rfl⟩
  · have h3 : ¬ (es.length : Int) ≥ 200 := of_decide_eq_false h3
    refine a_draw hT [30] true [(0, false), (1, false), (5, false), (9, false), (10, false), (11, false), (2, false), (6, false), (3, false), (7, false), (4, false), (8, false), (12, true), (13, true), (14, true), (15, true), (16, false), (17, false), (18, true)] rfl rfl (by kernel_rfl) (by kernel_rfl) rfl ?_
    refine a_build hT hZ [.v (Value.int IntKind.i64 (IntKind.wrap IntKind.i64 (last + 1))) 0, .v (kI fr) 0, .v (kI to) 0, .d (A.bytesD b)] rfl rfl rfl rfl rfl rfl ?_
    refine a_call hT rfl rfl rfl (by kernel_rfl) (copiedF_spec (a1 := IntKind.i64.wrap (last + 1)) (a2 := fr) (a3 := to) hb) [] [1] rfl rfl ?_
    rintro _ _ ⟨v1, rfl, rfl⟩
    refine a_asD 40 3 rfl rfl ?_
    refine a_lit hT 31 rfl rfl rfl rfl (by kernel_rfl) rfl rfl rfl rfl fun x31 => ?_
    have hel : (es.length : Int) < 200 := by omega
    refine a_app hT 30 (es ++ [pkD ⟨last + 1, fr, to, b⟩ v1]) rfl rfl rfl rfl (by kernel_rfl) rfl rfl rfl rfl rfl (by unfold pkD kI; rw [hw1]) (show es.length + 1 ≤ lim by unfold lim; omega) fun v2 => ?_
    refine a_ret hT [10, 30, 1] rfl rfl rfl rfl rfl rfl ?_
    have hq : Value.int .i64 (IntKind.i64.wrap (last + 1)) = kI (last + 1) := by rw [hw1]; rfl
    exact .inr ⟨by omega, v2, v1, congrArg (fun x => AV.tup [.v x 0, .v (kI 0) 0]) hq, congrArg (fun x => [Chunk.blk g 98 [.row v2 30, .v x 0], rowPk v2 (es ++ [pkD ⟨last + 1, fr, to, b⟩ v1]), bR v1 b]) hq⟩
end Go.Proofs.Ytdconcindpfmcaa
end

section
/- Layer 18's net: Drop, Double, Deliver, Damage, All, Move. -/
set_option linter.unusedVariables false
set_option linter.unusedSimpArgs false
set_option maxRecDepth 100000
namespace Go.Proofs.Ytdconcindpfmcaa
open V A
theorem spec_ent {f : FuncId} {args : List AV} {cs : List Chunk} {R : AV → List Chunk → Prop} (h : FSpec Try.prog f args cs fun a cs' => ∃ a' cs1, Fit a a' ∧ CFits cs' cs1 ∧ R a' cs1) : FSpec Try.prog f args cs R :=
  h.weak fun a cs ⟨a', cs1, h1, h2, h3⟩ => ⟨a', cs1, [], h1, by rw [List.append_nil]; exact fun M w S hh => h2.holds hh, h3⟩
theorem ndrop_in {g h h1 i : Nat} {v : Value} {last : Int} {es : List (List A.Dat)} (hi : i < es.length) (hn : es.length < 1000000) : FSpec Try.prog 30 [ptrA g h, .v (kI (i : Int)) h1] [netB g v last, rowPk v es] fun a cs => ∃ v', a = .v (.bool true) 0 ∧ cs = [netB g v' last, rowPk v' (es.eraseIdx i)] := by
  have hw : IntKind.i64.wrap ((i : Int) + 1) = ((i + 1 : Nat) : Int) := by rw [w64 (by omega) (by omega)]; omega
  have ht : decide (0 ≤ (i : Int) ∧ (i : Int) < es.length) = true := by rw [decide_eq_true_eq]; omega
  refine spec_ent ?_
  refine a_enter hT [ptrA g 10, .v (kI (i : Int)) 0] [10, 30] Try.func30 rfl rfl rfl ⟨rfl, rfl, trivial⟩ fun c => ?_
  refine a_call hT rfl rfl rfl (by kernel_rfl) (nthere_spec (g := g) (h := 10) (h1 := 0)) [10, 30] [10, 30] rfl rfl ?_
  rintro _ _ ⟨rfl, rfl⟩
  rw [ht]
  refine a_f hT rfl rfl rfl ?_
  have hd := delete_spec (v := v) (h := 30) (h1 := 0) (h2 := 0) hi
  rw [← hw] at hd
  refine a_call hT rfl rfl rfl (by kernel_rfl) hd [30] [1] rfl rfl ?_
  rintro _ _ ⟨v', ⟨g1, cap, rfl, hr⟩, rfl, rfl⟩
  refine a_ret hT [10, 1] rfl rfl rfl rfl rfl rfl ?_
  exact ⟨_, [netB g _ last, rowPk _ (es.eraseIdx i)], Fit.refl _, ⟨⟨rfl, rfl, rfl, rfl, trivial⟩, ⟨rfl, rfl, rfl, rfl⟩, trivial⟩, _, rfl, rfl⟩
theorem ndrop_out {g h h1 : Nat} {v : Value} {last i : Int} {es : List (List A.Dat)} (hi : ¬ (0 ≤ i ∧ i < es.length)) : FSpec Try.prog 30 [ptrA g h, .v (kI i) h1] [netB g v last, rowPk v es] fun a cs => a = .v (.bool false) 0 ∧ cs = [netB g v last, rowPk v es] := by
  have ht : decide (0 ≤ i ∧ i < es.length) = false := by rw [decide_eq_false_iff_not]; exact hi
  refine a_enter hT [ptrA g 10, .v (kI i) 0] [10, 30] Try.func30 rfl rfl rfl ⟨rfl, rfl, trivial⟩ fun c => ?_
  refine a_call hT rfl rfl rfl (by kernel_rfl) (nthere_spec (g := g) (h := 10) (h1 := 0)) [10, 30] [10, 30] rfl rfl ?_
  rintro _ _ ⟨rfl, rfl⟩
  rw [ht]
  refine a_t hT rfl rfl rfl ?_
  refine a_ret hT [10, 30] rfl rfl rfl rfl rfl rfl ?_
  first | exact ⟨rfl, rfl⟩ | rfl
structure PX where
  p : Pk
  v : Value
def PX.d (x : PX) : List A.Dat := pkD x.p x.v
abbrev PX.c (x : PX) : Chunk := bR x.v x.p.by_
abbrev netCs (g : Nat) (last : Int) (v : Value) (L : List PX) : List Chunk := [netB g v last, rowPk v (L.map PX.d), .ext (listA (L.map PX.c))]
def pkF (p : Pk) : List A.Dat := [.v (kI p.num), .v (kI p.fr), .v (kI p.to), A.bytesD p.by_]
def pkA (p : Pk) : AV := .agg [.v (kI p.num) 0, .v (kI p.fr) 0, .v (kI p.to) 0, .d (A.bytesD p.by_)]
structure At (L : List PX) (i : Nat) (x : PX) (a c : List PX) : Prop where
  e : L = a ++ x :: c
  i : i = a.length
theorem at_of {L : List PX} {i : Nat} (hi : i < L.length) : At L i L[i] (L.take i) (L.drop (i + 1)) := ⟨by rw [List.getElem_cons_drop, List.take_append_drop], by rw [List.length_take]; omega⟩
theorem At.get {L a c : List PX} {i : Nat} {x : PX} (h : At L i x a c) : (L.map PX.d)[i]? = some x.d := by rw [h.e, h.i]; simp
theorem At.lt {L a c : List PX} {i : Nat} {x : PX} (h : At L i x a c) : i < L.length := by rw [h.e, h.i]; simp
theorem At.del {L a c : List PX} {i : Nat} {x : PX} (h : At L i x a c) : L.eraseIdx i = a ++ c := by rw [h.e, h.i, List.eraseIdx_append_of_length_le (Nat.le_refl _)]; simp
theorem At.delD {L a c : List PX} {i : Nat} {x : PX} (h : At L i x a c) : (L.map PX.d).eraseIdx i = (a ++ c).map PX.d := by
  rw [h.e, h.i, List.map_append, List.map_cons, List.eraseIdx_append_of_length_le (by simp)]
  simp
theorem At.focus {L a c : List PX} {i : Nat} {x : PX} (h : At L i x a c) : Ent [.ext (listA (L.map PX.c))] [x.c, .ext (listA ((a ++ c).map PX.c))] := by
  rw [h.e, List.map_append, List.map_append]
  exact ent_focus (a.map PX.c) [x.c] (c.map PX.c)
theorem ent_back {a c : List PX} (x : PX) : Ent [x.c, .ext (listA ((a ++ c).map PX.c))] [.ext (listA ((a ++ x :: c).map PX.c))] := by
  rw [List.map_append, List.map_append]
  exact ent_unfocus (a.map PX.c) [x.c] (c.map PX.c)
theorem At.back {L a c : List PX} {i : Nat} {x : PX} (h : At L i x a c) : Ent [x.c, .ext (listA ((a ++ c).map PX.c))] [.ext (listA (L.map PX.c))] := by
  have := ent_back (a := a) (c := c) x
  rw [← h.e] at this
  exact this
theorem vs_free {M M' : Nat → Prop} {w : World} : ∀ (ds : List A.Dat) {xs : List Value}, (∀ d ∈ ds, ∃ v, d = A.Dat.v v) → A.VRep M w ds xs → A.VRep M' w ds xs
  | [], xs, _, h => by unfold A.VRep at h ⊢; exact h
  | d :: ds, xs, hd, h => by
    obtain ⟨v, rfl⟩ := hd d (by simp)
    unfold A.VRep at h
    obtain ⟨x, r, rfl, h1, h2⟩ := h
    refine VRep.cons ?_ (vs_free ds (fun d h => hd d (by simp [h])) h2)
    unfold DRep at h1 ⊢
    exact h1
theorem freeC_vs {x : Value} {e : TypeId} {k : Nat} {es : List (List A.Dat)} (h : ∀ r ∈ es, ∀ d ∈ r, ∃ v, d = A.Dat.v v) : FreeC (.row x e k es) := ⟨fun M M' w S ⟨h1, h2, xs, h3, h4⟩ => ⟨h1, h2, xs, h3, vs_free _ (fun d hd => by obtain ⟨r, hr, hd⟩ := List.mem_flatten.1 hd; exact h r hr d hd) h4⟩⟩
theorem pkD_vs (p : Pk) (v : Value) : ∀ d ∈ pkD p v, ∃ u, d = A.Dat.v u := fun d hd => by
  simp only [pkD, List.mem_cons, List.not_mem_nil, or_false] at hd
  rcases hd with rfl | rfl | rfl | rfl <;> exact ⟨_, rfl⟩
theorem pxs_vs (L : List PX) : ∀ r ∈ L.map PX.d, ∀ d ∈ r, ∃ u, d = A.Dat.v u := fun r hr d hd => by
  obtain ⟨x, _, rfl⟩ := List.mem_map.1 hr
  exact pkD_vs _ _ d hd
theorem ndeliver_in {g h h1 i : Nat} {v : Value} {last : Int} {L a c : List PX} {x : PX} (hat : At L i x a c) (hn : L.length < 1000000) (hb : x.p.by_.length ≤ lim) : FSpec Try.prog 27 [ptrA g h, .v (kI (i : Int)) h1] (netCs g last v L) fun r cs => ∃ v', r = .tup [pkA x.p, .v (.bool true) 0] ∧ cs = netCs g last v' (a ++ c) := by
  have hi := hat.lt
  have hget := hat.get
  have hlen : (L.map PX.d).length = L.length := List.length_map _
  have ht : decide (0 ≤ (i : Int) ∧ (i : Int) < (L.map PX.d).length) = true := by rw [decide_eq_true_eq]; omega
  refine FSpec.weak (R := fun r cs => ∃ v', r = .tup [pkA x.p, .v (.bool true) 0] ∧ cs = [netB g v' last, rowPk v' ((L.map PX.d).eraseIdx i), .ext (listA ((a ++ c).map PX.c))]) ?_ fun r cs ⟨v', h1, h2⟩ => ⟨r, _, [], Fit.refl _, by rw [List.append_nil]; exact Ent.refl _, v', h1, by rw [h2, hat.delD]⟩
  refine a_enter hT [ptrA g 10, .v (kI (i : Int)) 0] [10, 30, 31] Try.func27 rfl rfl rfl ⟨rfl, rfl, trivial⟩ fun c => ?_
  refine a_new hT hZ 20 rfl rfl rfl rfl fun g1 => ?_
  refine a_call hT rfl rfl rfl (by kernel_rfl) (nthere_spec (g := g) (h := 10) (h1 := 0)) [10, 30] [10, 30] rfl rfl ?_
  rintro _ _ ⟨rfl, rfl⟩
  rw [ht]
  refine a_f hT rfl rfl rfl ?_
  refine a_rowfact 30 rfl rfl fun hf => ?_
  rcases hf with ⟨_, h⟩ | ⟨gr, capr, rfl⟩
  · rw [h] at hget; simp at hget
  refine a_ent [31] [40, 31] _ rfl rfl hat.focus ?_
  refine a_rix hT i rfl rfl rfl rfl rfl rfl rfl (by omega) ?_
  refine a_rld hT i 0 x.d (.agg [.d (.v (kI x.p.num)), .d (.v (kI x.p.fr)), .d (.v (kI x.p.to)), .d (.v x.v)]) rfl rfl rfl rfl rfl rfl (by omega) hget rfl ?_
  refine a_asR 18 3 40 rfl rfl ?_
  refine a_callF hT rfl rfl rfl (by kernel_rfl) (copiedR_spec (a1 := x.p.num) (a2 := x.p.fr) (a3 := x.p.to) (v := x.v) (h := 40) hb) [40] [41, 40] ⟨⟨rfl, rfl, rfl, rfl, trivial⟩, trivial⟩ rfl ⟨⟨rfl, rfl, rfl, rfl⟩, trivial⟩ ?_
  rintro _ _ ⟨v', rfl, rfl⟩
  refine a_as 19 (b := .agg [.v (kI x.p.num) 0, .v (kI x.p.fr) 0, .v (kI x.p.to) 0, .row v' 41]) rfl ⟨rfl, rfl, rfl, rfl, trivial⟩ ?_
  refine a_freezeA 19 3 41 rfl rfl rfl rfl rfl ?_
  refine a_new hT hZ 41 rfl rfl rfl rfl fun g2 => ?_
  refine a_call hT rfl rfl rfl (by kernel_rfl) (ndrop_in (last := last) (h := 10) (h1 := 0) (i := i) (es := L.map PX.d) (by omega) (by omega)) [10, 30] [10, 30] rfl rfl ?_
  rintro _ _ ⟨v'1, rfl, rfl⟩
  refine a_ret hT [10, 30, 31] rfl rfl rfl rfl rfl rfl ?_
  exact ⟨v'1, rfl, rfl⟩
def noPk : Pk := ⟨0, 0, 0, []⟩
theorem ndeliver_out {g h h1 : Nat} {v : Value} {last i : Int} {es : List (List A.Dat)} (hi : ¬ (0 ≤ i ∧ i < es.length)) : FSpec Try.prog 27 [ptrA g h, .v (kI i) h1] [netB g v last, rowPk v es] fun a cs => a = .tup [pkA noPk, .v (.bool false) 0] ∧ cs = [netB g v last, rowPk v es] := by
  have ht : decide (0 ≤ i ∧ i < es.length) = false := by rw [decide_eq_false_iff_not]; exact hi
  refine spec_ent ?_
  refine a_enter hT [ptrA g 10, .v (kI i) 0] [10, 30] Try.func27 rfl rfl rfl ⟨rfl, rfl, trivial⟩ fun c => ?_
  refine a_new hT hZ 20 rfl rfl rfl rfl fun g1 => ?_
  refine a_call hT rfl rfl rfl (by kernel_rfl) (nthere_spec (g := g) (h := 10) (h1 := 0)) [10, 30] [10, 30] rfl rfl ?_
  rintro _ _ ⟨rfl, rfl⟩
  rw [ht]
  refine a_t hT rfl rfl rfl ?_
  refine a_build hT hZ [.v (Value.int IntKind.i64 0) 0, .v (Value.int IntKind.i64 0) 0, .v (Value.int IntKind.i64 0) 0, .v (Value.slice none 0 0) 0] rfl rfl rfl rfl rfl rfl ?_
  refine a_ret hT [10, 30] rfl rfl rfl rfl rfl rfl ?_
  exact ⟨.tup [pkA noPk, .v (.bool false) 0], [netB g v last, rowPk v es], ⟨⟨rfl, rfl, rfl, ⟨rfl, rfl⟩, trivial⟩, rfl, trivial⟩, ⟨⟨rfl, rfl, Fits.refl _⟩, ⟨rfl, rfl, rfl, rfl⟩, trivial⟩, rfl, rfl⟩
theorem ndouble_in {g h h1 i : Nat} {v : Value} {last : Int} {L a c : List PX} {x : PX} (hat : At L i x a c) (hn : L.length < 1000000) (hb : x.p.by_.length ≤ lim) (hl0 : 0 ≤ last) (hl1 : last < 1000000) : FSpec Try.prog 29 [ptrA g h, .v (kI (i : Int)) h1] (netCs g last v L)
    fun r cs => (200 ≤ L.length ∧ r = .tup [.v (kI 0) 0, .v (kI 14) 0] ∧ cs = netCs g last v L) ∨ (L.length < 200 ∧ ∃ v' y, r = .tup [.v (kI (last + 1)) 0, .v (kI 0) 0] ∧ cs = netCs g (last + 1) v' (L ++ [⟨⟨last + 1, x.p.fr, x.p.to, x.p.by_⟩, y⟩])) := by
  have hi := hat.lt
  have hget := hat.get
  have hlen : (L.map PX.d).length = L.length := List.length_map _
  have ht : decide (0 ≤ (i : Int) ∧ (i : Int) < (L.map PX.d).length) = true := by rw [decide_eq_true_eq]; omega
  refine FSpec.weak (R := fun r cs => (200 ≤ L.length ∧ r = .tup [.v (kI 0) 0, .v (kI 14) 0] ∧ Ent cs (netCs g last v L)) ∨ (L.length < 200 ∧ ∃ v' y, r = .tup [.v (kI (last + 1)) 0, .v (kI 0) 0] ∧ Ent cs (netCs g (last + 1) v' (L ++ [⟨⟨last + 1, x.p.fr, x.p.to, x.p.by_⟩, y⟩])))) ?_ fun r cs hR => ?_
  rotate_left
  · rcases hR with ⟨h1, h2, h3⟩ | ⟨h1, v', y, h2, h3⟩
    · exact ⟨r, netCs g last v L, [], Fit.refl _, by rw [List.append_nil]; exact h3, .inl ⟨h1, h2, rfl⟩⟩
    · exact ⟨r, _, [], Fit.refl _, by rw [List.append_nil]; exact h3, .inr ⟨h1, v', y, h2, rfl⟩⟩
  refine a_enter hT [ptrA g 10, .v (kI (i : Int)) 0] [10, 30, 31] Try.func29 rfl rfl rfl ⟨rfl, rfl, trivial⟩ fun c => ?_
  refine a_f hT rfl rfl rfl ?_
  refine a_call hT rfl rfl rfl (by kernel_rfl) (nthere_spec (g := g) (h := 10) (h1 := 0)) [10, 30] [10, 30] rfl rfl ?_
  rintro _ _ ⟨rfl, rfl⟩
  rw [ht]
  refine a_f hT rfl rfl rfl ?_
  refine a_rowfact 30 rfl rfl fun hf => ?_
  rcases hf with ⟨_, h⟩ | ⟨gr, capr, rfl⟩
  · rw [h] at hget; simp at hget
  refine a_ent [31] [40, 31] _ rfl rfl hat.focus ?_
  refine a_rix hT i rfl rfl rfl rfl rfl rfl rfl (by omega) ?_
  refine a_rld hT i 0 x.d (.agg [.d (.v (kI x.p.num)), .d (.v (kI x.p.fr)), .d (.v (kI x.p.to)), .d (.v x.v)]) rfl rfl rfl rfl rfl rfl (by omega) hget rfl ?_
  refine a_asR 21 3 40 rfl rfl ?_
  refine a_as 21 (b := .agg [.v (kI x.p.num) 0, .v (kI x.p.fr) 0, .v (kI x.p.to) 0, .row x.v 40]) rfl ⟨rfl, rfl, rfl, rfl, trivial⟩ ?_
  refine a_new hT hZ 41 rfl rfl rfl rfl fun g1 => ?_
  refine a_callZ hT rfl rfl rfl (by kernel_rfl) (nsend_spec (g := g) (h := 10) (h1 := 0) (h2 := 0) (last := last) (fr := x.p.fr) (to := x.p.to) (es := L.map PX.d) hb hl0 hl1) [40] [10, 30] [10, 30, 42] rfl rfl rfl ⟨rfl, rfl, rfl, rfl, trivial⟩ ⟨⟨rfl, rfl, Fits.refl _⟩, ⟨rfl, rfl, rfl, rfl⟩, trivial⟩ (by
    rintro _ _ (⟨_, rfl, rfl⟩ | ⟨_, v', y, rfl, rfl⟩)
    · exact ⟨inferInstance, @FreeCs.cons _ _ inferInstance (@FreeCs.cons _ _ (freeC_vs (pxs_vs L)) inferInstance)⟩
    · exact ⟨inferInstance, @FreeCs.cons _ _ inferInstance (@FreeCs.cons _ _ (freeC_vs fun r hr d hd => by
        rcases List.mem_append.1 hr with hr | hr
        · exact pxs_vs L r hr d hd
        · simp at hr; subst hr; exact pkD_vs _ _ d hd) inferInstance)⟩) ?_
  rintro _ _ (⟨hl, rfl, rfl⟩ | ⟨hl, v', y, rfl, rfl⟩)
  · refine a_ent [40, 31] [31] [.ext (listA (L.map PX.c))] rfl rfl hat.back ?_
    refine a_ret hT [10, 30, 31] rfl rfl rfl rfl rfl rfl ?_
    exact .inl ⟨by omega, rfl, Ent.refl _⟩
  · refine a_ent [40, 31] [31] [.ext (listA (L.map PX.c))] rfl rfl hat.back ?_
    refine a_ent [42, 31] [31] [.ext (listA ((L ++ [(⟨⟨last + 1, x.p.fr, x.p.to, x.p.by_⟩, y⟩ : PX)]).map PX.c))] rfl rfl ?_ ?_
    · have := ent_back (a := L) (c := []) (⟨⟨last + 1, x.p.fr, x.p.to, x.p.by_⟩, y⟩ : PX)
      rw [List.append_nil] at this
      exact this
    refine a_ret hT [10, 30, 31] rfl rfl rfl rfl rfl rfl ?_
    exact .inr ⟨by omega, v', y, rfl, by unfold netCs; rw [List.map_append (f := PX.d)]; exact Ent.refl _⟩
theorem nall_spec {g h : Nat} {v : Value} {last : Int} {L : List PX} (hn : L.length ≤ 200) (hb : ∀ x ∈ L, x.p.by_.length ≤ lim) : FSpec Try.prog 36 [ptrA g h] (netCs g last v L) fun r cs => r = .d (.sl 4 ((L.map (·.p)).map pkF)) ∧ cs = netCs g last v L := by
  have hlen : (L.map PX.d).length = L.length := List.length_map _
  refine FSpec.weak (R := fun r cs => r = .d (.sl 4 ((L.map (·.p)).map pkF)) ∧ Ent cs (netCs g last v L)) ?_ fun r cs ⟨h1, h2⟩ => ⟨r, netCs g last v L, [], Fit.refl _, by rw [List.append_nil]; exact h2, h1, rfl⟩
  refine a_enter hT [ptrA g 10] [10, 30, 31] Try.func36 rfl rfl rfl ⟨rfl, trivial⟩ fun c => ?_
  refine a_run hT 8 rfl rfl ?_
  refine a_nilrow 3 32 36 4 rfl rfl ?_
  refine a_call hT rfl rfl rfl (by kernel_rfl) (nlen_spec (g := g) (h := 10)) [10, 30] [10, 30] rfl rfl ?_
  rintro _ _ ⟨rfl, rfl⟩
  refine a_loop hT [0, 3, 6, 7] (fun x : Nat × Value => [ptrA g 10, .row x.2 32, .v (kI (L.map PX.d).length) 0, .v (kI (x.1 : Int)) 0]) (fun x => [(10, netB g v last), (30, rowPk v (L.map PX.d)), (31, .ext (listA (L.map PX.c))), (32, rowPk x.2 (((L.take x.1).map (·.p)).map pkF))]) (fun x => x.1 ≤ L.length) (fun x => L.length - x.1) (0, .slice none 0 0) [10, 30, 31, 32] rfl rfl (Nat.zero_le _) ⟨rfl, rfl, rfl, rfl, trivial⟩ rfl ⟨⟨rfl, rfl, Fits.refl _⟩, ⟨rfl, rfl, rfl, rfl⟩, rfl, ⟨rfl, rfl, rfl, rfl⟩, trivial⟩ ?_
  rintro ⟨i, v3⟩ hi
  dsimp only at hi ⊢
  have hw : IntKind.i64.wrap ((i : Int) + 1) = ((i + 1 : Nat) : Int) := by rw [w64 (by omega) (by omega)]; omega
  refine a_if hT rfl rfl (fun h2 => ?_) (fun h2 => ?_)
  · have h2 : (i : Int) < (L.map PX.d).length := of_decide_eq_true h2
    have hi1 : i < L.length := by omega
    have hat := at_of hi1
    have hget := hat.get
    have hbx := hb L[i] (List.getElem_mem hi1)
    have htk : L.take (i + 1) = L.take i ++ [L[i]] := by rw [List.take_append_getElem hi1]
    generalize L[i] = x at hat hget hbx htk
    refine a_rowfact 30 rfl rfl fun hf => ?_
    rcases hf with ⟨_, h⟩ | ⟨gr, capr, rfl⟩
    · rw [h] at hget; simp at hget
    refine a_ent [31] [40, 31] _ rfl rfl hat.focus ?_
    refine a_rix hT i rfl rfl rfl rfl rfl rfl rfl (by omega) ?_
    refine a_rld hT i 0 x.d (.agg [.d (.v (kI x.p.num)), .d (.v (kI x.p.fr)), .d (.v (kI x.p.to)), .d (.v x.v)]) rfl rfl rfl rfl rfl rfl (by omega) hget rfl ?_
    refine a_asR 17 3 40 rfl rfl ?_
    refine a_callF hT rfl rfl rfl (by kernel_rfl) (copiedR_spec (a1 := x.p.num) (a2 := x.p.fr) (a3 := x.p.to) (v := x.v) (h := 40) hbx) [40] [41, 40] ⟨⟨rfl, rfl, rfl, rfl, trivial⟩, trivial⟩ rfl ⟨⟨rfl, rfl, rfl, rfl⟩, trivial⟩ ?_
    rintro _ _ ⟨v', rfl, rfl⟩
    refine a_as 18 (b := .agg [.v (kI x.p.num) 0, .v (kI x.p.fr) 0, .v (kI x.p.to) 0, .row v' 41]) rfl ⟨rfl, rfl, rfl, rfl, trivial⟩ ?_
    refine a_freezeA 18 3 41 rfl rfl rfl rfl rfl ?_
    refine a_lit hT 42 rfl rfl rfl rfl (by kernel_rfl) rfl rfl rfl rfl fun x42 => ?_
    refine a_app hT 32 (((L.take (i + 1)).map (·.p)).map pkF) rfl rfl rfl rfl (by kernel_rfl) rfl rfl rfl rfl rfl (by rw [htk, List.map_append, List.map_append]; rfl) (by simp; unfold lim; omega) fun v4 => ?_
    refine a_ent [40, 31] [31] [.ext (listA (L.map PX.c))] rfl rfl hat.back ?_
    exact a_next hT (i + 1, v4) [10, 30, 31, 32] rfl rfl ⟨by show i + 1 ≤ L.length; omega, by show L.length - (i + 1) < L.length - i; omega⟩ ⟨rfl, rfl, rfl, by show Value.int .i64 _ = Value.int .i64 _; rw [hw], trivial⟩ rfl ⟨⟨rfl, rfl, Fits.refl _⟩, ⟨rfl, rfl, rfl, rfl⟩, rfl, ⟨rfl, rfl, rfl, rfl⟩, trivial⟩
  · have h2 : ¬ (i : Int) < (L.map PX.d).length := of_decide_eq_false h2
    have e : i = L.length := by omega
    subst e
    rw [List.take_length]
    refine a_freeze 3 32 rfl rfl rfl rfl ?_
    refine a_ret hT [10, 30, 31] rfl rfl rfl rfl rfl rfl ?_
    exact ⟨rfl, Ent.refl _⟩
theorem ndouble_out {g h h1 : Nat} {v : Value} {last i : Int} {es : List (List A.Dat)} (hi : ¬ (0 ≤ i ∧ i < es.length)) : FSpec Try.prog 29 [ptrA g h, .v (kI i) h1] [netB g v last, rowPk v es] fun a cs => a = .tup [.v (kI 0) 0, .v (kI 5) 0] ∧ cs = [netB g v last, rowPk v es] := by
  have ht : decide (0 ≤ i ∧ i < es.length) = false := by rw [decide_eq_false_iff_not]; exact hi
  refine a_enter hT [ptrA g 10, .v (kI i) 0] [10, 30] Try.func29 rfl rfl rfl ⟨rfl, rfl, trivial⟩ fun c => ?_
  refine a_f hT rfl rfl rfl ?_
  refine a_call hT rfl rfl rfl (by kernel_rfl) (nthere_spec (g := g) (h := 10) (h1 := 0)) [10, 30] [10, 30] rfl rfl ?_
  rintro _ _ ⟨rfl, rfl⟩
  rw [ht]
  refine a_t hT rfl rfl rfl ?_
  refine a_ret hT [10, 30] rfl rfl rfl rfl rfl rfl ?_
  first | exact ⟨rfl, rfl⟩ | rfl
theorem xor_u8 (a b : UInt8) : IntKind.wrap .u8 (BitVec.ofInt IntKind.u8.bits (a.toNat : Int) ^^^ BitVec.ofInt IntKind.u8.bits (b.toNat : Int)).toNat = ((a ^^^ b).toNat : Int) := by
  have h1 : (BitVec.ofInt IntKind.u8.bits (a.toNat : Int)) = BitVec.ofNat 8 a.toNat := rfl
  have h2 : (BitVec.ofInt IntKind.u8.bits (b.toNat : Int)) = BitVec.ofNat 8 b.toNat := rfl
  rw [h1, h2]
  have h3 := a.toNat_lt
  have h4 := b.toNat_lt
  have h5 : (BitVec.ofNat 8 a.toNat ^^^ BitVec.ofNat 8 b.toNat).toNat = (a ^^^ b).toNat := by
    rw [BitVec.toNat_xor, UInt8.toNat_xor, BitVec.toNat_ofNat, BitVec.toNat_ofNat, Nat.mod_eq_of_lt h3, Nat.mod_eq_of_lt h4]
  show IntKind.wrap .u8 (((BitVec.ofNat 8 a.toNat ^^^ BitVec.ofNat 8 b.toNat).toNat : Nat) : Int) = _
  rw [h5]
  have h6 := (a ^^^ b).toNat_lt
  generalize (a ^^^ b).toNat = m at h6
  simp [IntKind.wrap, IntKind.bits, IntKind.signed]
  omega
def xorB (l : List UInt8) (j : Nat) (b : UInt8) : List UInt8 := l.set j (l.getD j 0 ^^^ b)
theorem ndamage_in {g h h1 h2 i j : Nat} {v : Value} {last : Int} {b : UInt8} {L a c : List PX} {x : PX} (hat : At L i x a c) (hn : L.length < 1000000) (hb : x.p.by_.length < 1000000) (hj : j < x.p.by_.length) : FSpec Try.prog 35 [ptrA g h, .v (kI (i : Int)) h1, .v (kI (j : Int)) h2, .v (byV b) 0] (netCs g last v L)
    fun r cs => r = .v (.bool true) 0 ∧ cs = netCs g last v (a ++ ⟨⟨x.p.num, x.p.fr, x.p.to, xorB x.p.by_ j b⟩, x.v⟩ :: c) := by
  have hi := hat.lt
  have hget := hat.get
  have hlen : (L.map PX.d).length = L.length := List.length_map _
  have ht : decide (0 ≤ (i : Int) ∧ (i : Int) < (L.map PX.d).length) = true := by rw [decide_eq_true_eq]; omega
  refine FSpec.weak (R := fun r cs => r = .v (.bool true) 0 ∧ Ent cs (netCs g last v (a ++ ⟨⟨x.p.num, x.p.fr, x.p.to, xorB x.p.by_ j b⟩, x.v⟩ :: c))) ?_ fun r cs ⟨h1, h2⟩ => ⟨r, _, [], Fit.refl _, by rw [List.append_nil]; exact h2, h1, rfl⟩
  refine a_enter hT [ptrA g 10, .v (kI (i : Int)) 0, .v (kI (j : Int)) 0, .v (byV b) 0] [10, 30, 31] Try.func35 rfl rfl rfl ⟨rfl, rfl, rfl, rfl, trivial⟩ fun cx => ?_
  refine a_call hT rfl rfl rfl (by kernel_rfl) (nthere_spec (g := g) (h := 10) (h1 := 0)) [10, 30] [10, 30] rfl rfl ?_
  rintro _ _ ⟨rfl, rfl⟩
  rw [ht]
  refine a_rowfact 30 rfl rfl fun hf => ?_
  rcases hf with ⟨_, h⟩ | ⟨gr, capr, rfl⟩
  · rw [h] at hget; simp at hget
  refine a_ent [31] [40, 31] _ rfl rfl hat.focus ?_
  refine a_rowfact 40 rfl rfl fun hf => ?_
  obtain ⟨⟨num, fr, to, by_⟩, xv⟩ := x
  rcases hf with ⟨_, h⟩ | ⟨gb, capb, hxv⟩
  · have : by_ = [] := by simpa using h
    subst this
    simp at hj
  have hxv : xv = .slice (some ⟨gb, 0, none⟩) (by_.map eB).length capb := hxv
  subst hxv
  have hj : j < by_.length := hj
  have hbl : (by_.map eB).length = by_.length := List.length_map _
  obtain ⟨u, hu⟩ : ∃ u, by_[j] = u := ⟨_, rfl⟩
  have hju : (by_.map eB)[j]? = some (eB u) := by simp [hj, hu]
  refine a_gf hT rfl rfl rfl rfl ?_
  refine a_gf hT rfl rfl rfl (by show decide ((j : Int) < 0) = false; simp) ?_
  refine a_rix hT (i) rfl rfl rfl rfl rfl rfl (by first | rfl | omega) (by omega) ?_
  refine a_rld hT i 3 _ (.d (.v (.slice (some ⟨gb, 0, none⟩) (by_.map eB).length capb))) rfl rfl rfl rfl rfl rfl (by show i * 4 + 3 = _; omega) hget rfl ?_
  refine a_asV 26 40 rfl ?_
  refine a_f hT rfl rfl (by show decide ((j : Int) ≥ ((by_.map eB).length : Int)) = false; simp; omega) ?_
  refine a_rix hT (i) rfl rfl rfl rfl rfl rfl (by first | rfl | omega) (by omega) ?_
  refine a_rld hT i 3 _ (.d (.v (.slice (some ⟨gb, 0, none⟩) (by_.map eB).length capb))) rfl rfl rfl rfl rfl rfl (by show i * 4 + 3 = _; omega) hget rfl ?_
  refine a_asV 37 40 rfl ?_
  refine a_rix hT (j) rfl rfl rfl rfl rfl rfl (by first | rfl | omega) (by omega) ?_
  refine a_rld hT j 0 (eB u) (.d (.v (byV u))) rfl rfl rfl rfl rfl rfl (by omega) hju rfl ?_
  refine a_bin hT _ rfl rfl rfl (by decide) rfl rfl (fun w => bin_xor w) ?_
  refine a_rix hT (j) rfl rfl rfl rfl rfl rfl (by first | rfl | omega) (by omega) ?_
  refine a_rst hT j 0 (eB u) (.v (.int .u8 (IntKind.wrap .u8 (BitVec.ofInt IntKind.u8.bits (u.toNat : Int) ^^^ BitVec.ofInt IntKind.u8.bits (b.toNat : Int)).toNat))) rfl rfl rfl rfl rfl rfl rfl (by omega) hju (by omega) rfl ?_
  have hset : (by_.map eB).set j ((eB u).set 0 (.v (.int .u8 (IntKind.wrap .u8 (BitVec.ofInt IntKind.u8.bits (u.toNat : Int) ^^^ BitVec.ofInt IntKind.u8.bits (b.toNat : Int)).toNat)))) = (xorB by_ j b).map eB := by
    unfold xorB
    rw [List.map_set, xor_u8, List.getD_eq_getElem?_getD, List.getElem?_eq_getElem hj, hu]
    rfl
  refine a_ent [40, 31] [31] [.ext (listA ((a ++ (⟨⟨num, fr, to, xorB by_ j b⟩, .slice (some ⟨gb, 0, none⟩) (by_.map eB).length capb⟩ : PX) :: c).map PX.c))] rfl rfl ?_ ?_
  · have hl : (xorB by_ j b).length = by_.length := by unfold xorB; rw [List.length_set]
    have := ent_back (a := a) (c := c) (⟨⟨num, fr, to, xorB by_ j b⟩, .slice (some ⟨gb, 0, none⟩) (by_.map eB).length capb⟩ : PX)
    show Ent [Chunk.row _ _ 1 ((by_.map eB).set j ((eB u).set 0 _)), _] _
    rw [hset]
    exact this
  refine a_ret hT [10, 30, 31] rfl rfl rfl rfl rfl rfl ?_
  have e1 : L.map PX.d = (a ++ (⟨⟨num, fr, to, xorB by_ j b⟩, .slice (some ⟨gb, 0, none⟩) (by_.map eB).length capb⟩ : PX) :: c).map PX.d := by rw [hat.e, List.map_append, List.map_append]; rfl
  refine ⟨rfl, ?_⟩
  unfold netCs
  dsimp only
  rw [← e1]
  exact Ent.refl _
theorem nmove_in {g h h1 h2 i k : Nat} {v : Value} {last : Int} {L a c : List PX} {x : PX} (hat : At L i x a c) (hn : L.length < 1000000) (hk : k < L.length) : FSpec Try.prog 56 [ptrA g h, .v (kI (i : Int)) h1, .v (kI (k : Int)) h2] (netCs g last v L)
    fun r cs => ∃ v', r = .v (.bool true) 0 ∧ cs = netCs g last v' ((a ++ c).take k ++ x :: (a ++ c).drop k) := by
  have hi := hat.lt
  have hget := hat.get
  have hlen : (L.map PX.d).length = L.length := List.length_map _
  have hlen2 : (a ++ c).length + 1 = L.length := by rw [hat.e]; simp; omega
  have ht : decide (0 ≤ (i : Int) ∧ (i : Int) < (L.map PX.d).length) = true := by rw [decide_eq_true_eq]; omega
  have ht2 : decide (0 ≤ (k : Int) ∧ (k : Int) < (L.map PX.d).length) = true := by rw [decide_eq_true_eq]; omega
  have hw : IntKind.i64.wrap ((i : Int) + 1) = ((i + 1 : Nat) : Int) := by rw [w64 (by omega) (by omega)]; omega
  refine FSpec.weak (R := fun r cs => ∃ v', r = .v (.bool true) 0 ∧ Ent cs (netCs g last v' ((a ++ c).take k ++ x :: (a ++ c).drop k))) ?_ fun r cs ⟨v', h1, h2⟩ => ⟨r, _, [], Fit.refl _, by rw [List.append_nil]; exact h2, v', h1, rfl⟩
  refine a_enter hT [ptrA g 10, .v (kI (i : Int)) 0, .v (kI (k : Int)) 0] [10, 30, 31] Try.func56 rfl rfl rfl ⟨rfl, rfl, rfl, trivial⟩ fun cx => ?_
  refine a_call hT rfl rfl rfl (by kernel_rfl) (nthere_spec (g := g) (h := 10) (h1 := 0)) [10, 30] [10, 30] rfl rfl ?_
  rintro _ _ ⟨rfl, rfl⟩
  rw [ht]
  refine a_gf hT rfl rfl rfl rfl ?_
  refine a_call hT rfl rfl rfl (by kernel_rfl) (nthere_spec (g := g) (h := 10) (h1 := 0)) [10, 30] [10, 30] rfl rfl ?_
  rintro _ _ ⟨rfl, rfl⟩
  rw [ht2]
  refine a_f hT rfl rfl rfl ?_
  refine a_rowfact 30 rfl rfl fun hf => ?_
  rcases hf with ⟨_, h⟩ | ⟨gr, capr, rfl⟩
  · rw [h] at hget; simp at hget
  refine a_rix hT i rfl rfl rfl rfl rfl rfl rfl (by omega) ?_
  refine a_rld hT i 0 x.d (.agg [.d (.v (kI x.p.num)), .d (.v (kI x.p.fr)), .d (.v (kI x.p.to)), .d (.v x.v)]) rfl rfl rfl rfl rfl rfl (by omega) hget rfl ?_
  refine a_new hT hZ 32 rfl rfl rfl rfl fun g1 => ?_
  refine a_treeN hT [6] (fun _ : Value => [.v (.bool false) 0]) (fun v' => [(10, netB g v' last), (30, rowPk v' (((a ++ c).map PX.d).take k ++ x.d :: ((a ++ c).map PX.d).drop k)), (31, .ext (listA (L.map PX.c)))]) (fun _ => True) [30] 15 [(0, false), (1, false), (2, false), (3, false), (4, false), (5, false), (6, false), (7, false), (9, false), (10, false)] rfl rfl (by kernel_rfl) (by kernel_rfl) rfl ?_ ?_
  · have hd := delete_spec (v := .slice (some ⟨gr, 0, none⟩) (L.map PX.d).length capr) (h := 30) (h1 := 0) (h2 := 0) (i := i) (es := L.map PX.d) (by omega)
    rw [← hw, hat.delD] at hd
    have hins : ∀ {v' : Value} {y : Value} {hy g2 cap2 : Nat}, v' = .slice (some ⟨g2, 0, none⟩) ((L.map PX.d).length - 1) cap2 → (L.map PX.d).length ≤ cap2 → FSpec Try.prog 75 [.row v' 1, .v (kI (k : Int)) 0, .row y hy] [rowPk v' ((a ++ c).map PX.d), rowPk y [x.d]] fun r cs => ∃ v2, r = .row v2 1 ∧ cs = [rowPk v2 (((a ++ c).map PX.d).take k ++ x.d :: ((a ++ c).map PX.d).drop k)] := fun {v' y hy g2 cap2} hv hc => by
      have hl : ((a ++ c).map PX.d).length = (L.map PX.d).length - 1 := by rw [List.length_map]; omega
      exact insert_spec (h := 1) (h1 := 0) (g := g2) (cap := cap2) (by omega) (by rw [hv, hl]) (by omega) (by omega)
    refine a_alt hT [([(8, true), (11, true), (12, true), (13, false), (14, false), (15, true)], true), ([(11, true), (8, true), (12, true), (13, false), (14, false), (15, true)], true)] rfl rfl (by kernel_rfl) ⟨?_, ?_, trivial⟩
    · refine a_call hT rfl rfl rfl (by kernel_rfl) hd [30] [1] rfl rfl ?_
      rintro _ _ ⟨v', ⟨g2, cap2, hv', hc2⟩, rfl, rfl⟩
      refine a_lit hT 33 rfl rfl rfl rfl (by kernel_rfl) rfl rfl rfl rfl fun x33 => ?_
      refine a_call hT rfl rfl rfl (by kernel_rfl) (hins hv' hc2) [1, 33] [1] rfl rfl ?_
      rintro _ _ ⟨v2, rfl, rfl⟩
      exact a_next hT v2 [10, 1, 31] rfl rfl trivial ⟨rfl, trivial⟩ rfl ⟨⟨rfl, rfl, rfl, rfl, trivial⟩, ⟨rfl, rfl, rfl, rfl⟩, rfl, trivial⟩
    · refine a_lit hT 33 rfl rfl rfl rfl (by kernel_rfl) rfl rfl rfl rfl fun x33 => ?_
      refine a_call hT rfl rfl rfl (by kernel_rfl) hd [30] [1] rfl rfl ?_
      rintro _ _ ⟨v', ⟨g2, cap2, hv', hc2⟩, rfl, rfl⟩
      refine a_call hT rfl rfl rfl (by kernel_rfl) (hins hv' hc2) [1, 33] [1] rfl rfl ?_
      rintro _ _ ⟨v2, rfl, rfl⟩
      exact a_next hT v2 [10, 1, 31] rfl rfl trivial ⟨rfl, trivial⟩ rfl ⟨⟨rfl, rfl, rfl, rfl, trivial⟩, ⟨rfl, rfl, rfl, rfl⟩, rfl, trivial⟩
  · rintro v' _
    refine a_ret hT [10, 30, 31] rfl rfl rfl rfl rfl rfl ?_
    refine ⟨v', rfl, ?_⟩
    have hp : (L.map PX.c).Perm (((a ++ c).take k ++ x :: (a ++ c).drop k).map PX.c) := by
      refine List.Perm.map _ ?_
      rw [hat.e]
      refine List.perm_middle.trans (List.Perm.trans ?_ List.perm_middle.symm)
      rw [List.take_append_drop]
    have e1 : ((a ++ c).take k ++ x :: (a ++ c).drop k).map PX.d = ((a ++ c).map PX.d).take k ++ x.d :: ((a ++ c).map PX.d).drop k := by rw [List.map_append, List.map_cons, List.map_take, List.map_drop]
    unfold netCs
    rw [e1]
    exact Ent.cons _ (Ent.cons _ (fun M w S hh => holds_one.2 (HoldsL.perm hp (holds_one.1 hh))))
end Go.Proofs.Ytdconcindpfmcaa
end

section
/- The document's net: Send, there, Drop, Double, Deliver, Damage, Move. -/
set_option linter.unusedVariables false
set_option linter.unusedSimpArgs false
set_option maxRecDepth 100000
namespace Go.Proofs.Ytdconcindpfmcaa
open V A
abbrev rowRf (v : Value) (l : List Pk) : Chunk := .row v 133 4 (l.map pkF)
abbrev refB (g : Nat) (v : Value) (last : Int) : Chunk := .blk g 96 [.row v 30, .v (kI last) 0]
theorem rthere_spec {g h h1 : Nat} {v : Value} {last i : Int} {l : List Pk} : FSpec Try.prog 82 [ptrA g h, .v (kI i) h1] [refB g v last, rowRf v l] fun a cs => a = .v (.bool (decide (0 ≤ i ∧ i < l.length))) 0 ∧ cs = [refB g v last, rowRf v l] := by
  have hlen : (l.map pkF).length = l.length := List.length_map _
  refine a_enter hT [ptrA g 10, .v (kI i) 0] [10, 30] Try.func82 rfl rfl rfl ⟨rfl, rfl, trivial⟩ fun c => ?_
  refine a_g hT rfl rfl rfl (fun h2 => ?_) (fun h2 => ?_)
  · have h2 : i ≥ 0 := of_decide_eq_true h2
    refine a_ret hT [10, 30] rfl rfl rfl rfl rfl rfl ?_
    exact ⟨congrArg (fun b => AV.v (.bool b) 0) (decide_eq_decide.2 ⟨fun h => ⟨h2, by have h : i < ((l.map pkF).length : Int) := h; omega⟩, fun h => by show i < ((l.map pkF).length : Int); omega⟩), rfl⟩
  · have h2 : ¬ i ≥ 0 := of_decide_eq_false h2
    refine a_ret hT [10, 30] rfl rfl rfl rfl rfl rfl ?_
    exact ⟨congrArg (fun b => AV.v (.bool b) 0) (show false = decide _ by rw [eq_comm, decide_eq_false_iff_not]; omega), rfl⟩
theorem rsend_spec {g h h1 h2 : Nat} {v : Value} {last fr to : Int} {l : List Pk} {b : List UInt8} (hb : b.length ≤ lim) (hl0 : 0 ≤ last) (hl1 : last < 1000000) : FSpec Try.prog 69 [ptrA g h, .v (kI fr) h1, .v (kI to) h2, .d (A.bytesD b)] [refB g v last, rowRf v l]
    fun a cs => (200 ≤ l.length ∧ a = .tup [.v (kI 0) 0, .v (kI 14) 0] ∧ cs = [refB g v last, rowRf v l]) ∨ (l.length < 200 ∧ ∃ v', a = .tup [.v (kI (last + 1)) 0, .v (kI 0) 0] ∧ cs = [refB g v' (last + 1), rowRf v' (l ++ [⟨last + 1, fr, to, b⟩])]) := by
  have hlen : (l.map pkF).length = l.length := List.length_map _
  have hw1 : IntKind.i64.wrap (last + 1) = last + 1 := w64 (by omega) (by omega)
  have hq : Value.int .i64 (IntKind.i64.wrap (last + 1)) = kI (last + 1) := by rw [hw1]; rfl
  refine a_enter hT [ptrA g 10, .v (kI fr) 0, .v (kI to) 0, .d (A.bytesD b)] [10, 30] Try.func69 rfl rfl rfl ⟨rfl, rfl, rfl, rfl, trivial⟩ fun c => ?_
  refine a_if hT rfl rfl (fun h3 => ?_) (fun h3 => ?_)
  · have h3 : ((l.map pkF).length : Int) ≥ 200 := of_decide_eq_true h3
    refine a_ret hT [10, 30] rfl rfl rfl rfl rfl rfl ?_
    exact .inl ⟨by omega, rfl, rfl⟩
  · have h3 : ¬ ((l.map pkF).length : Int) ≥ 200 := of_decide_eq_false h3
    have hel : (l.length : Int) < 200 := by omega
    refine a_run hT 12 rfl rfl ?_
    refine a_freezeB 10 0 30 rfl rfl rfl rfl rfl ?_
    refine a_treeN hT [0] (fun _ : Value => [ptrA g 10]) (fun v => [(10, refB g v (last + 1)), (30, rowRf v (l ++ [⟨last + 1, fr, to, b⟩]))]) (fun _ => True) [] 21 [(0, false), (2, false), (7, false), (11, false), (12, false), (14, false), (3, false), (8, false), (4, false), (9, false), (5, false), (10, false)] rfl rfl (by kernel_rfl) (by kernel_rfl) rfl ?_ ?_
    · refine a_alt hT [([(1, true)], false), ([(13, true), (1, true), (6, true), (15, true), (16, true), (17, true), (18, true), (19, true), (20, true), (21, true)], true)] rfl rfl (by kernel_rfl) ⟨?_, ?_, trivial⟩
      · refine a_lit hT 20 rfl rfl rfl rfl (by kernel_rfl) rfl rfl rfl rfl fun x20 => ?_
        refine a_alt hT [([(6, true), (13, true), (15, true), (16, true), (17, true), (18, true), (19, true), (20, true), (21, true)], true), ([(13, true), (6, true), (15, true), (16, true), (17, true), (18, true), (19, true), (20, true), (21, true)], true)] rfl rfl (by kernel_rfl) ⟨?_, ?_, trivial⟩
        · refine a_app hT 20 _ rfl rfl rfl rfl (by kernel_rfl) rfl rfl rfl rfl rfl rfl (by first | (simp; done) | (simp; omega) | (simp; unfold lim; omega) | (simp; assumption)) fun v1 => ?_
          refine a_lit hT 21 rfl rfl rfl rfl (by kernel_rfl) rfl rfl rfl rfl fun x21 => ?_
          refine a_app hT 21 _ rfl rfl rfl rfl (by kernel_rfl) rfl rfl rfl rfl rfl rfl (by first | (simp; done) | (simp; omega) | (simp; unfold lim; omega) | (simp; assumption)) fun v2 => ?_
          refine a_build hT hZ [.v (Value.int IntKind.i64 (IntKind.wrap IntKind.i64 (last + 1))) 0, .v (kI fr) 0, .v (kI to) 0, .row v2 21] rfl rfl rfl rfl rfl rfl ?_
          refine a_freezeAR 39 3 21 rfl rfl rfl rfl rfl ?_
          refine a_lit hT 22 rfl rfl rfl rfl (by kernel_rfl) rfl rfl rfl rfl fun x22 => ?_
          refine a_app hT 20 ((l ++ [(⟨last + 1, fr, to, b⟩ : Pk)]).map pkF) rfl rfl rfl rfl (by kernel_rfl) rfl rfl rfl rfl rfl (by rw [List.map_append]; unfold pkF kI; simp only [hw1]; rfl) (by simp; unfold lim; omega) fun v' => ?_
          exact a_next hT v' [10, 20] rfl rfl trivial ⟨rfl, trivial⟩ rfl ⟨⟨rfl, rfl, rfl, hq, trivial⟩, ⟨rfl, rfl, rfl, rfl⟩, trivial⟩
        · refine a_lit hT 21 rfl rfl rfl rfl (by kernel_rfl) rfl rfl rfl rfl fun x21 => ?_
          refine a_app hT 20 _ rfl rfl rfl rfl (by kernel_rfl) rfl rfl rfl rfl rfl rfl (by first | (simp; done) | (simp; omega) | (simp; unfold lim; omega) | (simp; assumption)) fun v1 => ?_
          refine a_app hT 21 _ rfl rfl rfl rfl (by kernel_rfl) rfl rfl rfl rfl rfl rfl (by first | (simp; done) | (simp; omega) | (simp; unfold lim; omega) | (simp; assumption)) fun v2 => ?_
          refine a_build hT hZ [.v (Value.int IntKind.i64 (IntKind.wrap IntKind.i64 (last + 1))) 0, .v (kI fr) 0, .v (kI to) 0, .row v2 21] rfl rfl rfl rfl rfl rfl ?_
          refine a_freezeAR 39 3 21 rfl rfl rfl rfl rfl ?_
          refine a_lit hT 22 rfl rfl rfl rfl (by kernel_rfl) rfl rfl rfl rfl fun x22 => ?_
          refine a_app hT 20 ((l ++ [(⟨last + 1, fr, to, b⟩ : Pk)]).map pkF) rfl rfl rfl rfl (by kernel_rfl) rfl rfl rfl rfl rfl (by rw [List.map_append]; unfold pkF kI; simp only [hw1]; rfl) (by simp; unfold lim; omega) fun v' => ?_
          exact a_next hT v' [10, 20] rfl rfl trivial ⟨rfl, trivial⟩ rfl ⟨⟨rfl, rfl, rfl, hq, trivial⟩, ⟨rfl, rfl, rfl, rfl⟩, trivial⟩
      · refine a_lit hT 20 rfl rfl rfl rfl (by kernel_rfl) rfl rfl rfl rfl fun x20 => ?_
        refine a_lit hT 21 rfl rfl rfl rfl (by kernel_rfl) rfl rfl rfl rfl fun x21 => ?_
        refine a_app hT 21 _ rfl rfl rfl rfl (by kernel_rfl) rfl rfl rfl rfl rfl rfl (by first | (simp; done) | (simp; omega) | (simp; unfold lim; omega) | (simp; assumption)) fun v1 => ?_
        refine a_app hT 20 _ rfl rfl rfl rfl (by kernel_rfl) rfl rfl rfl rfl rfl rfl (by first | (simp; done) | (simp; omega) | (simp; unfold lim; omega) | (simp; assumption)) fun v2 => ?_
        refine a_build hT hZ [.v (Value.int IntKind.i64 (IntKind.wrap IntKind.i64 (last + 1))) 0, .v (kI fr) 0, .v (kI to) 0, .row v2 20] rfl rfl rfl rfl rfl rfl ?_
        refine a_freezeAR 39 3 20 rfl rfl rfl rfl rfl ?_
        refine a_lit hT 22 rfl rfl rfl rfl (by kernel_rfl) rfl rfl rfl rfl fun x22 => ?_
        refine a_app hT 21 ((l ++ [(⟨last + 1, fr, to, b⟩ : Pk)]).map pkF) rfl rfl rfl rfl (by kernel_rfl) rfl rfl rfl rfl rfl (by rw [List.map_append]; unfold pkF kI; simp only [hw1]; rfl) (by simp; unfold lim; omega) fun v' => ?_
        exact a_next hT v' [10, 21] rfl rfl trivial ⟨rfl, trivial⟩ rfl ⟨⟨rfl, rfl, rfl, hq, trivial⟩, ⟨rfl, rfl, rfl, rfl⟩, trivial⟩
    · rintro v' _
      refine a_ret hT [10, 30] rfl rfl rfl rfl rfl rfl ?_
      exact .inr ⟨by omega, v', rfl, rfl⟩
theorem rdrop_in {g h h1 i : Nat} {v : Value} {last : Int} {l : List Pk} (hi : i < l.length) (hn : l.length ≤ 1000) : FSpec Try.prog 70 [ptrA g h, .v (kI (i : Int)) h1] [refB g v last, rowRf v l] fun a cs => ∃ v', a = .v (.bool true) 0 ∧ cs = [refB g v' last, rowRf v' (l.eraseIdx i)] := by
  have hlen : (l.map pkF).length = l.length := List.length_map _
  have hw : IntKind.i64.wrap ((i : Int) + 1) = ((i + 1 : Nat) : Int) := by rw [w64 (by omega) (by omega)]; omega
  have ht : decide (0 ≤ (i : Int) ∧ (i : Int) < l.length) = true := by rw [decide_eq_true_eq]; omega
  refine spec_ent ?_
  refine a_enter hT [ptrA g 10, .v (kI (i : Int)) 0] [10, 30] Try.func70 rfl rfl rfl ⟨rfl, rfl, trivial⟩ fun c => ?_
  refine a_call hT rfl rfl rfl (by kernel_rfl) (rthere_spec (g := g) (h := 10) (h1 := 0)) [10, 30] [10, 30] rfl rfl ?_
  rintro _ _ ⟨rfl, rfl⟩
  rw [ht]
  refine a_f hT rfl rfl rfl ?_
  refine a_freezeB 10 0 30 rfl rfl rfl rfl rfl ?_
  refine a_draw hT [] true [(0, false), (2, false), (6, false), (9, false), (13, false), (3, false), (10, false), (14, false), (4, false), (11, false), (5, false), (12, false), (7, false), (15, false), (1, true), (8, true), (16, true), (17, false), (18, false), (19, true)] rfl rfl (by kernel_rfl) (by kernel_rfl) rfl ?_
  refine a_sl hT 0 i ((l.map pkF).take i) rfl rfl rfl rfl rfl rfl ⟨.i64, 0, rfl⟩ (by omega) (by omega) (by simp) ?_
  refine a_sl hT (i + 1) l.length ((l.map pkF).drop (i + 1)) rfl rfl rfl rfl rfl ⟨.i64, 0, by show AV.v (.int .i64 (IntKind.i64.wrap ((i : Int) + 1))) 0 = _; rw [hw]⟩ hlen.symm (by omega) (by omega) (List.take_of_length_le (by rw [List.length_drop, hlen]; omega)) ?_
  refine a_lit hT 50 rfl rfl rfl rfl (by kernel_rfl) rfl rfl rfl rfl fun y => ?_
  refine a_app hT 51 ((l.map pkF).take i) rfl rfl rfl rfl (by kernel_rfl) rfl rfl rfl rfl rfl rfl (by simp; unfold lim; omega) fun y2 => ?_
  refine a_app hT 52 ((l.eraseIdx i).map pkF) rfl rfl rfl rfl (by kernel_rfl) rfl rfl rfl rfl rfl (by rw [List.eraseIdx_eq_take_drop_succ, List.map_append, List.map_take, List.map_drop]) (by simp; unfold lim; omega) fun y3 => ?_
  refine a_ret hT [10, 52] rfl rfl rfl rfl rfl rfl ?_
  exact ⟨_, [refB g y3 last, rowRf y3 (l.eraseIdx i)], Fit.refl _, ⟨⟨rfl, rfl, rfl, rfl, trivial⟩, ⟨rfl, rfl, rfl, rfl⟩, trivial⟩, y3, rfl, rfl⟩
end Go.Proofs.Ytdconcindpfmcaa
end

section
/- The document's net: Double, Deliver, Damage, Move. -/
set_option linter.unusedVariables false
set_option linter.unusedSimpArgs false
set_option maxRecDepth 100000
namespace Go.Proofs.Ytdconcindpfmcaa
open V A
theorem rdrop_out {g h h1 : Nat} {v : Value} {last i : Int} {l : List Pk} (hi : ¬ (0 ≤ i ∧ i < l.length)) : FSpec Try.prog 70 [ptrA g h, .v (kI i) h1] [refB g v last, rowRf v l] fun a cs => a = .v (.bool false) 0 ∧ cs = [refB g v last, rowRf v l] := by
  have ht : decide (0 ≤ i ∧ i < l.length) = false := by rw [decide_eq_false_iff_not]; exact hi
  refine a_enter hT [ptrA g 10, .v (kI i) 0] [10, 30] Try.func70 rfl rfl rfl ⟨rfl, rfl, trivial⟩ fun c => ?_
  refine a_call hT rfl rfl rfl (by kernel_rfl) (rthere_spec (g := g) (h := 10) (h1 := 0)) [10, 30] [10, 30] rfl rfl ?_
  rintro _ _ ⟨rfl, rfl⟩
  rw [ht]
  refine a_t hT rfl rfl rfl ?_
  refine a_ret hT [10, 30] rfl rfl rfl rfl rfl rfl ?_
  first | exact ⟨rfl, rfl⟩ | rfl
theorem pkF_at {l : List Pk} {i : Nat} {p : Pk} (h : l[i]? = some p) : (l.map pkF)[i]? = some (pkF p) := by rw [List.getElem?_map, h]; rfl
theorem rdouble_in {g h h1 i : Nat} {v : Value} {last : Int} {l : List Pk} {p : Pk} (hp : l[i]? = some p) (hb : p.by_.length ≤ lim) (hl0 : 0 ≤ last) (hl1 : last < 1000000) : FSpec Try.prog 71 [ptrA g h, .v (kI (i : Int)) h1] [refB g v last, rowRf v l]
    fun a cs => (200 ≤ l.length ∧ a = .tup [.v (kI 0) 0, .v (kI 14) 0] ∧ cs = [refB g v last, rowRf v l]) ∨ (l.length < 200 ∧ ∃ v', a = .tup [.v (kI (last + 1)) 0, .v (kI 0) 0] ∧ cs = [refB g v' (last + 1), rowRf v' (l ++ [⟨last + 1, p.fr, p.to, p.by_⟩])]) := by
  have hlen : (l.map pkF).length = l.length := List.length_map _
  have hi : i < l.length := (List.getElem?_eq_some_iff.1 hp).1
  have hg := pkF_at hp
  have ht : decide (0 ≤ (i : Int) ∧ (i : Int) < l.length) = true := by rw [decide_eq_true_eq]; omega
  refine a_enter hT [ptrA g 10, .v (kI (i : Int)) 0] [10, 30] Try.func71 rfl rfl rfl ⟨rfl, rfl, trivial⟩ fun c => ?_
  refine a_call hT rfl rfl rfl (by kernel_rfl) (rthere_spec (g := g) (h := 10) (h1 := 0)) [10, 30] [10, 30] rfl rfl ?_
  rintro _ _ ⟨rfl, rfl⟩
  rw [ht]
  refine a_f hT rfl rfl rfl ?_
  refine a_rowfact 30 rfl rfl fun hf => ?_
  rcases hf with ⟨_, h⟩ | ⟨gr, capr, rfl⟩
  · rw [h] at hg; simp at hg
  refine a_drawX hT [] 25 [(0, false), (1, false), (2, false), (3, false), (4, false), (5, false), (6, false), (7, false), (8, false), (9, false), (10, false), (11, false), (12, false), (13, false), (14, false), (15, false), (16, false), (17, false), (18, false), (19, false), (20, false), (21, false), (22, false), (23, false), (24, false), (25, true)] rfl rfl (by kernel_rfl) (by kernel_rfl) rfl ?_
  refine a_rix hT i rfl rfl rfl rfl rfl rfl rfl (by omega) ?_
  refine a_rldP hT i 1 (pkF p) (.d (.v (kI p.fr))) rfl rfl rfl rfl rfl rfl (by show i * 4 + 1 = _; omega) hg rfl ?_
  refine a_rix hT i rfl rfl rfl rfl rfl rfl rfl (by omega) ?_
  refine a_rldP hT i 2 (pkF p) (.d (.v (kI p.to))) rfl rfl rfl rfl rfl rfl (by show i * 4 + 2 = _; omega) hg rfl ?_
  refine a_rix hT i rfl rfl rfl rfl rfl rfl rfl (by omega) ?_
  refine a_rldP hT i 3 (pkF p) (.d (A.bytesD p.by_)) rfl rfl rfl rfl rfl rfl (by show i * 4 + 3 = _; omega) hg rfl ?_
  refine a_callF hT rfl rfl rfl (by kernel_rfl) (rsend_spec (g := g) (h := 10) (h1 := 0) (h2 := 0) (last := last) (fr := p.fr) (to := p.to) (l := l) hb hl0 hl1) [10, 30] [10, 30] ⟨rfl, rfl, rfl, rfl, trivial⟩ rfl ⟨⟨rfl, rfl, Fits.refl _⟩, ⟨rfl, rfl, rfl, rfl⟩, trivial⟩ ?_
  rintro _ _ (⟨hl, rfl, rfl⟩ | ⟨hl, v', rfl, rfl⟩)
  · refine a_rest hT [(26, false), (27, false), (28, false), (29, false)] rfl rfl (by kernel_rfl) ?_
    refine a_ret hT [10, 30] rfl rfl rfl rfl rfl rfl ?_
    exact .inl ⟨hl, rfl, rfl⟩
  · refine a_rest hT [(26, false), (27, false), (28, false), (29, false)] rfl rfl (by kernel_rfl) ?_
    refine a_ret hT [10, 30] rfl rfl rfl rfl rfl rfl ?_
    exact .inr ⟨hl, v', rfl, rfl⟩
theorem rdouble_out {g h h1 : Nat} {v : Value} {last i : Int} {l : List Pk} (hi : ¬ (0 ≤ i ∧ i < l.length)) : FSpec Try.prog 71 [ptrA g h, .v (kI i) h1] [refB g v last, rowRf v l] fun a cs => a = .tup [.v (kI 0) 0, .v (kI 5) 0] ∧ cs = [refB g v last, rowRf v l] := by
  have ht : decide (0 ≤ i ∧ i < l.length) = false := by rw [decide_eq_false_iff_not]; exact hi
  refine a_enter hT [ptrA g 10, .v (kI i) 0] [10, 30] Try.func71 rfl rfl rfl ⟨rfl, rfl, trivial⟩ fun c => ?_
  refine a_call hT rfl rfl rfl (by kernel_rfl) (rthere_spec (g := g) (h := 10) (h1 := 0)) [10, 30] [10, 30] rfl rfl ?_
  rintro _ _ ⟨rfl, rfl⟩
  rw [ht]
  refine a_t hT rfl rfl rfl ?_
  refine a_ret hT [10, 30] rfl rfl rfl rfl rfl rfl ?_
  first | exact ⟨rfl, rfl⟩ | rfl
theorem rdeliver_in {g h h1 i : Nat} {v : Value} {last : Int} {l : List Pk} {p : Pk} (hp : l[i]? = some p) (hn : l.length ≤ 1000) : FSpec Try.prog 72 [ptrA g h, .v (kI (i : Int)) h1] [refB g v last, rowRf v l]
    fun a cs => ∃ v', a = .tup [pkA p, .v (.bool true) 0] ∧ cs = [refB g v' last, rowRf v' (l.eraseIdx i)] := by
  have hlen : (l.map pkF).length = l.length := List.length_map _
  have hi : i < l.length := (List.getElem?_eq_some_iff.1 hp).1
  have hg := pkF_at hp
  have ht : decide (0 ≤ (i : Int) ∧ (i : Int) < l.length) = true := by rw [decide_eq_true_eq]; omega
  refine spec_ent ?_
  refine a_enter hT [ptrA g 10, .v (kI (i : Int)) 0] [10, 30] Try.func72 rfl rfl rfl ⟨rfl, rfl, trivial⟩ fun c => ?_
  refine a_new hT hZ 20 rfl rfl rfl rfl fun g1 => ?_
  refine a_call hT rfl rfl rfl (by kernel_rfl) (rthere_spec (g := g) (h := 10) (h1 := 0)) [10, 30] [10, 30] rfl rfl ?_
  rintro _ _ ⟨rfl, rfl⟩
  rw [ht]
  refine a_f hT rfl rfl rfl ?_
  refine a_rowfact 30 rfl rfl fun hf => ?_
  rcases hf with ⟨_, h⟩ | ⟨gr, capr, rfl⟩
  · rw [h] at hg; simp at hg
  refine a_rix hT i rfl rfl rfl rfl rfl rfl rfl (by omega) ?_
  refine a_rld hT i 0 (pkF p) (.agg [.d (.v (kI p.num)), .d (.v (kI p.fr)), .d (.v (kI p.to)), .d (A.bytesD p.by_)]) rfl rfl rfl rfl rfl rfl (by omega) hg rfl ?_
  refine a_new hT hZ 21 rfl rfl rfl rfl fun g2 => ?_
  refine a_call hT rfl rfl rfl (by kernel_rfl) (rdrop_in (g := g) (h := 10) (h1 := 0) (i := i) (last := last) (l := l) hi hn) [10, 30] [10, 30] rfl rfl ?_
  rintro _ _ ⟨v', rfl, rfl⟩
  refine a_ret hT [10, 30] rfl rfl rfl rfl rfl rfl ?_
  exact ⟨.tup [pkA p, .v (.bool true) 0], [refB g v' last, rowRf v' (l.eraseIdx i)], ⟨⟨rfl, rfl, rfl, rfl, trivial⟩, rfl, trivial⟩, ⟨⟨rfl, rfl, Fits.refl _⟩, ⟨rfl, rfl, rfl, rfl⟩, trivial⟩, v', rfl, rfl⟩
theorem rdeliver_out {g h h1 : Nat} {v : Value} {last i : Int} {l : List Pk} (hi : ¬ (0 ≤ i ∧ i < l.length)) : FSpec Try.prog 72 [ptrA g h, .v (kI i) h1] [refB g v last, rowRf v l] fun a cs => a = .tup [pkA noPk, .v (.bool false) 0] ∧ cs = [refB g v last, rowRf v l] := by
  have ht : decide (0 ≤ i ∧ i < l.length) = false := by rw [decide_eq_false_iff_not]; exact hi
  refine spec_ent ?_
  refine a_enter hT [ptrA g 10, .v (kI i) 0] [10, 30] Try.func72 rfl rfl rfl ⟨rfl, rfl, trivial⟩ fun c => ?_
  refine a_new hT hZ 20 rfl rfl rfl rfl fun g1 => ?_
  refine a_call hT rfl rfl rfl (by kernel_rfl) (rthere_spec (g := g) (h := 10) (h1 := 0)) [10, 30] [10, 30] rfl rfl ?_
  rintro _ _ ⟨rfl, rfl⟩
  rw [ht]
  refine a_t hT rfl rfl rfl ?_
  refine a_build hT hZ [.v (Value.int IntKind.i64 0) 0, .v (Value.int IntKind.i64 0) 0, .v (Value.int IntKind.i64 0) 0, .v (Value.slice none 0 0) 0] rfl rfl rfl rfl rfl rfl ?_
  refine a_ret hT [10, 30] rfl rfl rfl rfl rfl rfl ?_
  exact ⟨.tup [pkA noPk, .v (.bool false) 0], [refB g v last, rowRf v l], ⟨⟨rfl, rfl, rfl, ⟨rfl, rfl⟩, trivial⟩, rfl, trivial⟩, ⟨⟨rfl, rfl, Fits.refl _⟩, ⟨rfl, rfl, rfl, rfl⟩, trivial⟩, rfl, rfl⟩
theorem rdamage_in {g h h1 h2 i j : Nat} {v : Value} {last : Int} {b : UInt8} {l : List Pk} {p : Pk} (hp : l[i]? = some p) (hn : l.length ≤ 1000) (hb : p.by_.length < 1000000) (hj : j < p.by_.length) : FSpec Try.prog 73 [ptrA g h, .v (kI (i : Int)) h1, .v (kI (j : Int)) h2, .v (byV b) 0] [refB g v last, rowRf v l]
    fun r cs => r = .v (.bool true) 0 ∧ cs = [refB g v last, rowRf v (l.set i ⟨p.num, p.fr, p.to, xorB p.by_ j b⟩)] := by
  have hlen : (l.map pkF).length = l.length := List.length_map _
  have hi : i < l.length := (List.getElem?_eq_some_iff.1 hp).1
  have hg := pkF_at hp
  have ht : decide (0 ≤ (i : Int) ∧ (i : Int) < l.length) = true := by rw [decide_eq_true_eq]; omega
  have hbl : (p.by_.map eB).length = p.by_.length := List.length_map _
  obtain ⟨u, hu⟩ : ∃ u, p.by_[j] = u := ⟨_, rfl⟩
  have hju : (p.by_.map eB)[j]? = some (eB u) := by simp [hj, hu]
  have hset : (p.by_.map eB).set j ((eB u).set 0 (.v (.int .u8 (IntKind.wrap .u8 (BitVec.ofInt IntKind.u8.bits (u.toNat : Int) ^^^ BitVec.ofInt IntKind.u8.bits (b.toNat : Int)).toNat)))) = (xorB p.by_ j b).map eB := by
    unfold xorB
    rw [List.map_set, xor_u8, List.getD_eq_getElem?_getD, List.getElem?_eq_getElem hj, hu]
    rfl
  refine a_enter hT [ptrA g 10, .v (kI (i : Int)) 0, .v (kI (j : Int)) 0, .v (byV b) 0] [10, 30] Try.func73 rfl rfl rfl ⟨rfl, rfl, rfl, rfl, trivial⟩ fun cx => ?_
  refine a_call hT rfl rfl rfl (by kernel_rfl) (rthere_spec (g := g) (h := 10) (h1 := 0)) [10, 30] [10, 30] rfl rfl ?_
  rintro _ _ ⟨rfl, rfl⟩
  rw [ht]
  refine a_rowfact 30 rfl rfl fun hf => ?_
  rcases hf with ⟨_, h⟩ | ⟨gr, capr, rfl⟩
  · rw [h] at hg; simp at hg
  refine a_gf hT rfl rfl rfl rfl ?_
  refine a_gf hT rfl rfl rfl (by show decide ((j : Int) < 0) = false; simp) ?_
  refine a_rix hT (i) rfl rfl rfl rfl rfl rfl (by first | rfl | omega) (by omega) ?_
  refine a_rld hT i 3 (pkF p) (.d (A.bytesD p.by_)) rfl rfl rfl rfl rfl rfl (by show i * 4 + 3 = _; omega) hg rfl ?_
  refine a_f hT rfl rfl (by show decide ((j : Int) ≥ ((p.by_.map eB).length : Int)) = false; simp; omega) ?_
  refine a_lit hT 31 rfl rfl rfl rfl (by kernel_rfl) rfl rfl rfl rfl fun x31 => ?_
  refine a_rix hT (i) rfl rfl rfl rfl rfl rfl (by first | rfl | omega) (by omega) ?_
  refine a_rld hT i 3 (pkF p) (.d (A.bytesD p.by_)) rfl rfl rfl rfl rfl rfl (by show i * 4 + 3 = _; omega) hg rfl ?_
  refine a_app hT 31 (p.by_.map eB) rfl rfl rfl rfl (by kernel_rfl) rfl rfl rfl rfl rfl rfl (by simp; unfold lim; omega) fun y => ?_
  refine a_run hT 2 rfl rfl ?_
  refine a_rowfact 31 rfl rfl fun hf => ?_
  rcases hf with ⟨_, h⟩ | ⟨gb, capb, rfl⟩
  · rw [h] at hju; simp at hju
  refine a_rix hT (j) rfl rfl rfl rfl rfl rfl (by first | rfl | omega) (by omega) ?_
  refine a_rld hT j 0 (eB u) (.d (.v (byV u))) rfl rfl rfl rfl rfl rfl (by omega) hju rfl ?_
  refine a_bin hT _ rfl rfl rfl (by decide) rfl rfl (fun w => bin_xor w) ?_
  refine a_rix hT (j) rfl rfl rfl rfl rfl rfl (by first | rfl | omega) (by omega) ?_
  refine a_rst hT j 0 (eB u) (.v (.int .u8 (IntKind.wrap .u8 (BitVec.ofInt IntKind.u8.bits (u.toNat : Int) ^^^ BitVec.ofInt IntKind.u8.bits (b.toNat : Int)).toNat))) rfl rfl rfl rfl rfl rfl rfl (by omega) hju (by omega) rfl ?_
  refine a_freeze 9 31 rfl rfl rfl rfl ?_
  refine a_rix hT (i) rfl rfl rfl rfl rfl rfl (by first | rfl | omega) (by omega) ?_
  refine a_rst hT i 3 (pkF p) (A.bytesD (xorB p.by_ j b)) rfl rfl rfl rfl rfl rfl rfl (by show i * 4 + 3 = _; omega) hg (by omega) (congrArg (fun x => some (A.Dat.sl 1 x)) hset) ?_
  refine a_ret hT [10, 30] rfl rfl rfl rfl rfl rfl ?_
  have e : (l.map pkF).set i ((pkF p).set 3 (A.bytesD (xorB p.by_ j b))) = (l.set i ⟨p.num, p.fr, p.to, xorB p.by_ j b⟩).map pkF := by rw [List.map_set]; rfl
  exact ⟨rfl, congrArg (fun x => [refB g (.slice (some ⟨gr, 0, none⟩) (l.map pkF).length capr) last, Chunk.row (.slice (some ⟨gr, 0, none⟩) (l.map pkF).length capr) 133 4 x]) e⟩
theorem rmove_in {g h h1 h2 i k : Nat} {v : Value} {last : Int} {l : List Pk} {p : Pk} (hp : l[i]? = some p) (hn : l.length ≤ 1000) (hk : k < l.length) : FSpec Try.prog 74 [ptrA g h, .v (kI (i : Int)) h1, .v (kI (k : Int)) h2] [refB g v last, rowRf v l]
    fun r cs => ∃ v', r = .v (.bool true) 0 ∧ cs = [refB g v' last, rowRf v' ((l.eraseIdx i).take k ++ p :: (l.eraseIdx i).drop k)] := by
  have hlen : (l.map pkF).length = l.length := List.length_map _
  have hi : i < l.length := (List.getElem?_eq_some_iff.1 hp).1
  have hg := pkF_at hp
  have hel : (l.eraseIdx i).length = l.length - 1 := List.length_eraseIdx_of_lt hi
  have hel2 : ((l.eraseIdx i).map pkF).length = l.length - 1 := by rw [List.length_map, hel]
  have ht : decide (0 ≤ (i : Int) ∧ (i : Int) < l.length) = true := by rw [decide_eq_true_eq]; omega
  have ht2 : decide (0 ≤ (k : Int) ∧ (k : Int) < l.length) = true := by rw [decide_eq_true_eq]; omega
  refine spec_ent ?_
  refine a_enter hT [ptrA g 10, .v (kI (i : Int)) 0, .v (kI (k : Int)) 0] [10, 30] Try.func74 rfl rfl rfl ⟨rfl, rfl, rfl, trivial⟩ fun c => ?_
  refine a_call hT rfl rfl rfl (by kernel_rfl) (rthere_spec (g := g) (h := 10) (h1 := 0)) [10, 30] [10, 30] rfl rfl ?_
  rintro _ _ ⟨rfl, rfl⟩
  rw [ht]
  refine a_gf hT rfl rfl rfl rfl ?_
  refine a_call hT rfl rfl rfl (by kernel_rfl) (rthere_spec (g := g) (h := 10) (h1 := 0)) [10, 30] [10, 30] rfl rfl ?_
  rintro _ _ ⟨rfl, rfl⟩
  rw [ht2]
  refine a_f hT rfl rfl rfl ?_
  refine a_rowfact 30 rfl rfl fun hf => ?_
  rcases hf with ⟨_, h⟩ | ⟨gr, capr, rfl⟩
  · rw [h] at hg; simp at hg
  refine a_rix hT i rfl rfl rfl rfl rfl rfl rfl (by omega) ?_
  refine a_rld hT i 0 (pkF p) (.agg [.d (.v (kI p.num)), .d (.v (kI p.fr)), .d (.v (kI p.to)), .d (A.bytesD p.by_)]) rfl rfl rfl rfl rfl rfl (by omega) hg rfl ?_
  refine a_new hT hZ 21 rfl rfl rfl rfl fun g2 => ?_
  refine a_call hT rfl rfl rfl (by kernel_rfl) (rdrop_in (g := g) (h := 10) (h1 := 0) (i := i) (last := last) (l := l) hi hn) [10, 30] [10, 30] rfl rfl ?_
  rintro _ _ ⟨v', rfl, rfl⟩
  refine a_freezeB 10 0 30 rfl rfl rfl rfl rfl ?_
  refine a_run hT 6 rfl rfl ?_
  refine a_nilrow 8 40 133 4 rfl rfl ?_
  refine a_sl hT 0 k (((l.eraseIdx i).map pkF).take k) rfl rfl rfl rfl rfl rfl ⟨.i64, 0, rfl⟩ (by omega) (by omega) (by simp) ?_
  refine a_app hT 40 (((l.eraseIdx i).map pkF).take k) rfl rfl rfl rfl (by kernel_rfl) rfl rfl rfl rfl rfl rfl (by simp; unfold lim; omega) fun y2 => ?_
  refine a_lit hT 41 rfl rfl rfl rfl (by kernel_rfl) rfl rfl rfl rfl fun x41 => ?_
  refine a_app hT 40 _ rfl rfl rfl rfl (by kernel_rfl) rfl rfl rfl rfl rfl rfl (by first | (simp; done) | (simp; omega) | (simp; unfold lim; omega) | (simp; assumption)) fun v => ?_
  refine a_sl hT k (l.eraseIdx i).length (((l.eraseIdx i).map pkF).drop k) rfl rfl rfl rfl rfl ⟨.i64, 0, rfl⟩ (List.length_map _).symm (by omega) (by omega) (List.take_of_length_le (by rw [List.length_drop, hel2, hel]; omega)) ?_
  refine a_app hT 40 (((l.eraseIdx i).take k ++ p :: (l.eraseIdx i).drop k).map pkF) rfl rfl rfl rfl (by kernel_rfl) rfl rfl rfl rfl rfl (by rw [List.map_append, List.map_cons, List.map_take, List.map_drop, List.append_assoc]; rfl) (by simp; unfold lim; omega) fun y3 => ?_
  refine a_ret hT [10, 40] rfl rfl rfl rfl rfl rfl ?_
  exact ⟨_, [refB g y3 last, rowRf y3 ((l.eraseIdx i).take k ++ p :: (l.eraseIdx i).drop k)], Fit.refl _, ⟨⟨rfl, rfl, rfl, rfl, trivial⟩, ⟨rfl, rfl, rfl, rfl⟩, trivial⟩, y3, rfl, rfl⟩
end Go.Proofs.Ytdconcindpfmcaa
end

section
/- Both nets, as plain data: each call's answer is the same. -/
set_option linter.unusedVariables false
set_option linter.unusedSimpArgs false
set_option maxRecDepth 100000
namespace Go.Proofs.Ytdconcindpfmcaa
open V A
structure NN where
  last : Int
  l : List Pk
structure NN.ok (N : NN) : Prop where
  l0 : 0 ≤ N.last
  q : N.l.length ≤ 200
  b : ∀ p ∈ N.l, p.by_.length ≤ 20000
def netQ (g : Nat) (N : NN) : Asrt := exA (fun x : Value × List PX => x.2.map (·.p) = N.l) (fun x => netCs g N.last x.1 x.2)
def refQ (g : Nat) (N : NN) : Asrt := exA (fun _ : Value => True) (fun v => [refB g v N.last, rowRf v N.l])
theorem nq_spec {f : FuncId} {args : List AV} {g : Nat} {N : NN} {R : AV → NN → Prop} (h : ∀ (v : Value) (L : List PX), L.map (·.p) = N.l → FSpec Try.prog f args (netCs g N.last v L) fun a cs => ∃ N' v' L' ex, R a N' ∧ L'.map (·.p) = N'.l ∧ Ent cs (netCs g N'.last v' L' ++ ex)) : FSpec Try.prog f args [.ext (netQ g N)] fun a cs => ∃ N', R a N' ∧ cs = [.ext (netQ g N')] := by
  refine FSpec.entX (ent_unpack _ _) fun x hx => ?_
  exact (h x.1 x.2 hx).weak fun a cs ⟨N', v', L', ex, h1, h2, h3⟩ => ⟨a, [.ext (netQ g N')], ex, Fit.refl _, h3.trans (Ent.app (ent_pack (f := fun x : Value × List PX => netCs g N'.last x.1 x.2) (v', L') h2) (Ent.refl ex)), N', h1, rfl⟩
theorem rq_spec {f : FuncId} {args : List AV} {g : Nat} {N : NN} {R : AV → NN → Prop} (h : ∀ v : Value, FSpec Try.prog f args [refB g v N.last, rowRf v N.l] fun a cs => ∃ N' v', R a N' ∧ cs = [refB g v' N'.last, rowRf v' N'.l]) : FSpec Try.prog f args [.ext (refQ g N)] fun a cs => ∃ N', R a N' ∧ cs = [.ext (refQ g N')] := by
  refine FSpec.entX (ent_unpack _ _) fun v _ => ?_
  exact (h v).weak fun a cs ⟨N', v', h1, h2⟩ => ⟨a, [.ext (refQ g N')], [], Fit.refl _, by rw [h2, List.append_nil]; exact ent_pack (f := fun v : Value => [refB g v N'.last, rowRf v N'.l]) v' trivial, N', h1, rfl⟩
def inR (i : Int) (l : List Pk) : Prop := 0 ≤ i ∧ i < l.length
instance (i : Int) (l : List Pk) : Decidable (inR i l) := by unfold inR; infer_instance
def sendN (N : NN) (fr to : Int) (b : List UInt8) : NN × Int × Int := if 200 ≤ N.l.length then (N, 0, 14) else (⟨N.last + 1, N.l ++ [⟨N.last + 1, fr, to, b⟩]⟩, N.last + 1, 0)
def dropN (N : NN) (i : Int) : NN × Bool := if inR i N.l then (⟨N.last, N.l.eraseIdx i.toNat⟩, true) else (N, false)
def pkAt (N : NN) (i : Int) : Pk := N.l.getD i.toNat noPk
def doubleN (N : NN) (i : Int) : NN × Int × Int := if inR i N.l then sendN N (pkAt N i).fr (pkAt N i).to (pkAt N i).by_ else (N, 0, 5)
def deliverN (N : NN) (i : Int) : NN × Pk × Bool := if inR i N.l then (⟨N.last, N.l.eraseIdx i.toNat⟩, pkAt N i, true) else (N, noPk, false)
def damageN (N : NN) (i j : Int) (b : UInt8) : NN × Bool := if inR i N.l ∧ 0 ≤ j ∧ j < (pkAt N i).by_.length then (⟨N.last, N.l.set i.toNat ⟨(pkAt N i).num, (pkAt N i).fr, (pkAt N i).to, xorB (pkAt N i).by_ j.toNat b⟩⟩, true) else (N, false)
def moveN (N : NN) (i k : Int) : NN × Bool := if inR i N.l ∧ inR k N.l then (⟨N.last, (N.l.eraseIdx i.toNat).take k.toNat ++ pkAt N i :: (N.l.eraseIdx i.toNat).drop k.toNat⟩, true) else (N, false)
theorem pkAt_eq {N : NN} {i : Nat} (h : i < N.l.length) : N.l[i]? = some (pkAt N (i : Int)) := by
  unfold pkAt
  rw [List.getD_eq_getElem?_getD, Int.toNat_natCast, List.getElem?_eq_getElem h]
  rfl
theorem at_pk {N : NN} {L : List PX} {i : Nat} (hL : L.map (·.p) = N.l) (h : i < N.l.length) : ∃ x, At L i x (L.take i) (L.drop (i + 1)) ∧ x.p = pkAt N (i : Int) := by
  have hl : L.length = N.l.length := by rw [← hL, List.length_map]
  refine ⟨L[i], at_of (by omega), ?_⟩
  have h1 := pkAt_eq h
  rw [← hL, List.getElem?_map, List.getElem?_eq_getElem (by omega)] at h1
  simpa using h1
theorem nsendQ {g h h1 h2 : Nat} {N : NN} {fr to : Int} {b : List UInt8} (hN : N.ok) (hb : b.length ≤ lim) (hl1 : N.last < 1000000) : FSpec Try.prog 26 [ptrA g h, .v (kI fr) h1, .v (kI to) h2, .d (A.bytesD b)] [.ext (netQ g N)]
    fun a cs => ∃ N', (N' = (sendN N fr to b).1 ∧ a = .tup [.v (kI (sendN N fr to b).2.1) 0, .v (kI (sendN N fr to b).2.2) 0]) ∧ cs = [.ext (netQ g N')] := by
  refine nq_spec (R := fun a N' => N' = (sendN N fr to b).1 ∧ a = .tup [.v (kI (sendN N fr to b).2.1) 0, .v (kI (sendN N fr to b).2.2) 0]) fun v L hL => ?_
  have hl : (L.map PX.d).length = N.l.length := by rw [List.length_map, ← hL, List.length_map]
  refine ((nsend_spec (g := g) (h := h) (h1 := h1) (h2 := h2) (v := v) (last := N.last) (fr := fr) (to := to) (es := L.map PX.d) hb hN.l0 hl1).frame [.ext (listA (L.map PX.c))]).mono fun a cs ⟨cs1, e1, hR⟩ => ?_
  subst e1
  rcases hR with ⟨hf, rfl, rfl⟩ | ⟨hf, v', y, rfl, rfl⟩
  · have e : sendN N fr to b = (N, 0, 14) := by unfold sendN; rw [if_pos (by omega)]
    rw [e]
    exact ⟨N, v, L, [], ⟨rfl, rfl⟩, hL, by rw [List.append_nil]; exact Ent.refl _⟩
  · have e : sendN N fr to b = (⟨N.last + 1, N.l ++ [⟨N.last + 1, fr, to, b⟩]⟩, N.last + 1, 0) := by unfold sendN; rw [if_neg (by omega)]
    rw [e]
    refine ⟨_, v', L ++ [⟨⟨N.last + 1, fr, to, b⟩, y⟩], [], ⟨rfl, rfl⟩, by rw [List.map_append, hL]; rfl, ?_⟩
    rw [List.append_nil]
    unfold netCs
    rw [List.map_append (f := PX.d)]
    have := ent_back (a := L) (c := []) (⟨⟨N.last + 1, fr, to, b⟩, y⟩ : PX)
    rw [List.append_nil] at this
    exact Ent.cons _ (Ent.cons _ this)
theorem rsendQ {g h h1 h2 : Nat} {N : NN} {fr to : Int} {b : List UInt8} (hN : N.ok) (hb : b.length ≤ lim) (hl1 : N.last < 1000000) : FSpec Try.prog 69 [ptrA g h, .v (kI fr) h1, .v (kI to) h2, .d (A.bytesD b)] [.ext (refQ g N)]
    fun a cs => ∃ N', (N' = (sendN N fr to b).1 ∧ a = .tup [.v (kI (sendN N fr to b).2.1) 0, .v (kI (sendN N fr to b).2.2) 0]) ∧ cs = [.ext (refQ g N')] := by
  refine rq_spec (R := fun a N' => N' = (sendN N fr to b).1 ∧ a = .tup [.v (kI (sendN N fr to b).2.1) 0, .v (kI (sendN N fr to b).2.2) 0]) fun v => ?_
  refine (rsend_spec (g := g) (h := h) (h1 := h1) (h2 := h2) (v := v) (last := N.last) (fr := fr) (to := to) (l := N.l) hb hN.l0 hl1).mono fun a cs hR => ?_
  rcases hR with ⟨hf, rfl, rfl⟩ | ⟨hf, v', rfl, rfl⟩
  · have e : sendN N fr to b = (N, 0, 14) := by unfold sendN; rw [if_pos (by omega)]
    rw [e]
    exact ⟨N, v, ⟨rfl, rfl⟩, rfl⟩
  · have e : sendN N fr to b = (⟨N.last + 1, N.l ++ [⟨N.last + 1, fr, to, b⟩]⟩, N.last + 1, 0) := by unfold sendN; rw [if_neg (by omega)]
    rw [e]
    exact ⟨_, v', ⟨rfl, rfl⟩, rfl⟩
theorem ndropQ {g h h1 : Nat} {N : NN} {i : Int} (hN : N.ok) : FSpec Try.prog 30 [ptrA g h, .v (kI i) h1] [.ext (netQ g N)]
    fun a cs => ∃ N', (N' = (dropN N i).1 ∧ a = .v (.bool (dropN N i).2) 0) ∧ cs = [.ext (netQ g N')] := by
  refine nq_spec (R := fun a N' => N' = (dropN N i).1 ∧ a = .v (.bool (dropN N i).2) 0) fun v L hL => ?_
  have hq := hN.q
  have hl : (L.map PX.d).length = N.l.length := by rw [List.length_map, ← hL, List.length_map]
  by_cases hi : inR i N.l
  · obtain ⟨k, rfl⟩ : ∃ k : Nat, i = k := ⟨i.toNat, by have := hi.1; omega⟩
    have hk : k < N.l.length := by have := hi.2; omega
    obtain ⟨x, hat, hxp⟩ := at_pk hL hk
    have e : dropN N (k : Int) = (⟨N.last, N.l.eraseIdx k⟩, true) := by unfold dropN; rw [if_pos hi]; rfl
    rw [e]
    refine ((ndrop_in (g := g) (h := h) (h1 := h1) (i := k) (v := v) (last := N.last) (es := L.map PX.d) (by omega) (by omega)).frame [.ext (listA (L.map PX.c))]).mono fun a cs ⟨cs1, e1, v', ha, hcs⟩ => ?_
    subst e1
    subst ha
    subst hcs
    refine ⟨_, v', L.take k ++ L.drop (k + 1), [x.c], ⟨rfl, rfl⟩, by rw [← hat.del, ← hL, List.eraseIdx_eq_take_drop_succ, List.eraseIdx_eq_take_drop_succ]; simp, ?_⟩
    unfold netCs
    rw [hat.delD]
    exact Ent.cons _ (Ent.cons _ (hat.focus.trans (fun M w S hh => HoldsL.perm (List.Perm.swap _ _ _) hh)))
  · have e : dropN N i = (N, false) := by unfold dropN; rw [if_neg hi]
    rw [e]
    refine ((ndrop_out (g := g) (h := h) (h1 := h1) (v := v) (last := N.last) (i := i) (es := L.map PX.d) (by rw [hl]; exact hi)).frame [.ext (listA (L.map PX.c))]).mono fun a cs ⟨cs1, e1, ha, hcs⟩ => ?_
    subst e1
    subst ha
    subst hcs
    exact ⟨N, v, L, [], ⟨rfl, rfl⟩, hL, by rw [List.append_nil]; exact Ent.refl _⟩
end Go.Proofs.Ytdconcindpfmcaa
end

section
/- Both nets, as plain data: Drop, Double, Deliver, Damage, Move, All, Len. -/
set_option linter.unusedVariables false
set_option linter.unusedSimpArgs false
set_option maxRecDepth 100000
namespace Go.Proofs.Ytdconcindpfmcaa
open V A
theorem rdropQ {g h h1 : Nat} {N : NN} {i : Int} (hN : N.ok) : FSpec Try.prog 70 [ptrA g h, .v (kI i) h1] [.ext (refQ g N)]
    fun a cs => ∃ N', (N' = (dropN N i).1 ∧ a = .v (.bool (dropN N i).2) 0) ∧ cs = [.ext (refQ g N')] := by
  refine rq_spec (R := fun a N' => N' = (dropN N i).1 ∧ a = .v (.bool (dropN N i).2) 0) fun v => ?_
  have hq := hN.q
  by_cases hi : inR i N.l
  · obtain ⟨k, rfl⟩ : ∃ k : Nat, i = k := ⟨i.toNat, by have := hi.1; omega⟩
    have hk : k < N.l.length := by have := hi.2; omega
    have e : dropN N (k : Int) = (⟨N.last, N.l.eraseIdx k⟩, true) := by unfold dropN; rw [if_pos hi]; rfl
    rw [e]
    refine (rdrop_in (g := g) (h := h) (h1 := h1) (i := k) (v := v) (last := N.last) (l := N.l) hk (by omega)).mono fun a cs ⟨v', ha, hcs⟩ => ?_
    exact ⟨_, v', ⟨rfl, ha⟩, hcs⟩
  · have e : dropN N i = (N, false) := by unfold dropN; rw [if_neg hi]
    rw [e]
    refine (rdrop_out (g := g) (h := h) (h1 := h1) (v := v) (last := N.last) (i := i) (l := N.l) hi).mono fun a cs ⟨ha, hcs⟩ => ?_
    exact ⟨N, v, ⟨rfl, ha⟩, hcs⟩
theorem ndoubleQ {g h h1 : Nat} {N : NN} {i : Int} (hN : N.ok) (hl1 : N.last < 1000000) : FSpec Try.prog 29 [ptrA g h, .v (kI i) h1] [.ext (netQ g N)]
    fun a cs => ∃ N', (N' = (doubleN N i).1 ∧ a = .tup [.v (kI (doubleN N i).2.1) 0, .v (kI (doubleN N i).2.2) 0]) ∧ cs = [.ext (netQ g N')] := by
  refine nq_spec (R := fun a N' => N' = (doubleN N i).1 ∧ a = .tup [.v (kI (doubleN N i).2.1) 0, .v (kI (doubleN N i).2.2) 0]) fun v L hL => ?_
  have hq := hN.q
  have hl : (L.map PX.d).length = N.l.length := by rw [List.length_map, ← hL, List.length_map]
  have hll : L.length = N.l.length := by rw [← hL, List.length_map]
  by_cases hi : inR i N.l
  · obtain ⟨k, rfl⟩ : ∃ k : Nat, i = k := ⟨i.toNat, by have := hi.1; omega⟩
    have hk : k < N.l.length := by have := hi.2; omega
    obtain ⟨x, hat, hxp⟩ := at_pk hL hk
    have hb := hN.b _ (List.mem_of_getElem? (pkAt_eq hk))
    have e0 : doubleN N (k : Int) = sendN N x.p.fr x.p.to x.p.by_ := by unfold doubleN; rw [if_pos hi, hxp]
    rw [e0]
    refine (ndouble_in (g := g) (h := h) (h1 := h1) (i := k) (v := v) (last := N.last) hat (by omega) (by rw [hxp]; exact Nat.le_trans hb (by decide)) hN.l0 hl1).mono fun a cs hR => ?_
    rcases hR with ⟨hf, rfl, rfl⟩ | ⟨hf, v', y, rfl, rfl⟩
    · have e : sendN N x.p.fr x.p.to x.p.by_ = (N, 0, 14) := by unfold sendN; rw [if_pos (by omega)]
      rw [e]
      exact ⟨N, v, L, [], ⟨rfl, rfl⟩, hL, by rw [List.append_nil]; exact Ent.refl _⟩
    · have e : sendN N x.p.fr x.p.to x.p.by_ = (⟨N.last + 1, N.l ++ [⟨N.last + 1, x.p.fr, x.p.to, x.p.by_⟩]⟩, N.last + 1, 0) := by unfold sendN; rw [if_neg (by omega)]
      rw [e]
      exact ⟨_, v', L ++ [⟨⟨N.last + 1, x.p.fr, x.p.to, x.p.by_⟩, y⟩], [], ⟨rfl, rfl⟩, by rw [List.map_append, hL]; rfl, by rw [List.append_nil]; exact Ent.refl _⟩
  · have e : doubleN N i = (N, 0, 5) := by unfold doubleN; rw [if_neg hi]
    rw [e]
    refine ((ndouble_out (g := g) (h := h) (h1 := h1) (v := v) (last := N.last) (i := i) (es := L.map PX.d) (by rw [hl]; exact hi)).frame [.ext (listA (L.map PX.c))]).mono fun a cs ⟨cs1, e1, ha, hcs⟩ => ?_
    subst e1
    subst ha
    subst hcs
    exact ⟨N, v, L, [], ⟨rfl, rfl⟩, hL, by rw [List.append_nil]; exact Ent.refl _⟩
theorem rdoubleQ {g h h1 : Nat} {N : NN} {i : Int} (hN : N.ok) (hl1 : N.last < 1000000) : FSpec Try.prog 71 [ptrA g h, .v (kI i) h1] [.ext (refQ g N)]
    fun a cs => ∃ N', (N' = (doubleN N i).1 ∧ a = .tup [.v (kI (doubleN N i).2.1) 0, .v (kI (doubleN N i).2.2) 0]) ∧ cs = [.ext (refQ g N')] := by
  refine rq_spec (R := fun a N' => N' = (doubleN N i).1 ∧ a = .tup [.v (kI (doubleN N i).2.1) 0, .v (kI (doubleN N i).2.2) 0]) fun v => ?_
  have hq := hN.q
  by_cases hi : inR i N.l
  · obtain ⟨k, rfl⟩ : ∃ k : Nat, i = k := ⟨i.toNat, by have := hi.1; omega⟩
    have hk : k < N.l.length := by have := hi.2; omega
    have hp := pkAt_eq hk
    have hb := hN.b _ (List.mem_of_getElem? hp)
    have e0 : doubleN N (k : Int) = sendN N (pkAt N k).fr (pkAt N k).to (pkAt N k).by_ := by unfold doubleN; rw [if_pos hi]
    rw [e0]
    refine (rdouble_in (g := g) (h := h) (h1 := h1) (i := k) (v := v) (last := N.last) hp (Nat.le_trans hb (by decide)) hN.l0 hl1).mono fun a cs hR => ?_
    rcases hR with ⟨hf, rfl, rfl⟩ | ⟨hf, v', rfl, rfl⟩
    · have e : sendN N (pkAt N k).fr (pkAt N k).to (pkAt N k).by_ = (N, 0, 14) := by unfold sendN; rw [if_pos (by omega)]
      rw [e]
      exact ⟨N, v, ⟨rfl, rfl⟩, rfl⟩
    · have e : sendN N (pkAt N k).fr (pkAt N k).to (pkAt N k).by_ = (⟨N.last + 1, N.l ++ [⟨N.last + 1, (pkAt N k).fr, (pkAt N k).to, (pkAt N k).by_⟩]⟩, N.last + 1, 0) := by unfold sendN; rw [if_neg (by omega)]
      rw [e]
      exact ⟨_, v', ⟨rfl, rfl⟩, rfl⟩
  · have e : doubleN N i = (N, 0, 5) := by unfold doubleN; rw [if_neg hi]
    rw [e]
    refine (rdouble_out (g := g) (h := h) (h1 := h1) (v := v) (last := N.last) (i := i) (l := N.l) hi).mono fun a cs ⟨ha, hcs⟩ => ?_
    exact ⟨N, v, ⟨rfl, ha⟩, hcs⟩
theorem ndeliverQ {g h h1 : Nat} {N : NN} {i : Int} (hN : N.ok) : FSpec Try.prog 27 [ptrA g h, .v (kI i) h1] [.ext (netQ g N)]
    fun a cs => ∃ N', (N' = (deliverN N i).1 ∧ a = .tup [pkA (deliverN N i).2.1, .v (.bool (deliverN N i).2.2) 0]) ∧ cs = [.ext (netQ g N')] := by
  refine nq_spec (R := fun a N' => N' = (deliverN N i).1 ∧ a = .tup [pkA (deliverN N i).2.1, .v (.bool (deliverN N i).2.2) 0]) fun v L hL => ?_
  have hq := hN.q
  have hl : (L.map PX.d).length = N.l.length := by rw [List.length_map, ← hL, List.length_map]
  have hll : L.length = N.l.length := by rw [← hL, List.length_map]
  by_cases hi : inR i N.l
  · obtain ⟨k, rfl⟩ : ∃ k : Nat, i = k := ⟨i.toNat, by have := hi.1; omega⟩
    have hk : k < N.l.length := by have := hi.2; omega
    obtain ⟨x, hat, hxp⟩ := at_pk hL hk
    have hb := hN.b _ (List.mem_of_getElem? (pkAt_eq hk))
    have e : deliverN N (k : Int) = (⟨N.last, N.l.eraseIdx k⟩, x.p, true) := by unfold deliverN; rw [if_pos hi, hxp]; rfl
    rw [e]
    refine (ndeliver_in (g := g) (h := h) (h1 := h1) (i := k) (v := v) (last := N.last) hat (by omega) (by rw [hxp]; exact Nat.le_trans hb (by decide))).mono fun a cs ⟨v', ha, hcs⟩ => ?_
    exact ⟨_, v', L.take k ++ L.drop (k + 1), [], ⟨rfl, ha⟩, by rw [← hL, List.eraseIdx_eq_take_drop_succ]; simp, by rw [hcs, List.append_nil]; exact Ent.refl _⟩
  · have e : deliverN N i = (N, noPk, false) := by unfold deliverN; rw [if_neg hi]
    rw [e]
    refine ((ndeliver_out (g := g) (h := h) (h1 := h1) (v := v) (last := N.last) (i := i) (es := L.map PX.d) (by rw [hl]; exact hi)).frame [.ext (listA (L.map PX.c))]).mono fun a cs ⟨cs1, e1, ha, hcs⟩ => ?_
    subst e1
    subst ha
    subst hcs
    exact ⟨N, v, L, [], ⟨rfl, rfl⟩, hL, by rw [List.append_nil]; exact Ent.refl _⟩
theorem rdeliverQ {g h h1 : Nat} {N : NN} {i : Int} (hN : N.ok) : FSpec Try.prog 72 [ptrA g h, .v (kI i) h1] [.ext (refQ g N)]
    fun a cs => ∃ N', (N' = (deliverN N i).1 ∧ a = .tup [pkA (deliverN N i).2.1, .v (.bool (deliverN N i).2.2) 0]) ∧ cs = [.ext (refQ g N')] := by
  refine rq_spec (R := fun a N' => N' = (deliverN N i).1 ∧ a = .tup [pkA (deliverN N i).2.1, .v (.bool (deliverN N i).2.2) 0]) fun v => ?_
  have hq := hN.q
  by_cases hi : inR i N.l
  · obtain ⟨k, rfl⟩ : ∃ k : Nat, i = k := ⟨i.toNat, by have := hi.1; omega⟩
    have hk : k < N.l.length := by have := hi.2; omega
    have e : deliverN N (k : Int) = (⟨N.last, N.l.eraseIdx k⟩, pkAt N k, true) := by unfold deliverN; rw [if_pos hi]; rfl
    rw [e]
    refine (rdeliver_in (g := g) (h := h) (h1 := h1) (i := k) (v := v) (last := N.last) (pkAt_eq hk) (by omega)).mono fun a cs ⟨v', ha, hcs⟩ => ?_
    exact ⟨_, v', ⟨rfl, ha⟩, hcs⟩
  · have e : deliverN N i = (N, noPk, false) := by unfold deliverN; rw [if_neg hi]
    rw [e]
    refine (rdeliver_out (g := g) (h := h) (h1 := h1) (v := v) (last := N.last) (i := i) (l := N.l) hi).mono fun a cs ⟨ha, hcs⟩ => ?_
    exact ⟨N, v, ⟨rfl, ha⟩, hcs⟩
theorem nallQ {g h : Nat} {N : NN} (hN : N.ok) : FSpec Try.prog 36 [ptrA g h] [.ext (netQ g N)]
    fun a cs => ∃ N', (N' = N ∧ a = .d (.sl 4 (N.l.map pkF))) ∧ cs = [.ext (netQ g N')] := by
  refine nq_spec (R := fun a N' => N' = N ∧ a = .d (.sl 4 (N.l.map pkF))) fun v L hL => ?_
  have hq := hN.q
  have hll : L.length = N.l.length := by rw [← hL, List.length_map]
  refine (nall_spec (g := g) (h := h) (v := v) (last := N.last) (L := L) (by omega) fun x hx => Nat.le_trans (hN.b x.p (by rw [← hL]; exact List.mem_map.2 ⟨x, hx, rfl⟩)) (by decide)).mono fun a cs ⟨ha, hcs⟩ => ?_
  exact ⟨N, v, L, [], ⟨rfl, by rw [ha, hL]⟩, hL, by rw [hcs, List.append_nil]; exact Ent.refl _⟩
theorem nlenQ {g h : Nat} {N : NN} : FSpec Try.prog 28 [ptrA g h] [.ext (netQ g N)]
    fun a cs => ∃ N', (N' = N ∧ a = .v (kI N.l.length) 0) ∧ cs = [.ext (netQ g N')] := by
  refine nq_spec (R := fun a N' => N' = N ∧ a = .v (kI N.l.length) 0) fun v L hL => ?_
  have hl : (L.map PX.d).length = N.l.length := by rw [List.length_map, ← hL, List.length_map]
  refine ((nlen_spec (g := g) (h := h) (v := v) (last := N.last) (es := L.map PX.d)).frame [.ext (listA (L.map PX.c))]).mono fun a cs ⟨cs1, e1, ha, hcs⟩ => ?_
  subst e1
  subst ha
  subst hcs
  exact ⟨N, v, L, [], ⟨rfl, by rw [hl]⟩, hL, by rw [List.append_nil]; exact Ent.refl _⟩
theorem nmoveQ {g h h1 h2 : Nat} {N : NN} {i k : Int} (hN : N.ok) : FSpec Try.prog 56 [ptrA g h, .v (kI i) h1, .v (kI k) h2] [.ext (netQ g N)]
    fun a cs => ∃ N', (N' = (moveN N i k).1 ∧ a = .v (.bool (moveN N i k).2) 0) ∧ cs = [.ext (netQ g N')] := by
  refine nq_spec (R := fun a N' => N' = (moveN N i k).1 ∧ a = .v (.bool (moveN N i k).2) 0) fun v L hL => ?_
  have hq := hN.q
  have hl : (L.map PX.d).length = N.l.length := by rw [List.length_map, ← hL, List.length_map]
  have hll : L.length = N.l.length := by rw [← hL, List.length_map]
  by_cases hi : inR i N.l ∧ inR k N.l
  · obtain ⟨i, rfl⟩ : ∃ n : Nat, i = n := ⟨i.toNat, by have := hi.1.1; omega⟩
    obtain ⟨k, rfl⟩ : ∃ n : Nat, k = n := ⟨k.toNat, by have := hi.2.1; omega⟩
    have hk : i < N.l.length := by have := hi.1.2; omega
    have hk2 : k < N.l.length := by have := hi.2.2; omega
    obtain ⟨x, hat, hxp⟩ := at_pk hL hk
    have e : moveN N (i : Int) (k : Int) = (⟨N.last, (N.l.eraseIdx i).take k ++ x.p :: (N.l.eraseIdx i).drop k⟩, true) := by unfold moveN; rw [if_pos hi, hxp]; rfl
    rw [e]
    refine (nmove_in (g := g) (h := h) (h1 := h1) (h2 := h2) (i := i) (k := k) (v := v) (last := N.last) hat (by omega) (by omega)).mono fun a cs ⟨v', ha, hcs⟩ => ?_
    refine ⟨_, v', _, [], ⟨rfl, ha⟩, ?_, by rw [hcs, List.append_nil]; exact Ent.refl _⟩
    have e2 : (L.take i ++ L.drop (i + 1)).map (·.p) = N.l.eraseIdx i := by rw [← hL, List.eraseIdx_eq_take_drop_succ]; simp
    show List.map _ _ = (N.l.eraseIdx i).take k ++ x.p :: (N.l.eraseIdx i).drop k
    rw [List.map_append, List.map_cons, List.map_take, List.map_drop, e2]
  · have e : moveN N i k = (N, false) := by unfold moveN; rw [if_neg hi]
    rw [e]
    have hout : FSpec Try.prog 56 [ptrA g h, .v (kI i) h1, .v (kI k) h2] [netB g v N.last, rowPk v (L.map PX.d)] fun a cs => a = .v (.bool false) 0 ∧ cs = [netB g v N.last, rowPk v (L.map PX.d)] := by
      refine a_enter hT [ptrA g 10, .v (kI i) 0, .v (kI k) 0] [10, 30] Try.func56 rfl rfl rfl ⟨rfl, rfl, rfl, trivial⟩ fun c => ?_
      refine a_call hT rfl rfl rfl (by kernel_rfl) (nthere_spec (g := g) (h := 10) (h1 := 0)) [10, 30] [10, 30] rfl rfl ?_
      rintro _ _ ⟨rfl, rfl⟩
      by_cases hi2 : 0 ≤ i ∧ i < (L.map PX.d).length
      · rw [decide_eq_true hi2]
        have hk2 : ¬ (0 ≤ k ∧ k < (L.map PX.d).length) := fun hk => hi ⟨⟨hi2.1, by rw [← hl]; exact hi2.2⟩, ⟨hk.1, by rw [← hl]; exact hk.2⟩⟩
        refine a_gf hT rfl rfl rfl rfl ?_
        refine a_call hT rfl rfl rfl (by kernel_rfl) (nthere_spec (g := g) (h := 10) (h1 := 0)) [10, 30] [10, 30] rfl rfl ?_
        rintro _ _ ⟨rfl, rfl⟩
        rw [decide_eq_false hk2]
        refine a_t hT rfl rfl rfl ?_
        refine a_ret hT [10, 30] rfl rfl rfl rfl rfl rfl ?_
        first | exact ⟨rfl, rfl⟩ | rfl
      · rw [decide_eq_false hi2]
        refine a_gt hT rfl rfl rfl rfl ?_
        refine a_t hT rfl rfl rfl ?_
        refine a_ret hT [10, 30] rfl rfl rfl rfl rfl rfl ?_
        first | exact ⟨rfl, rfl⟩ | rfl
    refine (hout.frame [.ext (listA (L.map PX.c))]).mono fun a cs ⟨cs1, e1, ha, hcs⟩ => ?_
    subst e1
    subst ha
    subst hcs
    exact ⟨N, v, L, [], ⟨rfl, rfl⟩, hL, by rw [List.append_nil]; exact Ent.refl _⟩
theorem rmoveQ {g h h1 h2 : Nat} {N : NN} {i k : Int} (hN : N.ok) : FSpec Try.prog 74 [ptrA g h, .v (kI i) h1, .v (kI k) h2] [.ext (refQ g N)]
    fun a cs => ∃ N', (N' = (moveN N i k).1 ∧ a = .v (.bool (moveN N i k).2) 0) ∧ cs = [.ext (refQ g N')] := by
  refine rq_spec (R := fun a N' => N' = (moveN N i k).1 ∧ a = .v (.bool (moveN N i k).2) 0) fun v => ?_
  have hq := hN.q
  by_cases hi : inR i N.l ∧ inR k N.l
  · obtain ⟨i, rfl⟩ : ∃ n : Nat, i = n := ⟨i.toNat, by have := hi.1.1; omega⟩
    obtain ⟨k, rfl⟩ : ∃ n : Nat, k = n := ⟨k.toNat, by have := hi.2.1; omega⟩
    have hk : i < N.l.length := by have := hi.1.2; omega
    have hk2 : k < N.l.length := by have := hi.2.2; omega
    have e : moveN N (i : Int) (k : Int) = (⟨N.last, (N.l.eraseIdx i).take k ++ pkAt N i :: (N.l.eraseIdx i).drop k⟩, true) := by unfold moveN; rw [if_pos hi]; rfl
    rw [e]
    refine (rmove_in (g := g) (h := h) (h1 := h1) (h2 := h2) (i := i) (k := k) (v := v) (last := N.last) (pkAt_eq hk) (by omega) hk2).mono fun a cs ⟨v', ha, hcs⟩ => ?_
    exact ⟨_, v', ⟨rfl, ha⟩, hcs⟩
  · have e : moveN N i k = (N, false) := by unfold moveN; rw [if_neg hi]
    rw [e]
    have hout : FSpec Try.prog 74 [ptrA g h, .v (kI i) h1, .v (kI k) h2] [refB g v N.last, rowRf v N.l] fun a cs => a = .v (.bool false) 0 ∧ cs = [refB g v N.last, rowRf v N.l] := by
      refine a_enter hT [ptrA g 10, .v (kI i) 0, .v (kI k) 0] [10, 30] Try.func74 rfl rfl rfl ⟨rfl, rfl, rfl, trivial⟩ fun c => ?_
      refine a_call hT rfl rfl rfl (by kernel_rfl) (rthere_spec (g := g) (h := 10) (h1 := 0)) [10, 30] [10, 30] rfl rfl ?_
      rintro _ _ ⟨rfl, rfl⟩
      by_cases hi2 : 0 ≤ i ∧ i < N.l.length
      · rw [decide_eq_true hi2]
        have hk2 : ¬ (0 ≤ k ∧ k < N.l.length) := fun hk => hi ⟨hi2, hk⟩
        refine a_gf hT rfl rfl rfl rfl ?_
        refine a_call hT rfl rfl rfl (by kernel_rfl) (rthere_spec (g := g) (h := 10) (h1 := 0)) [10, 30] [10, 30] rfl rfl ?_
        rintro _ _ ⟨rfl, rfl⟩
        rw [decide_eq_false hk2]
        refine a_t hT rfl rfl rfl ?_
        refine a_ret hT [10, 30] rfl rfl rfl rfl rfl rfl ?_
        first | exact ⟨rfl, rfl⟩ | rfl
      · rw [decide_eq_false hi2]
        refine a_gt hT rfl rfl rfl rfl ?_
        refine a_t hT rfl rfl rfl ?_
        refine a_ret hT [10, 30] rfl rfl rfl rfl rfl rfl ?_
        first | exact ⟨rfl, rfl⟩ | rfl
    refine hout.mono fun a cs ⟨ha, hcs⟩ => ?_
    exact ⟨N, v, ⟨rfl, ha⟩, hcs⟩
end Go.Proofs.Ytdconcindpfmcaa
end

section
/- Both nets: Damage. Packets, SamePackets, awake, Few. -/
set_option linter.unusedVariables false
set_option linter.unusedSimpArgs false
set_option maxRecDepth 100000
namespace Go.Proofs.Ytdconcindpfmcaa
open V A
theorem damage_no {N : NN} {i j : Int} {b : UInt8} (h : ¬ (inR i N.l ∧ 0 ≤ j ∧ j < (pkAt N i).by_.length)) : damageN N i j b = (N, false) := by unfold damageN; rw [if_neg h]
theorem ndamageQ {g h h1 h2 : Nat} {N : NN} {i j : Int} {b : UInt8} (hN : N.ok) : FSpec Try.prog 35 [ptrA g h, .v (kI i) h1, .v (kI j) h2, .v (byV b) 0] [.ext (netQ g N)]
    fun a cs => ∃ N', (N' = (damageN N i j b).1 ∧ a = .v (.bool (damageN N i j b).2) 0) ∧ cs = [.ext (netQ g N')] := by
  refine nq_spec (R := fun a N' => N' = (damageN N i j b).1 ∧ a = .v (.bool (damageN N i j b).2) 0) fun v L hL => ?_
  have hq := hN.q
  have hl : (L.map PX.d).length = N.l.length := by rw [List.length_map, ← hL, List.length_map]
  have hll : L.length = N.l.length := by rw [← hL, List.length_map]
  by_cases hi : inR i N.l
  · obtain ⟨i, rfl⟩ : ∃ n : Nat, i = n := ⟨i.toNat, by have := hi.1; omega⟩
    have hk : i < N.l.length := by have := hi.2; omega
    obtain ⟨x, hat, hxp⟩ := at_pk hL hk
    have hb := hN.b _ (List.mem_of_getElem? (pkAt_eq hk))
    rw [← hxp] at hb
    by_cases hj : 0 ≤ j ∧ j < x.p.by_.length
    · obtain ⟨j, rfl⟩ : ∃ n : Nat, j = n := ⟨j.toNat, by have := hj.1; omega⟩
      have hj1 : j < x.p.by_.length := by have := hj.2; omega
      have e : damageN N (i : Int) (j : Int) b = (⟨N.last, N.l.set i ⟨x.p.num, x.p.fr, x.p.to, xorB x.p.by_ j b⟩⟩, true) := by unfold damageN; rw [if_pos ⟨hi, by rw [← hxp]; exact hj⟩, ← hxp]; rfl
      rw [e]
      refine (ndamage_in (g := g) (h := h) (h1 := h1) (h2 := h2) (i := i) (j := j) (v := v) (last := N.last) (b := b) hat (by omega) (by omega) hj1).mono fun a cs ⟨ha, hcs⟩ => ?_
      refine ⟨_, v, _, [], ⟨rfl, ha⟩, ?_, by rw [hcs, List.append_nil]; exact Ent.refl _⟩
      show List.map _ _ = N.l.set i _
      rw [← hL]
      conv => rhs; rw [hat.e]
      rw [List.map_append, List.map_cons, List.map_append, List.map_cons]
      have hta : (L.take i).length = i := by rw [List.length_take]; omega
      rw [List.set_append, if_neg (by rw [List.length_map]; omega), List.length_map, hta, Nat.sub_self]
      rfl
    · rw [damage_no fun h => hj (by rw [hxp]; exact h.2)]
      have hget := hat.get
      have hout : FSpec Try.prog 35 [ptrA g h, .v (kI (i : Int)) h1, .v (kI j) h2, .v (byV b) 0] (netCs g N.last v L) fun a cs => a = .v (.bool false) 0 ∧ cs = netCs g N.last v L := by
        have ht : decide (0 ≤ (i : Int) ∧ (i : Int) < (L.map PX.d).length) = true := by rw [decide_eq_true_eq]; omega
        refine FSpec.weak (R := fun r cs => r = .v (.bool false) 0 ∧ Ent cs (netCs g N.last v L)) ?_ fun r cs ⟨h1, h2⟩ => ⟨r, _, [], Fit.refl _, by rw [List.append_nil]; exact h2, h1, rfl⟩
        refine a_enter hT [ptrA g 10, .v (kI (i : Int)) 0, .v (kI j) 0, .v (byV b) 0] [10, 30, 31] Try.func35 rfl rfl rfl ⟨rfl, rfl, rfl, rfl, trivial⟩ fun cx => ?_
        refine a_call hT rfl rfl rfl (by kernel_rfl) (nthere_spec (g := g) (h := 10) (h1 := 0)) [10, 30] [10, 30] rfl rfl ?_
        rintro _ _ ⟨rfl, rfl⟩
        rw [ht]
        refine a_rowfact 30 rfl rfl fun hf => ?_
        rcases hf with ⟨_, h⟩ | ⟨gr, capr, rfl⟩
        · rw [h] at hget; simp at hget
        refine a_ent [31] [40, 31] _ rfl rfl hat.focus ?_
        refine a_gf hT rfl rfl rfl rfl ?_
        refine a_g hT rfl rfl rfl (fun h3 => ?_) (fun h3 => ?_)
        · refine a_t hT rfl rfl rfl ?_
          refine a_ent [40, 31] [31] [.ext (listA (L.map PX.c))] rfl rfl hat.back ?_
          refine a_ret hT [10, 30, 31] rfl rfl rfl rfl rfl rfl ?_
          exact ⟨rfl, Ent.refl _⟩
        · have h3 : ¬ j < 0 := of_decide_eq_false h3
          have hjl : j ≥ (x.p.by_.map eB).length := by rw [List.length_map]; have := hj; omega
          refine a_rix hT (i) rfl rfl rfl rfl rfl rfl (by first | rfl | omega) (by omega) ?_
          refine a_rld hT i 3 _ (.d (.v x.v)) rfl rfl rfl rfl rfl rfl (by show i * 4 + 3 = _; omega) hget rfl ?_
          refine a_asV 26 40 rfl ?_
          refine a_t hT rfl rfl (by show decide (j ≥ (((x.p.by_.map eB).length : Nat) : Int)) = true; rw [decide_eq_true_eq]; exact hjl) ?_
          refine a_ent [40, 31] [31] [.ext (listA (L.map PX.c))] rfl rfl hat.back ?_
          refine a_ret hT [10, 30, 31] rfl rfl rfl rfl rfl rfl ?_
          exact ⟨rfl, Ent.refl _⟩
      refine hout.mono fun a cs ⟨ha, hcs⟩ => ?_
      exact ⟨N, v, L, [], ⟨rfl, ha⟩, hL, by rw [hcs, List.append_nil]; exact Ent.refl _⟩
  · rw [damage_no fun h => hi h.1]
    have hout : FSpec Try.prog 35 [ptrA g h, .v (kI i) h1, .v (kI j) h2, .v (byV b) 0] [netB g v N.last, rowPk v (L.map PX.d)] fun a cs => a = .v (.bool false) 0 ∧ cs = [netB g v N.last, rowPk v (L.map PX.d)] := by
      have ht : decide (0 ≤ i ∧ i < (L.map PX.d).length) = false := by rw [decide_eq_false_iff_not, hl]; exact hi
      refine a_enter hT [ptrA g 10, .v (kI i) 0, .v (kI j) 0, .v (byV b) 0] [10, 30] Try.func35 rfl rfl rfl ⟨rfl, rfl, rfl, rfl, trivial⟩ fun cx => ?_
      refine a_call hT rfl rfl rfl (by kernel_rfl) (nthere_spec (g := g) (h := 10) (h1 := 0)) [10, 30] [10, 30] rfl rfl ?_
      rintro _ _ ⟨rfl, rfl⟩
      rw [ht]
      refine a_gt hT rfl rfl rfl rfl ?_
      refine a_gt hT rfl rfl rfl rfl ?_
      refine a_t hT rfl rfl rfl ?_
      refine a_ret hT [10, 30] rfl rfl rfl rfl rfl rfl ?_
      first | exact ⟨rfl, rfl⟩ | rfl
    refine (hout.frame [.ext (listA (L.map PX.c))]).mono fun a cs ⟨cs1, e1, ha, hcs⟩ => ?_
    subst e1
    subst ha
    subst hcs
    exact ⟨N, v, L, [], ⟨rfl, rfl⟩, hL, by rw [List.append_nil]; exact Ent.refl _⟩
theorem rdamageQ {g h h1 h2 : Nat} {N : NN} {i j : Int} {b : UInt8} (hN : N.ok) : FSpec Try.prog 73 [ptrA g h, .v (kI i) h1, .v (kI j) h2, .v (byV b) 0] [.ext (refQ g N)]
    fun a cs => ∃ N', (N' = (damageN N i j b).1 ∧ a = .v (.bool (damageN N i j b).2) 0) ∧ cs = [.ext (refQ g N')] := by
  refine rq_spec (R := fun a N' => N' = (damageN N i j b).1 ∧ a = .v (.bool (damageN N i j b).2) 0) fun v => ?_
  have hq := hN.q
  have hlen : (N.l.map pkF).length = N.l.length := List.length_map _
  by_cases hi : inR i N.l
  · obtain ⟨i, rfl⟩ : ∃ n : Nat, i = n := ⟨i.toNat, by have := hi.1; omega⟩
    have hk : i < N.l.length := by have := hi.2; omega
    have hp := pkAt_eq hk
    have hg := pkF_at hp
    have hb := hN.b _ (List.mem_of_getElem? hp)
    generalize hpp : pkAt N (i : Int) = p at hp hg hb
    by_cases hj : 0 ≤ j ∧ j < p.by_.length
    · obtain ⟨j, rfl⟩ : ∃ n : Nat, j = n := ⟨j.toNat, by have := hj.1; omega⟩
      have hj1 : j < p.by_.length := by have := hj.2; omega
      have e : damageN N (i : Int) (j : Int) b = (⟨N.last, N.l.set i ⟨p.num, p.fr, p.to, xorB p.by_ j b⟩⟩, true) := by unfold damageN; rw [hpp, if_pos ⟨hi, hj⟩]; rfl
      rw [e]
      refine (rdamage_in (g := g) (h := h) (h1 := h1) (h2 := h2) (i := i) (j := j) (v := v) (last := N.last) (b := b) hp (by omega) (by omega) hj1).mono fun a cs ⟨ha, hcs⟩ => ?_
      exact ⟨_, v, ⟨rfl, ha⟩, hcs⟩
    · rw [damage_no fun h => hj (by rw [← hpp]; exact h.2)]
      have hout : FSpec Try.prog 73 [ptrA g h, .v (kI (i : Int)) h1, .v (kI j) h2, .v (byV b) 0] [refB g v N.last, rowRf v N.l] fun a cs => a = .v (.bool false) 0 ∧ cs = [refB g v N.last, rowRf v N.l] := by
        have ht : decide (0 ≤ (i : Int) ∧ (i : Int) < N.l.length) = true := by rw [decide_eq_true_eq]; omega
        refine a_enter hT [ptrA g 10, .v (kI (i : Int)) 0, .v (kI j) 0, .v (byV b) 0] [10, 30] Try.func73 rfl rfl rfl ⟨rfl, rfl, rfl, rfl, trivial⟩ fun cx => ?_
        refine a_call hT rfl rfl rfl (by kernel_rfl) (rthere_spec (g := g) (h := 10) (h1 := 0)) [10, 30] [10, 30] rfl rfl ?_
        rintro _ _ ⟨rfl, rfl⟩
        rw [ht]
        refine a_rowfact 30 rfl rfl fun hf => ?_
        rcases hf with ⟨_, h⟩ | ⟨gr, capr, rfl⟩
        · rw [h] at hg; simp at hg
        refine a_gf hT rfl rfl rfl rfl ?_
        refine a_g hT rfl rfl rfl (fun h3 => ?_) (fun h3 => ?_)
        · refine a_t hT rfl rfl rfl ?_
          refine a_ret hT [10, 30] rfl rfl rfl rfl rfl rfl ?_
          first | exact ⟨rfl, rfl⟩ | rfl
        · have h3 : ¬ j < 0 := of_decide_eq_false h3
          have hjl : j ≥ (p.by_.map eB).length := by rw [List.length_map]; have := hj; omega
          refine a_rix hT (i) rfl rfl rfl rfl rfl rfl (by first | rfl | omega) (by omega) ?_
          refine a_rld hT i 3 _ (.d (A.bytesD p.by_)) rfl rfl rfl rfl rfl rfl (by show i * 4 + 3 = _; omega) hg rfl ?_
          refine a_t hT rfl rfl (by show decide (j ≥ (((p.by_.map eB).length : Nat) : Int)) = true; rw [decide_eq_true_eq]; exact hjl) ?_
          refine a_ret hT [10, 30] rfl rfl rfl rfl rfl rfl ?_
          first | exact ⟨rfl, rfl⟩ | rfl
      refine hout.mono fun a cs ⟨ha, hcs⟩ => ?_
      exact ⟨N, v, ⟨rfl, ha⟩, hcs⟩
  · rw [damage_no fun h => hi h.1]
    have hout : FSpec Try.prog 73 [ptrA g h, .v (kI i) h1, .v (kI j) h2, .v (byV b) 0] [refB g v N.last, rowRf v N.l] fun a cs => a = .v (.bool false) 0 ∧ cs = [refB g v N.last, rowRf v N.l] := by
      have ht : decide (0 ≤ i ∧ i < N.l.length) = false := by rw [decide_eq_false_iff_not]; exact hi
      refine a_enter hT [ptrA g 10, .v (kI i) 0, .v (kI j) 0, .v (byV b) 0] [10, 30] Try.func73 rfl rfl rfl ⟨rfl, rfl, rfl, rfl, trivial⟩ fun cx => ?_
      refine a_call hT rfl rfl rfl (by kernel_rfl) (rthere_spec (g := g) (h := 10) (h1 := 0)) [10, 30] [10, 30] rfl rfl ?_
      rintro _ _ ⟨rfl, rfl⟩
      rw [ht]
      refine a_gt hT rfl rfl rfl rfl ?_
      refine a_gt hT rfl rfl rfl rfl ?_
      refine a_t hT rfl rfl rfl ?_
      refine a_ret hT [10, 30] rfl rfl rfl rfl rfl rfl ?_
      first | exact ⟨rfl, rfl⟩ | rfl
    refine hout.mono fun a cs ⟨ha, hcs⟩ => ?_
    exact ⟨N, v, ⟨rfl, ha⟩, hcs⟩
theorem packets_spec {l : List Pk} (hl : l.length < 1000000) : FSpec Try.prog 55 [.d (.sl 4 (l.map pkF))] [] fun a cs => a = .d (.sl 4 (l.map pkF)) ∧ cs = [] := by
  refine a_enter hT [.d (.sl 4 (l.map pkF))] [] Try.func55 rfl rfl rfl ⟨rfl, trivial⟩ fun c => ?_
  refine a_run hT 8 rfl rfl ?_
  refine a_nilrow 3 30 133 4 rfl rfl ?_
  refine a_loop hT [0, 3, 6, 7] (fun x : Nat × Value => [.d (.sl 4 (l.map pkF)), .row x.2 30, .v (kI l.length) 0, .v (kI (x.1 : Int)) 0]) (fun x => [(30, rowRf x.2 (l.take x.1))]) (fun x => x.1 ≤ l.length) (fun x => l.length - x.1) (0, .slice none 0 0) [30] rfl rfl (Nat.zero_le _) ⟨rfl, rfl, by show Value.int .i64 ((l.map pkF).length : Int) = .int .i64 (l.length : Int); rw [List.length_map], rfl, trivial⟩ rfl ⟨⟨rfl, rfl, rfl, rfl⟩, trivial⟩ ?_
  rintro ⟨i, v⟩ hi
  dsimp only at hi ⊢
  have hw : IntKind.i64.wrap ((i : Int) + 1) = ((i + 1 : Nat) : Int) := by rw [w64 (by omega) (by omega)]; omega
  refine a_if hT rfl rfl (fun h2 => ?_) (fun h2 => ?_)
  · have h2 : (i : Int) < l.length := of_decide_eq_true h2
    have hi1 : i < l.length := by omega
    have hd : (l.map pkF)[((i : Nat) : Int).toNat]? = some (pkF l[i]) := by simp [hi1]
    have htk : l.take (i + 1) = l.take i ++ [l[i]] := by rw [List.take_append_getElem hi1]
    generalize l[i] = p at hd htk
    refine a_ix hT _ rfl rfl rfl rfl rfl rfl (by omega) hd ?_
    refine a_lit hT 31 rfl rfl rfl rfl (by kernel_rfl) rfl rfl rfl rfl fun x31 => ?_
    refine a_app hT 30 ((l.take (i + 1)).map pkF) rfl rfl rfl rfl (by kernel_rfl) rfl rfl rfl rfl rfl (by rw [htk, List.map_append]; rfl) (by simp; unfold lim; omega) fun v4 => ?_
    exact a_next hT (i + 1, v4) [30] rfl rfl ⟨by show i + 1 ≤ l.length; omega, by show l.length - (i + 1) < l.length - i; omega⟩ ⟨rfl, rfl, rfl, by show Value.int .i64 _ = Value.int .i64 _; rw [hw], trivial⟩ rfl ⟨⟨rfl, rfl, rfl, rfl⟩, trivial⟩
  · have h2 : ¬ (i : Int) < l.length := of_decide_eq_false h2
    have e : i = l.length := by omega
    subst e
    rw [List.take_length]
    refine a_freeze 3 30 rfl rfl rfl rfl ?_
    refine a_ret hT [] rfl rfl rfl rfl rfl rfl ?_
    exact ⟨rfl, rfl⟩
theorem samePk_spec {l : List Pk} (hl : l.length < 1000000) : FSpec Try.prog 54 [.d (.sl 4 (l.map pkF)), .d (.sl 4 (l.map pkF))] [] fun a cs => a = .v (.bool true) 0 ∧ cs = [] := by
  refine a_enter hT [.d (.sl 4 (l.map pkF)), .d (.sl 4 (l.map pkF))] [] Try.func54 rfl rfl rfl ⟨rfl, rfl, trivial⟩ fun c => ?_
  refine a_f hT rfl rfl (by show ((_ : Int) != _) = false; simp) ?_
  refine a_loop hT [0, 1, 12, 13] (fun i : Nat => [.d (.sl 4 (l.map pkF)), .d (.sl 4 (l.map pkF)), .v (kI l.length) 0, .v (kI (i : Int)) 0]) (fun _ => []) (fun i => i ≤ l.length) (fun i => l.length - i) 0 [] rfl rfl (Nat.zero_le _) ⟨rfl, rfl, by show Value.int .i64 ((l.map pkF).length : Int) = .int .i64 (l.length : Int); rw [List.length_map], rfl, trivial⟩ rfl trivial ?_
  intro i hi
  have hw : IntKind.i64.wrap ((i : Int) + 1) = ((i + 1 : Nat) : Int) := by rw [w64 (by omega) (by omega)]; omega
  refine a_if hT rfl rfl (fun h2 => ?_) (fun h2 => ?_)
  · have h2 : (i : Int) < l.length := of_decide_eq_true h2
    have hi1 : i < l.length := by omega
    have hd : (l.map pkF)[((i : Nat) : Int).toNat]? = some (pkF l[i]) := by simp [hi1]
    generalize l[i] = p at hd
    refine a_draw hT [] false [(0, false), (1, false), (5, false), (6, false), (2, false), (7, false), (3, false), (8, false), (4, false), (9, false), (10, false), (11, false), (12, false), (13, false), (17, false), (18, false), (14, false), (19, false), (15, false), (20, false), (16, false), (21, false), (22, false), (23, false), (24, false), (25, false), (26, false), (30, false), (31, false), (27, false), (32, false), (28, false), (33, false), (29, false), (34, false), (35, false), (36, false), (37, false), (38, false), (39, false), (44, false), (45, false), (40, false), (46, false), (41, false), (47, false), (42, false), (48, false), (43, false), (49, false), (50, false), (51, false)] rfl rfl (by kernel_rfl) (by kernel_rfl) rfl ?_
    refine a_ix hT _ rfl rfl rfl rfl rfl rfl (by omega) hd ?_
    refine a_ix hT _ rfl rfl rfl rfl rfl rfl (by omega) hd ?_
    refine a_gf hT rfl rfl rfl (by show (_ != _) = false; simp) ?_
    refine a_ix hT _ rfl rfl rfl rfl rfl rfl (by omega) hd ?_
    refine a_ix hT _ rfl rfl rfl rfl rfl rfl (by omega) hd ?_
    refine a_gf hT rfl rfl rfl (by show (_ != _) = false; simp) ?_
    refine a_ix hT _ rfl rfl rfl rfl rfl rfl (by omega) hd ?_
    refine a_ix hT _ rfl rfl rfl rfl rfl rfl (by omega) hd ?_
    refine a_gf hT rfl rfl rfl (by show (_ != _) = false; simp) ?_
    refine a_ix hT _ rfl rfl rfl rfl rfl rfl (by omega) hd ?_
    refine a_ix hT _ rfl rfl rfl rfl rfl rfl (by omega) hd ?_
    refine a_strP hT (l := p.by_) rfl rfl rfl rfl rfl rfl rfl ?_
    refine a_strP hT (l := p.by_) rfl rfl rfl rfl rfl rfl rfl ?_
    refine a_f hT rfl rfl (by show (_ != _) = false; simp) ?_
    exact a_next hT (i + 1) [] rfl rfl ⟨by show i + 1 ≤ l.length; omega, by show l.length - (i + 1) < l.length - i; omega⟩ ⟨rfl, rfl, rfl, by show Value.int .i64 _ = Value.int .i64 _; rw [hw], trivial⟩ rfl trivial
  · have h2 : ¬ (i : Int) < l.length := of_decide_eq_false h2
    refine a_ret hT [] rfl rfl rfl rfl rfl rfl ?_
    exact ⟨rfl, rfl⟩
end Go.Proofs.Ytdconcindpfmcaa
end

section
/- The net: its contracts. -/
set_option linter.unusedVariables false
set_option linter.unusedSimpArgs false
namespace Go.Proofs.Ytdconcindpfmcaa
open V

/-- A row of bytes of one's own. -/
def OwnB (w : World) (base : Nat) (l : List UInt8) (v : Value) : Prop := w.ownsRow base 5 1 v l.length (l.map byV)
theorem OwnB.own {w : World} {base : Nat} {l : List UInt8} {v : Value} (h : OwnB w base l v) (M : Nat → Prop) : Own M w base 5 1 (l.map byD) v := ⟨_, _, h, oneCells byV (fun _ => rfl) l⟩
theorem vals_eq {M : Nat → Prop} {w : World} {α : Type} {g : α → Value} : ∀ {l : List α} {xs : List Value}, VRep M w (l.map fun x => .v (g x)) xs → xs = l.map g
  | [], xs, h => by unfold VRep at h; exact h
  | x :: l, xs, h => by
    simp only [List.map_cons] at h
    unfold VRep at h
    obtain ⟨y, r, rfl, h1, h2⟩ := h
    rw [h1.val, vals_eq h2]; rfl
theorem OwnB.of {M : Nat → Prop} {w : World} {base : Nat} {l : List UInt8} {v : Value} (h : Own M w base 5 1 (l.map byD) v) : OwnB w base l v := by
  obtain ⟨m, xs, ho, hx⟩ := h
  have e := vals_eq (g := byV) hx
  have : m = l.length := by have := ho.1; rw [e] at this; simp at this; omega
  subst this; subst e; exact ho
theorem OwnB.read {w : World} {base : Nat} {l : List UInt8} {v : Value} (h : OwnB w base l v) (M : Nat → Prop) (hM : ∀ b, ob v b → ¬ M b) : ARep M w (bytesD l) v := (h.own M).read hM
theorem OwnB.ev {N : Nat → Prop} {w w' : World} {base : Nat} {l : List UInt8} {v : Value} (h : OwnB w base l v) (he : Ev N w w') (hN : ∀ b, ob v b → ¬ N b) : OwnB w' base l v :=
  OwnB.of (M := no) ((h.own N).ev he (fun b _ h => h.elim id fun h => h.elim) hN)
theorem OwnB.lt {w : World} {base : Nat} {l : List UInt8} {v : Value} (h : OwnB w base l v) : ∀ b, ob v b → base ≤ b ∧ b < w.heap.size := World.ownsRow.lt h
theorem OwnB.shape {w : World} {base : Nat} {l : List UInt8} {v : Value} (h : OwnB w base l v) : ∃ A c, v = .slice A l.length c ∧ l.length ≤ c := by
  rcases h.2 with ⟨rfl, h0⟩ | ⟨g, cap, cur, rfl, hb, hh, hn, _⟩
  · exact ⟨none, 0, by rw [h0], by omega⟩
  · exact ⟨_, cap, rfl, hn⟩

theorem elu8 : elemOk Try.prog 5 1 = true := by kernel_rfl

def CloneR (w : World) (l : List UInt8) (e : Ending) (w' : World) : Prop := ∃ v, e = .returned v ∧ Ev no w w' ∧ OwnB w' w.heap.size l v
theorem clone_u8 {M : Nat → Prop} {w : World} {l : List UInt8} {x : Value} (h : ARep M w (bytesD l) x) (hl : l.length ≤ lim) :
    Calls Try.prog 63 #[x] w (CloneR w l) := by
  obtain ⟨A, c, rfl, hc, hr⟩ := bytes_cells h
  refine enter hT [.slice A l.length c] Try.func63 rfl rfl rfl ?_
  cases A with
  | none =>
    have : l = [] := by
      cases l with
      | nil => rfl
      | cons b l => obtain ⟨ad, h, _⟩ := hr (by simp); cases h
    subst this
    refine go_t hT rfl rfl ?_
    refine go_ret hT [.slice none 0 0] rfl rfl ⟨rfl, trivial⟩ ⟨_, rfl, Ev.refl _ _, World.ownsRow_nil _ _ _ _⟩
  | some ad =>
    refine go_f hT rfl rfl ?_
    refine go_lit0 hT (M := no) rfl rfl rfl fun u w1 hu he1 => ⟨trivial, ?_⟩
    refine go_app hT rfl rfl rfl elu8 rfl rfl hu he1.size (h.past he1 (M' := or2 no (ob u)) fun b hb => hb.elim (fun h => h.elim) fun hb => .inr (hu.lt b hb).1) (by simpa [bytesD] using hl) fun v w2 hv he2 hb => ⟨trivial, ?_⟩
    refine go_ret hT [v] rfl rfl ⟨rfl, trivial⟩ ⟨v, rfl, he1.then he2 fun i hi ho => absurd hi (Nat.not_lt.2 (hu.lt i ho).1), OwnB.of (M := no) (by simpa using hv)⟩

theorem _root_.Go.World.ownsRow.shape {w : World} {base e k : Nat} {v : Value} {m : Nat} {xs : List Value} (h : w.ownsRow base e k v m xs) : ∃ A c, v = .slice A m c ∧ m ≤ c := by
  rcases h.2 with ⟨rfl, h0⟩ | ⟨g, cap, cur, rfl, hb, hh, hn, _⟩
  · exact ⟨none, 0, by rw [h0], by omega⟩
  · exact ⟨_, cap, rfl, hn⟩
theorem _root_.Go.World.ownsRow.ev {N : Nat → Prop} {w w' : World} {base e k : Nat} {v : Value} {m : Nat} {xs : List Value} (h : w.ownsRow base e k v m xs) (he : Ev N w w') (hN : ∀ b, ob v b → ¬ N b) : w'.ownsRow base e k v m xs := by
  obtain ⟨hl, ho⟩ := h
  refine ⟨hl, ?_⟩
  rcases ho with ho | ⟨g, cap, cur, rfl, hb, hh, r⟩
  · exact .inl ho
  · exact .inr ⟨g, cap, cur, rfl, hb, by rw [he.block g (Array.getElem?_eq_some_iff.1 hh).1 (hN g rfl)]; exact hh, r⟩

theorem _root_.Go.World.ownsRow.lower {w : World} {base base' e k : Nat} {v : Value} {m : Nat} {xs : List Value} (h : w.ownsRow base e k v m xs) (hb : base' ≤ base) : w.ownsRow base' e k v m xs := by
  obtain ⟨hl, ho⟩ := h
  refine ⟨hl, ?_⟩
  rcases ho with ho | ⟨g, cap, cur, e1, e2, r⟩
  · exact .inl ho
  · exact .inr ⟨g, cap, cur, e1, by omega, r⟩

/-! ### Packets, and the net -/
structure Pkt where
  num : Int
  frm : Int
  to : Int
  bytes : List UInt8
def pcells : List Pkt → List Value → List Value
  | p :: l, b :: bs => .int .i64 p.num :: .int .i64 p.frm :: .int .i64 p.to :: b :: pcells l bs
  | _, _ => []
theorem pcells_app : ∀ (l : List Pkt) (bs : List Value) (p : Pkt) (b : Value), bs.length = l.length → pcells (l ++ [p]) (bs ++ [b]) = pcells l bs ++ [.int .i64 p.num, .int .i64 p.frm, .int .i64 p.to, b]
  | [], [], p, b, _ => rfl
  | [], _ :: _, p, b, h => by simp at h
  | _ :: _, [], p, b, h => by simp at h
  | q :: l, c :: bs, p, b, h => by simp [pcells, pcells_app l bs p b (by simpa using h)]
def fpl (g : Nat) (v : Value) (bs : List Value) : List Nat := g :: (v :: bs).filterMap Value.ownBlock
def fp (g : Nat) (v : Value) (bs : List Value) : Nat → Prop := fun b => b ∈ fpl g v bs
structure NetR (w : World) (g : Nat) (v : Value) (bs : List Value) (l : List Pkt) (last : Int) : Prop where
  blk : Blk w g 98 [v, .int .i64 last]
  row : w.ownsRow 0 36 4 v l.length (pcells l bs)
  len : bs.length = l.length
  byt : ∀ (i : Nat) (p : Pkt) (b : Value), l[i]? = some p → bs[i]? = some b → OwnB w 0 p.bytes b
  nd : (fpl g v bs).Nodup
/-- A net at block g: its packets, the last number, and the blocks that are its own. -/
def NetO (w : World) (g : Nat) (S : Nat → Prop) (l : List Pkt) (last : Int) : Prop := ∃ v bs, NetR w g v bs l last ∧ S = fp g v bs

theorem el36 : elemOk Try.prog 36 4 = true := by kernel_rfl

def CopiedR (w : World) (p : Pkt) (e : Ending) (w' : World) : Prop := ∃ v, e = .returned (.agg #[.int .i64 p.num, .int .i64 p.frm, .int .i64 p.to, v]) ∧ Ev no w w' ∧ OwnB w' w.heap.size p.bytes v
theorem copied_any {M : Nat → Prop} {w : World} (p : Pkt) {x : Value} (h : ARep M w (bytesD p.bytes) x) (hl : p.bytes.length ≤ lim) :
    Calls Try.prog 59 #[.agg #[.int .i64 p.num, .int .i64 p.frm, .int .i64 p.to, x]] w (CopiedR w p) := by
  refine enter hT [.agg #[.int .i64 p.num, .int .i64 p.frm, .int .i64 p.to, x]] Try.func59 rfl rfl rfl ?_
  refine go_boxB hT (cs := [.int .i64 p.num, .int .i64 p.frm, .int .i64 p.to, x]) rfl rfl rfl rfl fun w1 g1 he1 hg1 hb1 => ⟨trivial, ?_⟩
  refine go_newB hT (.agg #[.int .i64 0, .int .i64 0, .int .i64 0, .slice none 0 0]) (cs := [.int .i64 0, .int .i64 0, .int .i64 0, .slice none 0 0]) rfl rfl (by kernel_rfl) rfl fun w2 g2 he2 hg2 hb2 => ⟨trivial, ?_⟩
  have l1 := hb1.lt
  have l2 := hb2.lt
  have hb1 := hb1.ev he2 (fun h => h)
  refine go_ldB hT rfl rfl rfl rfl hb1 rfl ?_
  refine go_call hT rfl rfl (by kernel_rfl) rfl (clone_u8 ((h.to he1).to he2) hl) ?_
  rintro e w3 ⟨y, rfl, he3, hy⟩
  refine ⟨y, rfl, trivial, ?_⟩
  have hb1 := hb1.ev he3 (fun h => h)
  have hb2 := hb2.ev he3 (fun h => h)
  obtain ⟨A, c, rfl, hc⟩ := hy.shape
  refine go_stB hT rfl rfl rfl rfl rfl rfl hb1 rfl fun w4 he4 hb1 => ?_
  have hb2 := hb2.ev he4 (fun h => by simp only [at1] at h; omega)
  refine go_lda hT [.int .i64 p.num, .int .i64 p.frm, .int .i64 p.to, .slice A p.bytes.length c] rfl rfl rfl rfl hb1.cells ?_
  refine go_staB hT [.int .i64 p.num, .int .i64 p.frm, .int .i64 p.to, .slice A p.bytes.length c] rfl rfl rfl rfl rfl (by simp [Value.oneCell']) hb2 rfl fun w5 he5 hb2 => ⟨trivial, ?_⟩
  refine go_ret hT [.agg #[.int .i64 p.num, .int .i64 p.frm, .int .i64 p.to, .slice A p.bytes.length c]] rfl rfl ⟨⟨_, rfl, run_loada hT rfl hb2.cells⟩, trivial⟩ ?_
  have hs1 := he1.size
  have hs2 := he2.size
  have hs3 := he3.size
  have hy2 := (hy.ev he4 fun b hb h => by simp only [at1] at h; have := (hy.lt b hb).1; omega).ev he5 fun b hb h => by simp only [at1] at h; have := (hy.lt b hb).1; omega
  refine ⟨_, rfl, ?_, World.ownsRow.lower hy2 (by omega)⟩
  have h13 := (he1.trans he2).trans he3
  have h14 : Ev no w w4 := h13.then he4 fun i hi h => by simp only [at1] at h; omega
  exact h14.then he5 fun i hi h => by simp only [at1] at h; omega

/-- New -/
theorem new_any (w : World) : Calls Try.prog 25 #[] w fun e w' => ∃ g, e = .returned (.pointer (some ⟨g, 0, none⟩)) ∧ Ev no w w' ∧ w.heap.size ≤ g ∧ NetO w' g (at1 g) [] 0 := by
  refine enter hT [] Try.func25 rfl rfl rfl ?_
  refine go_build hT #[.slice none 0 0, .int .i64 0] rfl rfl rfl (by kernel_rfl) rfl ?_
  refine go_boxB hT (cs := [.slice none 0 0, .int .i64 0]) rfl rfl rfl rfl fun w1 g he hg hb => ⟨trivial, ?_⟩
  refine go_ret hT [.pointer (some ⟨g, 0, none⟩)] rfl rfl ⟨rfl, trivial⟩ ⟨g, rfl, he, hg, .slice none 0 0, [], ⟨hb, World.ownsRow_nil _ _ _ _, rfl, fun i p b h => by simp at h, by simp [fpl, List.filterMap, Value.ownBlock]⟩, ?_⟩
  funext b
  simp [fp, fpl, List.filterMap, Value.ownBlock, at1]

theorem fp_app (g : Nat) (v v' : Value) (bs : List Value) (b' : Value) (n : Nat) (h1 : ∀ b, ob v' b → ob v b ∨ n ≤ b) (h2 : ∀ b, ob b' b → n ≤ b) : ∀ b, fp g v' (bs ++ [b']) b → fp g v bs b ∨ n ≤ b := by
  intro b hb
  simp only [fp, fpl, List.mem_cons, List.filterMap_cons, List.filterMap_append] at hb ⊢
  rcases hb with rfl | hb
  · exact .inl (.inl rfl)
  · have key : v'.ownBlock = some b ∨ b ∈ bs.filterMap Value.ownBlock ∨ b'.ownBlock = some b := by
      cases hv : v'.ownBlock <;> cases hb' : b'.ownBlock <;> simp [hv, hb'] at hb ⊢
      · exact hb
      · rcases hb with h | h
        · exact .inl h
        · exact .inr h.symm
      · rcases hb with h | h
        · exact .inl h.symm
        · exact .inr h
      · rcases hb with h | h | h
        · exact .inl h.symm
        · exact .inr (.inl h)
        · exact .inr (.inr h.symm)
    rcases key with h | h | h
    · rcases h1 b h with h | h
      · left; right; unfold ob at h; simp [h]
      · exact .inr h
    · left; right
      cases hv : v.ownBlock <;> simp [hv, h]
    · exact .inr (h2 b h)

/-- The net's own two blocks. -/
def fp2 (g : Nat) (v : Value) : Nat → Prop := or2 (at1 g) (ob v)
theorem NetR.ne {w : World} {g : Nat} {v : Value} {bs : List Value} {l : List Pkt} {last : Int} (h : NetR w g v bs l last) : ∀ b, ob v b → b ≠ g := by
  intro b hb e
  have := h.nd
  simp only [fpl, List.filterMap_cons, ob] at this hb
  rw [hb] at this
  simp [e] at this
theorem NetR.bne {w : World} {g : Nat} {v : Value} {bs : List Value} {l : List Pkt} {last : Int} (h : NetR w g v bs l last) {u : Value} (hu : u ∈ bs) : ∀ b, ob u b → ¬ fp2 g v b := by
  intro b hb e
  have hnd := h.nd
  have hmem : b ∈ bs.filterMap Value.ownBlock := List.mem_filterMap.2 ⟨u, hu, hb⟩
  simp only [fpl, List.nodup_cons] at hnd
  rcases e with e | e
  · simp only [at1] at e
    subst e
    apply hnd.1
    rw [List.filterMap_cons]
    cases v.ownBlock <;> simp [hmem]
  · have h2 := hnd.2
    rw [List.filterMap_cons] at h2
    unfold ob at e
    rw [e] at h2
    simp only [List.nodup_cons] at h2
    exact h2.1 hmem
theorem NetR.lt {w : World} {g : Nat} {v : Value} {bs : List Value} {l : List Pkt} {last : Int} (h : NetR w g v bs l last) : ∀ b, fp g v bs b → b < w.heap.size := by
  intro b hb
  simp only [fp, fpl, List.mem_cons, List.mem_filterMap] at hb
  rcases hb with rfl | ⟨u, hu, hb⟩
  · exact h.blk.lt
  · rcases hu with rfl | hu
    · exact (h.row.lt b hb).2
    · obtain ⟨i, hi, rfl⟩ := List.getElem_of_mem hu
      have hl := h.len
      exact ((h.byt i l[i] bs[i] (List.getElem?_eq_getElem (by omega)) (List.getElem?_eq_getElem hi)).lt b hb).2

theorem NetR.mem {g : Nat} {v : Value} {bs : List Value} {u : Value} (hu : u ∈ bs) : ∀ b, ob u b → fp g v bs b := by
  intro b hb
  simp only [fp, fpl, List.mem_cons, List.mem_filterMap]
  exact .inr ⟨u, .inr hu, hb⟩
theorem NetR.ev {N : Nat → Prop} {w w' : World} {g : Nat} {v : Value} {bs : List Value} {l : List Pkt} {last : Int} (h : NetR w g v bs l last) (he : Ev N w w') (hN : ∀ b, fp g v bs b → ¬ N b) : NetR w' g v bs l last :=
  ⟨h.blk.ev he (hN g (by simp [fp, fpl])), h.row.ev he (fun b hb => hN b (by simp only [fp, fpl, List.mem_cons, List.mem_filterMap]; exact .inr ⟨v, .inl rfl, hb⟩)), h.len,
    fun i p b hp hb => (h.byt i p b hp hb).ev he (fun c hc => hN c (NetR.mem (List.mem_of_getElem? hb) c hc)), h.nd⟩
theorem fpl_eq (g : Nat) (v : Value) (bs : List Value) : fpl g v bs = g :: (v.ownBlock.toList ++ bs.filterMap Value.ownBlock) := by
  unfold fpl
  rw [List.filterMap_cons]
  cases v.ownBlock <;> rfl
theorem nd_app {g : Nat} {v v' b' : Value} {bs : List Value} {m n : Nat} (h : (fpl g v bs).Nodup) (hold : ∀ b, fp g v bs b → b < m) (hmn : m ≤ n) (h1 : ∀ b, ob v' b → ob v b ∨ n ≤ b) (h2 : ∀ b, ob b' b → m ≤ b ∧ b < n) : (fpl g v' (bs ++ [b'])).Nodup := by
  have hv' : ∀ b ∈ v'.ownBlock.toList, ob v b ∨ n ≤ b := fun b hb => h1 b (by unfold ob; cases hq : v'.ownBlock <;> simp_all)
  have hb' : ∀ b ∈ b'.ownBlock.toList, m ≤ b ∧ b < n := fun b hb => h2 b (by unfold ob; cases hq : b'.ownBlock <;> simp_all)
  have hvm : ∀ b, ob v b → b ∈ v.ownBlock.toList := fun b hb => by unfold ob at hb; simp [hb]
  have one : ∀ o : Option Nat, o.toList.Nodup := fun o => by cases o <;> simp
  have holdg : g < m := hold g (by simp [fp, fpl])
  have holdv : ∀ b, ob v b → b < m := fun b hb => hold b (by simp only [fp, fpl_eq]; simp [hvm b hb])
  have holdb : ∀ b ∈ bs.filterMap Value.ownBlock, b < m := fun b hb => hold b (by simp only [fp, fpl_eq]; exact List.mem_cons_of_mem _ (List.mem_append_right _ hb))
  rw [fpl_eq] at h ⊢
  rw [List.nodup_cons, List.nodup_append] at h ⊢
  obtain ⟨hg, hn1, hn2, hd⟩ := h
  have hb'n : (bs ++ [b']).filterMap Value.ownBlock = bs.filterMap Value.ownBlock ++ b'.ownBlock.toList := by
    rw [List.filterMap_append]; cases hq : b'.ownBlock <;> simp [List.filterMap, hq]
  rw [hb'n]
  refine ⟨?_, one _, ?_, ?_⟩
  · simp only [List.mem_append, not_or] at hg ⊢
    refine ⟨fun hm => ?_, hg.2, fun hm => ?_⟩
    · rcases hv' g hm with h | h
      · exact hg.1 (hvm g h)
      · omega
    · have := hb' g hm; omega
  · rw [List.nodup_append]
    exact ⟨hn2, one _, fun a ha b hb e => by subst e; have := holdb a ha; have := hb' a hb; omega⟩
  · intro a ha b hb e
    subst e
    rw [List.mem_append] at hb
    rcases hv' a ha with h | h
    · rcases hb with hb | hb
      · exact hd a (hvm a h) a hb rfl
      · have := hb' a hb; have := holdv a h; omega
    · rcases hb with hb | hb
      · have := holdb a hb; omega
      · have := hb' a hb; omega

def SendR (w : World) (g : Nat) (v : Value) (bs : List Value) (l : List Pkt) (last frm to : Int) (bytes : List UInt8) (e : Ending) (w' : World) : Prop :=
  e = .returned (.tuple #[.int .i64 (last + 1), .int .i64 0]) ∧ ∃ v' b', NetR w' g v' (bs ++ [b']) (l ++ [⟨last + 1, frm, to, bytes⟩]) (last + 1) ∧ Ev (fp2 g v) w w' ∧ (∀ b, ob v' b → ob v b ∨ w.heap.size ≤ b) ∧ (∀ b, ob b' b → w.heap.size ≤ b)
set_option maxRecDepth 100000 in
theorem send_room {w : World} {g : Nat} {v : Value} {bs : List Value} {l : List Pkt} {last frm to : Int} {x : Value} {bytes : List UInt8} (hn : NetR w g v bs l last) (h : ARep (fp2 g v) w (bytesD bytes) x) (hb : bytes.length ≤ lim) (hlen : l.length < 200) (hl0 : 0 ≤ last) (hl1 : last < 4611686018427387904) :
    Calls Try.prog 26 #[.pointer (some ⟨g, 0, none⟩), .int .i64 frm, .int .i64 to, x] w (SendR w g v bs l last frm to bytes) := by
  obtain ⟨A, c, rfl, hc⟩ := hn.row.shape
  obtain ⟨A1, c1, rfl, hc1, _⟩ := bytes_cells h
  have hvg := hn.ne
  refine enter hT [.pointer (some ⟨g, 0, none⟩), .int .i64 frm, .int .i64 to, .slice A1 bytes.length c1] Try.func26 rfl rfl rfl ?_
  refine go_f hT rfl rfl ?_
  refine go_ldB hT rfl rfl rfl rfl hn.blk rfl ?_
  refine go_f hT rfl (by simp; omega) ?_
  refine go_ldB hT rfl rfl rfl rfl hn.blk rfl ?_
  refine go_stB hT rfl rfl rfl rfl (v := .int .i64 (last + 1)) (congrArg (Value.int .i64) (show IntKind.wrap .i64 (last + 1) = last + 1 by simp [IntKind.wrap, IntKind.bits, IntKind.signed]; omega)) rfl hn.blk rfl fun w1 he1 hb1 => ?_
  have hrow := hn.row.ev he1 hvg
  refine go_draw hT (fun w' => Blk w' g 98 [.slice A l.length c, .int .i64 (last + 1)]) true [(0, false), (1, false), (5, false), (9, false), (10, false), (11, false), (2, false), (6, false), (3, false), (7, false), (4, false), (8, false), (12, true), (13, true), (14, true), (15, true), (16, false), (17, false), (18, true)] rfl (by kernel_rfl) (by kernel_rfl) hb1 ?_
  refine go_ldS hT rfl rfl rfl rfl (fun w' h => h.cell 0 rfl) ?_
  refine go_ldS hT rfl rfl rfl rfl (fun w' h => h.cell 1 rfl) ?_
  refine go_build hT (z := #[.int .i64 0, .int .i64 0, .int .i64 0, .slice none 0 0]) #[.int .i64 (last + 1), .int .i64 frm, .int .i64 to, .slice A1 bytes.length c1] rfl rfl rfl (by kernel_rfl) rfl ?_
  have he1d := Ev.drew w1
  have hx1 : ARep (fp2 g (.slice A l.length c)) w1.drew (bytesD bytes) (.slice A1 bytes.length c1) :=
    h.ev (he1.to he1d) fun b hb hm => hm.elim .inl id
  refine go_call hT rfl rfl (by kernel_rfl) rfl (copied_any ⟨last + 1, frm, to, bytes⟩ hx1 hb) ?_
  rintro e w2 ⟨y, rfl, he2, hy⟩
  have hb2 := (hb1.ev he1d (fun h => h)).ev he2 (fun h => h)
  refine ⟨_, rfl, .inr hb2, ?_⟩
  obtain ⟨Ay, cy, rfl, hcy⟩ := hy.shape
  refine go_lit1R hT (cs := [.int .i64 (last + 1), .int .i64 frm, .int .i64 to, .slice Ay bytes.length cy]) rfl rfl rfl el36 rfl rfl rfl rfl fun g3 w3 hb3 hg3 he3 => ?_
  have hb2 := hb2.ev he3 (fun h => h)
  refine ⟨.inr hb2, ?_⟩
  have hrow := ((hrow.ev he1d (fun _ _ h => h)).ev he2 (fun _ _ h => h)).ev he3 (fun _ _ h => h)
  refine go_appR hT rfl rfl rfl el36 rfl rfl hrow (Nat.zero_le _) (m := 1) (news := [.int .i64 (last + 1), .int .i64 frm, .int .i64 to, .slice Ay bytes.length cy]) rfl (fun _ => ⟨_, rfl, hb3.cells⟩) (by simp [Value.oneCell']) (by unfold lim; omega) fun v' w4 hv' he4 hob4 => ?_
  have hb4 := hb2.ev he4 (fun h => hvg _ h rfl)
  refine ⟨.inr hb4, ?_⟩
  obtain ⟨A', c', rfl, hc'⟩ := hv'.shape
  refine go_stBS hT rfl rfl rfl rfl rfl rfl hb4 rfl fun w5 he5 hb5 => ⟨.inl rfl, ?_⟩
  refine go_ldB hT rfl rfl rfl rfl hb5 rfl ?_
  refine go_ret hT [.int .i64 (last + 1), .int .i64 0] rfl rfl ⟨rfl, rfl, trivial⟩ ⟨rfl, .slice A' (l.length + 1) c', .slice Ay bytes.length cy, ?_⟩
  -- what is so now
  have hs1 := he1.size
  have hs2 := he2.size
  have hs3 := he3.size
  have hs4 := he4.size
  have hs1d : w1.drew.heap.size = w1.heap.size := rfl
  have hvlt := hn.row.lt
  have hglt := hn.blk.lt
  have hyne : ∀ b, ob (.slice Ay bytes.length cy) b → w.heap.size ≤ b := fun b hb => by have := (hy.lt b hb).1; omega
  have hob5 : ∀ b, ob (.slice A' (l.length + 1) c') b → ob (.slice A l.length c) b ∨ w.heap.size ≤ b := fun b hb => (hob4 b hb).imp id fun h => by omega
  have he14 : Ev (fp2 g (.slice A l.length c)) w w4 :=
    ((((he1.mono fun b _ h => .inl h).to he1d).to he2).to he3).then he4 fun i hi h => .inr h
  have he15 : Ev (fp2 g (.slice A l.length c)) w w5 := he14.then he5 fun i hi h => .inl h
  refine ⟨⟨hb5, ?_, by simp [hn.len], ?_, ?_⟩, he15, hob5, hyne⟩
  · have := hv'.ev he5 (fun b hb h => by
      simp only [at1] at h
      subst h
      rcases hob4 b hb with h | h
      · exact hvg b h rfl
      · omega)
    rw [pcells_app l bs _ _ hn.len]
    simpa using this
  · intro i p b hp hb
    rcases Nat.lt_or_ge i l.length with hi | hi
    · rw [List.getElem?_append_left hi] at hp
      rw [List.getElem?_append_left (by rw [hn.len]; exact hi)] at hb
      exact (hn.byt i p b hp hb).ev he15 (hn.bne (List.mem_of_getElem? hb))
    · have hi2 : i = l.length := by
        have := (List.getElem?_eq_some_iff.1 hp).1
        simp at this; omega
      subst hi2
      rw [List.getElem?_append_right (Nat.le_refl _)] at hp
      rw [List.getElem?_append_right (by rw [hn.len]; exact Nat.le_refl _)] at hb
      simp [hn.len] at hp hb
      subst hp; subst hb
      refine (((hy.ev he3 (fun _ _ h => h)).ev he4 fun b hb h => ?_).ev he5 fun b hb h => ?_).lower (Nat.zero_le _)
      · have := hyne b hb; have := (hvlt b h).2; omega
      · simp only [at1] at h; subst h; have := hyne b hb; omega
  · refine nd_app (m := w.heap.size) (n := w3.heap.size) hn.nd hn.lt (by omega) hob4 fun b hb => ?_
    have := hy.lt b hb
    omega

/-- A full net takes nothing. -/
theorem send_full {w : World} {g : Nat} {v : Value} {bs : List Value} {l : List Pkt} {last frm to : Int} {x : Value} (hn : NetR w g v bs l last) (hlen : 200 ≤ l.length) :
    Calls Try.prog 26 #[.pointer (some ⟨g, 0, none⟩), .int .i64 frm, .int .i64 to, x] w fun e w' => e = .returned (.tuple #[.int .i64 0, .int .i64 14]) ∧ w = w' := by
  obtain ⟨A, c, rfl, hc⟩ := hn.row.shape
  refine enter hT [.pointer (some ⟨g, 0, none⟩), .int .i64 frm, .int .i64 to, x] Try.func26 rfl rfl rfl ?_
  refine go_f hT rfl rfl ?_
  refine go_ldB hT rfl rfl rfl rfl hn.blk rfl ?_
  refine go_t hT rfl (by simp; omega) ?_
  exact go_ret hT [.int .i64 0, .int .i64 14] rfl rfl ⟨rfl, rfl, trivial⟩ ⟨rfl, rfl⟩
theorem send_nil {w : World} {frm to : Int} {x : Value} :
    Calls Try.prog 26 #[.pointer none, .int .i64 frm, .int .i64 to, x] w fun e w' => e = .returned (.tuple #[.int .i64 0, .int .i64 1]) ∧ w = w' := by
  refine enter hT [.pointer none, .int .i64 frm, .int .i64 to, x] Try.func26 rfl rfl rfl ?_
  refine go_t hT rfl rfl ?_
  exact go_ret hT [.int .i64 0, .int .i64 1] rfl rfl ⟨rfl, rfl, trivial⟩ ⟨rfl, rfl⟩
theorem len_any {w : World} {g : Nat} {v : Value} {bs : List Value} {l : List Pkt} {last : Int} (hn : NetR w g v bs l last) :
    Calls Try.prog 28 #[.pointer (some ⟨g, 0, none⟩)] w fun e w' => e = .returned (.int .i64 l.length) ∧ w = w' := by
  obtain ⟨A, c, rfl, hc⟩ := hn.row.shape
  refine enter hT [.pointer (some ⟨g, 0, none⟩)] Try.func28 rfl rfl rfl ?_
  refine go_f hT rfl rfl ?_
  refine go_ldB hT rfl rfl rfl rfl hn.blk rfl ?_
  exact go_ret hT [.int .i64 l.length] rfl rfl ⟨rfl, trivial⟩ ⟨rfl, rfl⟩
theorem len_nil {w : World} : Calls Try.prog 28 #[.pointer none] w fun e w' => e = .returned (.int .i64 0) ∧ w = w' := by
  refine enter hT [.pointer none] Try.func28 rfl rfl rfl ?_
  refine go_t hT rfl rfl ?_
  exact go_ret hT [.int .i64 0] rfl rfl ⟨rfl, trivial⟩ ⟨rfl, rfl⟩
theorem there_nil {w : World} {i : Int} : Calls Try.prog 60 #[.pointer none, .int .i64 i] w fun e w' => e = .returned (.bool false) ∧ w = w' := by
  refine enter hT [.pointer none, .int .i64 i] Try.func60 rfl rfl rfl ?_
  refine go_g hT rfl rfl (fun h => ?_) (fun h => ?_)
  · have h : i ≥ 0 := by simpa using h
    refine go_call hT rfl rfl (by kernel_rfl) rfl len_nil ?_
    rintro e w1 ⟨rfl, rfl⟩
    refine ⟨_, rfl, trivial, ?_⟩
    refine go_ret hT [.bool (decide (i < 0))] rfl rfl ⟨rfl, trivial⟩ ⟨?_, rfl⟩
    simp [tup]; omega
  · exact go_ret hT [.bool false] rfl rfl ⟨rfl, trivial⟩ ⟨rfl, rfl⟩
theorem there_any {w : World} {g : Nat} {v : Value} {bs : List Value} {l : List Pkt} {last i : Int} (hn : NetR w g v bs l last) :
    Calls Try.prog 60 #[.pointer (some ⟨g, 0, none⟩), .int .i64 i] w fun e w' => e = .returned (.bool (decide (0 ≤ i ∧ i < l.length))) ∧ w = w' := by
  refine enter hT [.pointer (some ⟨g, 0, none⟩), .int .i64 i] Try.func60 rfl rfl rfl ?_
  refine go_g hT rfl rfl (fun h => ?_) (fun h => ?_)
  · have h : i ≥ 0 := by simpa using h
    refine go_call hT rfl rfl (by kernel_rfl) rfl (len_any hn) ?_
    rintro e w1 ⟨rfl, rfl⟩
    refine ⟨_, rfl, trivial, ?_⟩
    refine go_ret hT [.bool (decide (i < (l.length : Int)))] rfl rfl ⟨rfl, trivial⟩ ⟨?_, rfl⟩
    simp [tup]; omega
  · have h : i < 0 := by simpa using h
    refine go_ret hT [.bool false] rfl rfl ⟨rfl, trivial⟩ ⟨?_, rfl⟩
    simp [tup]; omega

end Go.Proofs.Ytdconcindpfmcaa
end

section
/- The scripts of the net's laws; awake; a nil net. -/
set_option linter.unusedVariables false
set_option linter.unusedSimpArgs false
namespace Go.Proofs.Ytdconcindpfmcaa
open V

structure NOp where
  kind : Int
  a : Int
  b : Int
  by_ : UInt8
  bytes : List UInt8
def NOp.dat (o : NOp) : List Dat := [.v (.int .i64 o.kind), .v (.int .i64 o.a), .v (.int .i64 o.b), byD o.by_, bytesD o.bytes]
def NOp.ok (o : NOp) : Prop := -9223372036854775808 ≤ o.a ∧ o.a ≤ 9223372036854775807 ∧ -9223372036854775808 ≤ o.b ∧ o.b ≤ 9223372036854775807 ∧ o.bytes.length ≤ reachBytes
def nopT : List Ty := [.int .i64, .int .i64, .int .i64, .int .u8, .sl [.int .u8]]
theorem nop_of {ds : List Dat} (h : HasTys nopT ds) : ∃ o : NOp, ds = o.dat ∧ o.ok := by
  unfold nopT at h
  obtain ⟨d1, r, rfl, h1, h⟩ := h.cons
  obtain ⟨d2, r, rfl, h2, h⟩ := h.cons
  obtain ⟨d3, r, rfl, h3, h⟩ := h.cons
  obtain ⟨d4, r, rfl, h4, h⟩ := h.cons
  obtain ⟨d5, r, rfl, h5, h6⟩ := h.cons
  obtain ⟨k, rfl, _⟩ := h1.i64
  obtain ⟨a, rfl, ha⟩ := h2.i64
  obtain ⟨b, rfl, hb⟩ := h3.i64
  obtain ⟨y, rfl⟩ := h4.u8
  obtain ⟨l, rfl, hl⟩ := h5.bytes
  exact ⟨⟨k, a, b, y, l⟩, by rw [h6.nil]; rfl, ha.1, ha.2, hb.1, hb.2, hl⟩

theorem nop_cells {M : Nat → Prop} {w : World} {o : NOp} {cs : List Value} (h : VRep M w o.dat cs) : ∃ y, cs = [.int .i64 o.kind, .int .i64 o.a, .int .i64 o.b, byV o.by_, y] ∧ ARep M w (bytesD o.bytes) y := by
  unfold NOp.dat at h
  unfold VRep at h
  obtain ⟨x1, r, rfl, h1, h⟩ := h
  unfold VRep at h
  obtain ⟨x2, r, rfl, h2, h⟩ := h
  unfold VRep at h
  obtain ⟨x3, r, rfl, h3, h⟩ := h
  unfold VRep at h
  obtain ⟨x4, r, rfl, h4, h⟩ := h
  unfold VRep at h
  obtain ⟨x5, r, rfl, h5, h⟩ := h
  unfold VRep at h
  subst h
  exact ⟨x5, by rw [h1.val, h2.val, h3.val, ARep.val (u := byV o.by_) h4], h5⟩

/-- Few: tells only of a script that is short, and of few bytes. -/
theorem few_any {M : Nat → Prop} {w : World} {ops : List NOp} {x : Value} (h : ARep M w (.sl 5 (ops.flatMap NOp.dat)) x) (hl : ops.length ≤ reachBytes) (hok : ∀ o ∈ ops, o.ok) :
    Calls Try.prog 52 #[x] w fun e w' => ∃ b, e = .returned (.bool b) ∧ (b = true → ops.length ≤ 500 ∧ ∀ o ∈ ops, o.bytes.length ≤ 20000) ∧ w = w' := by
  obtain ⟨A, c, rfl, hc, hr⟩ := many_get (k := 5) (fun _ => rfl) (by decide) h
  refine enter hT [.slice A ops.length c] Try.func52 rfl rfl rfl ?_
  refine go_loop hT [0, 6, 3, 7] (fun x : Nat × Nat => [.slice A ops.length c, .int .i64 ops.length, .int .i64 x.2, .int .i64 x.1])
    (fun x w' => w = w' ∧ x.1 ≤ ops.length ∧ x.1 ≤ 500 ∧ x.2 ≤ 20000 ∧ ∀ (i : Nat) o, i < x.1 → ops[i]? = some o → o.bytes.length ≤ x.2) (fun x _ => ops.length - x.1) (0, 0) rfl ⟨rfl, by simp, by simp, by simp, fun i o h => by simp at h⟩ rfl ?_
  rintro ⟨i, m⟩ w1 g1 ⟨rfl, hi, hi5, hm, hall⟩
  refine go_if hT rfl (fun h => ?_) (fun h => ?_)
  · have hlt : i < ops.length := by simpa using h
    obtain ⟨ad, rfl, hM, hcell⟩ := hr (by intro h; simp [h] at hlt)
    obtain ⟨o, ho⟩ : ∃ o, ops[i]? = some o := ⟨_, List.getElem?_eq_getElem hlt⟩
    obtain ⟨cs, hcs, hv⟩ := hcell i o ho
    obtain ⟨y, rfl, hy⟩ := nop_cells hv
    obtain ⟨Ay, cy, rfl, _⟩ := bytes_cells hy
    refine go_ix hT rfl rfl rfl rfl rfl (by omega) (by omega) ?_
    have hob := (hok o (List.mem_of_getElem? ho)).2.2.2.2
    unfold reachBytes at hob
    refine go_ld hT rfl rfl rfl rfl (hcs 4 _ rfl) ?_
    have hsum : IntKind.wrap .i64 ((m : Int) + (o.bytes.length : Int)) = ((m + o.bytes.length : Nat) : Int) := by simp [IntKind.wrap, IntKind.bits, IntKind.signed]; omega
    refine go_g hT rfl rfl (fun h5 => ?_) (fun h5 => ?_)
    · refine go_t hT rfl rfl ?_
      exact go_ret hT [.bool false] rfl rfl ⟨rfl, trivial⟩ ⟨false, rfl, (fun h => by cases h), rfl⟩
    · have h5 : i < 500 := by have := of_decide_eq_false h5; simp at this; omega
      rw [show (IntKind.wrap .i64 ((m : Int) + (o.bytes.length : Int))) = _ from hsum]
      refine go_if hT rfl (fun h6 => ?_) (fun h6 => ?_)
      · exact go_ret hT [.bool false] rfl rfl ⟨rfl, trivial⟩ ⟨false, rfl, (fun h => by cases h), rfl⟩
      · have h6 : m + o.bytes.length ≤ 20000 := by
          have := of_decide_eq_false h6
          omega
        refine go_next hT (i + 1, m + o.bytes.length) rfl ?_ ⟨rfl, by simp; omega, by simp; omega, h6, fun j p hj hp => ?_⟩ (by simp; omega)
        · exact congrArg (fun z => [Value.slice (some ad) ops.length c, .int .i64 ops.length, .int .i64 ((m + o.bytes.length : Nat) : Int), .int .i64 z]) (next64 (by omega))
        · rcases Nat.lt_or_ge j i with hji | hji
          · have := hall j p hji hp
            simp at this ⊢
            omega
          · obtain rfl : j = i := by simp at hj; omega
            rw [ho] at hp
            cases hp
            simp
  · have hge : ops.length ≤ i := by simpa using h
    refine go_ret hT [.bool true] rfl rfl ⟨rfl, trivial⟩ ⟨true, rfl, fun _ => ⟨by omega, fun o ho => ?_⟩, rfl⟩
    obtain ⟨j, hj, rfl⟩ := List.getElem_of_mem ho
    have := hall j _ (by omega) (List.getElem?_eq_getElem hj)
    omega

/-- awake is true: a net takes a packet. -/
theorem awake_true (w : World) : Calls Try.prog 24 #[] w fun e w' => e = .returned (.bool true) ∧ Ev no w w' := by
  refine enter hT [] Try.func24 rfl rfl rfl ?_
  refine go_call hT rfl rfl (by kernel_rfl) rfl (new_any _) ?_
  rintro e w1 ⟨g, rfl, he1, hg, v, bs, hn, hS⟩
  refine ⟨_, rfl, trivial, ?_⟩
  have hfp : ∀ b, fp g v bs b → b = g := fun b hb => by rw [← hS] at hb; exact hb
  have hvg : ∀ b, ob v b → b = g := fun b hb => hfp b (by simp only [fp, fpl, List.mem_cons, List.mem_filterMap]; exact .inr ⟨v, .inl rfl, hb⟩)
  have hgl := hn.blk.lt
  refine go_lit1 hT (M := fp2 g v) (ds := [byD 120]) rfl rfl rfl elu8 rfl rfl rfl (VRep.nil.cons (ARep.mkVal rfl)) fun u w2 hu he2 => ⟨trivial, ?_⟩
  have hul := hu.lt
  have hur := hu.read (fun b hb h => by
    have := (hul b hb).1
    rcases h with h | h
    · simp only [at1] at h; omega
    · have := hvg b h; omega)
  obtain ⟨A, c, rfl, hc, hcu⟩ := bytes_cells (l := [120]) hur
  obtain ⟨ad, rfl, _⟩ := hcu (by simp)
  have hs1 := he1.size
  have hs2 := he2.size
  refine go_mark hT rfl rfl rfl rfl rfl ⟨_, _, _, rfl⟩ hur fun w3 he3 hx => ⟨trivial, ?_⟩
  have hn3 := (hn.ev he2 fun _ _ h => h).ev he3 fun b hb h => by have := (hul b h).1; have := hfp b hb; omega
  have hs3 := he3.size
  refine go_call hT rfl rfl (by kernel_rfl) rfl (send_room (l := []) (bytes := [120]) hn3 hx (by decide) (by simp) (by omega) (by omega)) ?_
  rintro e w4 ⟨rfl, v', b', hn4, he4, -, -⟩
  refine ⟨_, rfl, trivial, ?_⟩
  refine go_gt hT rfl rfl rfl ?_
  refine go_gt hT rfl rfl rfl ?_
  refine go_call hT rfl rfl (by kernel_rfl) rfl (len_any hn4) ?_
  rintro e w5 ⟨rfl, rfl⟩
  refine ⟨_, rfl, trivial, ?_⟩
  refine go_ret hT [.bool true] rfl rfl ⟨rfl, trivial⟩ ⟨rfl, ?_⟩
  refine ((he1.trans he2).then he3 fun i hi h => ?_).then he4 fun i hi h => ?_
  · have := (hul i h).1; omega
  · rcases h with h | h
    · simp only [at1] at h; omega
    · have := hvg i h; omega

/-! ### A nil net -/
theorem double_nil {w : World} {i : Int} : Calls Try.prog 29 #[.pointer none, .int .i64 i] w fun e w' => e = .returned (.tuple #[.int .i64 0, .int .i64 1]) ∧ w = w' := by
  refine enter hT [.pointer none, .int .i64 i] Try.func29 rfl rfl rfl ?_
  refine go_t hT rfl rfl ?_
  exact go_ret hT [.int .i64 0, .int .i64 1] rfl rfl ⟨rfl, rfl, trivial⟩ ⟨rfl, rfl⟩
theorem drop_nil {w : World} {i : Int} : Calls Try.prog 30 #[.pointer none, .int .i64 i] w fun e w' => e = .returned (.bool false) ∧ w = w' := by
  refine enter hT [.pointer none, .int .i64 i] Try.func30 rfl rfl rfl ?_
  refine go_call hT rfl rfl (by kernel_rfl) rfl there_nil ?_
  rintro e w1 ⟨rfl, rfl⟩
  refine ⟨_, rfl, trivial, ?_⟩
  refine go_t hT rfl rfl ?_
  exact go_ret hT [.bool false] rfl rfl ⟨rfl, trivial⟩ ⟨rfl, rfl⟩
theorem damage_nil {w : World} {i j : Int} {x : Value} : Calls Try.prog 35 #[.pointer none, .int .i64 i, .int .i64 j, x] w fun e w' => e = .returned (.bool false) ∧ w = w' := by
  refine enter hT [.pointer none, .int .i64 i, .int .i64 j, x] Try.func35 rfl rfl rfl ?_
  refine go_call hT rfl rfl (by kernel_rfl) rfl there_nil ?_
  rintro e w1 ⟨rfl, rfl⟩
  refine ⟨_, rfl, trivial, ?_⟩
  refine go_gt hT rfl rfl rfl ?_
  refine go_gt hT rfl rfl rfl ?_
  refine go_t hT rfl rfl ?_
  exact go_ret hT [.bool false] rfl rfl ⟨rfl, trivial⟩ ⟨rfl, rfl⟩
theorem move_nil {w : World} {i j : Int} : Calls Try.prog 56 #[.pointer none, .int .i64 i, .int .i64 j] w fun e w' => e = .returned (.bool false) ∧ w = w' := by
  refine enter hT [.pointer none, .int .i64 i, .int .i64 j] Try.func56 rfl rfl rfl ?_
  refine go_call hT rfl rfl (by kernel_rfl) rfl there_nil ?_
  rintro e w1 ⟨rfl, rfl⟩
  refine ⟨_, rfl, trivial, ?_⟩
  refine go_gt hT rfl rfl rfl ?_
  refine go_t hT rfl rfl ?_
  exact go_ret hT [.bool false] rfl rfl ⟨rfl, trivial⟩ ⟨rfl, rfl⟩
theorem deliver_nil {w : World} {i : Int} : Calls Try.prog 27 #[.pointer none, .int .i64 i] w fun e w' => e = .returned (.tuple #[.agg #[.int .i64 0, .int .i64 0, .int .i64 0, .slice none 0 0], .bool false]) ∧ Ev no w w' := by
  refine enter hT [.pointer none, .int .i64 i] Try.func27 rfl rfl rfl ?_
  refine go_newB hT (.agg #[.int .i64 0, .int .i64 0, .int .i64 0, .slice none 0 0]) (cs := [.int .i64 0, .int .i64 0, .int .i64 0, .slice none 0 0]) rfl rfl (by kernel_rfl) rfl fun w1 g1 he1 hg1 hb1 => ⟨trivial, ?_⟩
  refine go_call hT rfl rfl (by kernel_rfl) rfl there_nil ?_
  rintro e w2 ⟨rfl, rfl⟩
  refine ⟨_, rfl, trivial, ?_⟩
  refine go_t hT rfl rfl ?_
  refine go_build hT #[.int .i64 0, .int .i64 0, .int .i64 0, .slice none 0 0] rfl rfl rfl (by kernel_rfl) rfl ?_
  refine go_staB hT [.int .i64 0, .int .i64 0, .int .i64 0, .slice none 0 0] rfl rfl rfl rfl rfl (by simp [Value.oneCell']) hb1 rfl fun w3 he3 hb3 => ⟨trivial, ?_⟩
  refine go_ret hT [.agg #[.int .i64 0, .int .i64 0, .int .i64 0, .slice none 0 0], .bool false] rfl rfl ⟨⟨_, rfl, run_loada hT rfl hb3.cells⟩, rfl, trivial⟩ ⟨rfl, he1.then he3 fun i hi h => ?_⟩
  simp only [at1] at h; omega
theorem all_nil {w : World} : Calls Try.prog 36 #[.pointer none] w fun e w' => e = .returned (.slice none 0 0) ∧ w = w' := by
  refine enter hT [.pointer none] Try.func36 rfl rfl rfl ?_
  refine go_call hT rfl rfl (by kernel_rfl) rfl len_nil ?_
  rintro e w1 ⟨rfl, rfl⟩
  refine ⟨_, rfl, trivial, ?_⟩
  refine go_loop hT [3, 6, 7] (fun x : Unit => [.slice none 0 0, .int .i64 0, .int .i64 0]) (fun x w' => w = w') (fun x _ => 0) () rfl rfl rfl ?_
  rintro ⟨⟩ w1 g1 rfl
  refine go_f hT rfl rfl ?_
  exact go_ret hT [.slice none 0 0] rfl rfl ⟨rfl, trivial⟩ ⟨rfl, rfl⟩
end Go.Proofs.Ytdconcindpfmcaa
end

section
/- Layer 18's laws: awake, Few, their scripts; a call on both nets. -/
set_option linter.unusedVariables false
set_option linter.unusedSimpArgs false
set_option maxRecDepth 100000
namespace Go.Proofs.Ytdconcindpfmcaa
open V A
theorem nawake_spec : FSpec Try.prog 24 [] [] fun a cs => a = .v (.bool true) 0 ∧ cs = [] := ⟨fun X S w xs h1 h2 h3 h4 => by
  unfold Reps at h4
  subst h4
  refine (awake_true w).mono ?_
  rintro e w' ⟨rfl, he⟩
  exact ⟨.bool true, .v (.bool true) 0, [], S, rfl, ⟨rfl, rfl⟩, A.mk_v, h3, he.mono fun b _ h => h.elim, fun b hb => .inl hb⟩⟩
def nopD (o : NOp) : List A.Dat := [.v (kI o.kind), .v (kI o.a), .v (kI o.b), .v (byV o.by_), A.bytesD o.bytes]
def nopA (o : NOp) : AV := .agg [.v (kI o.kind) 0, .v (kI o.a) 0, .v (kI o.b) 0, .v (byV o.by_) 0, .d (A.bytesD o.bytes)]
def nscr (l : List NOp) : AV := .d (.sl 5 (l.map nopD))
theorem nop_reads (ds : List V.Dat) (h : HasTys [.int .i64, .int .i64, .int .i64, .int .u8, .sl [.int .u8]] ds) : ∃ o : NOp, cvs ds = nopD o ∧ poss ds ∧ o.bytes.length ≤ reachBytes := by
  obtain ⟨d1, r, rfl, h1, h⟩ := h.cons
  obtain ⟨d2, r, rfl, h2, h⟩ := h.cons
  obtain ⟨d3, r, rfl, h3, h⟩ := h.cons
  obtain ⟨d4, r, rfl, h4, h⟩ := h.cons
  obtain ⟨d5, r, rfl, h5, h⟩ := h.cons
  cases h.nil
  obtain ⟨x1, rfl, _, _⟩ := h1.i64
  obtain ⟨x2, rfl, _, _⟩ := h2.i64
  obtain ⟨x3, rfl, _, _⟩ := h3.i64
  obtain ⟨y, rfl⟩ := h4.u8
  obtain ⟨l, hl, hp, hb⟩ := cv_bytes h5
  refine ⟨⟨x1, x2, x3, y, l⟩, ?_, ⟨trivial, trivial, trivial, trivial, hp, trivial⟩, hb⟩
  simp only [cvs, hl]
  rfl
theorem nfew_spec {l : List NOp} (hl : l.length ≤ reachBytes) (hb : ∀ o ∈ l, o.bytes.length ≤ reachBytes) : FSpec Try.prog 52 [nscr l] [] fun a cs => ∃ b, (b = true → l.length ≤ 500 ∧ ∀ o ∈ l, o.bytes.length ≤ 20000) ∧ a = .v (.bool b) 0 ∧ cs = [] := by
  refine a_enter hT [nscr l] [] Try.func52 rfl rfl rfl ⟨rfl, trivial⟩ fun c => ?_
  refine a_loop hT [0, 3, 6, 7] (fun x : Nat × Nat => [nscr l, .v (kI (x.2 : Int)) 0, .v (kI l.length) 0, .v (kI (x.1 : Int)) 0]) (fun _ => []) (fun x => x.1 ≤ l.length ∧ x.1 ≤ 500 ∧ x.2 ≤ 20000 ∧ ∀ o ∈ l.take x.1, o.bytes.length ≤ 20000) (fun x => l.length - x.1) (0, 0) [] rfl rfl ⟨by omega, by omega, by omega, by simp⟩
    ⟨rfl, rfl, by show Value.int .i64 ((l.map nopD).length : Int) = .int .i64 (l.length : Int); rw [List.length_map], rfl, trivial⟩ rfl trivial ?_
  rintro ⟨i, n⟩ ⟨h1, h2, h3, h4⟩
  dsimp only at h1 h2 h3 h4 ⊢
  refine a_if hT rfl rfl (fun hi => ?_) (fun hi => ?_)
  · have hi : (i : Int) < l.length := of_decide_eq_true hi
    have hi' : i < l.length := by omega
    have hd : (l.map nopD)[((i : Nat) : Int).toNat]? = some (nopD l[i]) := by simp [hi']
    have hbi := hb l[i] (List.getElem_mem hi')
    have htk : l.take (i + 1) = l.take i ++ [l[i]] := by rw [List.take_append_getElem hi']
    generalize l[i] = o at hd hbi htk
    have hsum : IntKind.i64.wrap ((n : Int) + ((o.bytes.map eB).length : Int)) = ((n + o.bytes.length : Nat) : Int) := by
      rw [List.length_map, w64 (by omega) (by unfold reachBytes at hbi; omega)]
      rfl
    have hw : IntKind.i64.wrap ((i : Int) + 1) = ((i + 1 : Nat) : Int) := by unfold reachBytes at hl; rw [w64 (by omega) (by omega)]; omega
    refine a_ix hT (nopD o) rfl rfl rfl rfl rfl rfl (by omega) hd ?_
    refine a_g hT rfl rfl rfl (fun h => ?_) (fun h => ?_)
    · refine a_t hT rfl rfl rfl ?_
      refine a_ret hT [] rfl rfl rfl rfl rfl rfl ?_
      exact ⟨false, fun h => (nomatch h), rfl, rfl⟩
    · have h : ¬ (i : Int) ≥ 500 := of_decide_eq_false h
      refine a_if hT rfl rfl (fun h5 => ?_) (fun h5 => ?_)
      · refine a_ret hT [] rfl rfl rfl rfl rfl rfl ?_
        exact ⟨false, fun h => (nomatch h), rfl, rfl⟩
      · have h5 : ¬ IntKind.i64.wrap ((n : Int) + ((o.bytes.map eB).length : Int)) > 20000 := of_decide_eq_false h5
        rw [hsum] at h5
        refine a_next hT (i + 1, n + o.bytes.length) [] rfl rfl ⟨⟨by show i + 1 ≤ l.length; omega, by show i + 1 ≤ 500; omega, by show n + o.bytes.length ≤ 20000; omega, ?_⟩, by show l.length - (i + 1) < l.length - i; omega⟩ ⟨rfl, congrArg (Value.int .i64) hsum, rfl, congrArg (Value.int .i64) hw, trivial⟩ rfl trivial
        intro q hq
        have hq : q ∈ l.take (i + 1) := hq
        rw [htk] at hq
        rcases List.mem_append.1 hq with hq | hq
        · exact h4 q hq
        · simp at hq; subst hq; omega
  · have hi : ¬ (i : Int) < l.length := of_decide_eq_false hi
    have e : i = l.length := by omega
    subst e
    rw [List.take_length] at h4
    refine a_ret hT [] rfl rfl rfl rfl rfl rfl ?_
    exact ⟨true, fun _ => ⟨h2, h4⟩, rfl, rfl⟩
def stepN (N : NN) (o : NOp) : NN :=
  if o.kind = 1 then (sendN N o.a o.b o.bytes).1 else if o.kind = 2 then (dropN N o.a).1 else if o.kind = 3 then (doubleN N o.a).1 else if o.kind = 4 then (deliverN N o.a).1 else if o.kind = 5 then (damageN N o.a o.b o.by_).1 else if o.kind = 6 then (moveN N o.a o.b).1 else N
theorem pkAt_le {N : NN} (hN : N.ok) (i : Int) : (pkAt N i).by_.length ≤ 20000 := by
  unfold pkAt
  rw [List.getD_eq_getElem?_getD]
  cases h : N.l[i.toNat]? with
  | none => decide
  | some p => exact hN.b p (List.mem_of_getElem? h)
theorem sendN_ok {N : NN} (hN : N.ok) {fr to : Int} {b : List UInt8} (hb : b.length ≤ 20000) : (sendN N fr to b).1.ok ∧ (sendN N fr to b).1.last ≤ N.last + 1 := by
  have h0 := hN.l0
  unfold sendN
  split
  · exact ⟨hN, by show N.last ≤ _; omega⟩
  · rename_i h
    refine ⟨⟨by show 0 ≤ N.last + 1; omega, by show (N.l ++ [_]).length ≤ 200; rw [List.length_append]; simp only [List.length_cons, List.length_nil]; omega, fun p hp => ?_⟩, Int.le_refl _⟩
    rcases List.mem_append.1 hp with hp | hp
    · exact hN.b p hp
    · simp at hp; subst hp; exact hb
theorem stepN_ok {N : NN} (hN : N.ok) {o : NOp} (hb : o.bytes.length ≤ 20000) : (stepN N o).ok ∧ (stepN N o).last ≤ N.last + 1 := by
  have h0 := hN.l0
  have hq := hN.q
  have hself : N.ok ∧ N.last ≤ N.last + 1 := ⟨hN, by omega⟩
  have herase : ∀ i : Nat, (⟨N.last, N.l.eraseIdx i⟩ : NN).ok := fun i => ⟨h0, Nat.le_trans (List.length_eraseIdx_le _ _) hq, fun p hp => hN.b p (List.mem_of_mem_eraseIdx hp)⟩
  unfold stepN
  split
  · exact sendN_ok hN hb
  split
  · unfold dropN
    split
    · exact ⟨herase _, by show N.last ≤ _; omega⟩
    · exact hself
  split
  · unfold doubleN
    split
    · exact sendN_ok hN (pkAt_le hN _)
    · exact hself
  split
  · unfold deliverN
    split
    · exact ⟨herase _, by show N.last ≤ _; omega⟩
    · exact hself
  split
  · unfold damageN
    split
    · refine ⟨⟨h0, by show (N.l.set _ _).length ≤ 200; rw [List.length_set]; exact hq, fun p hp => ?_⟩, by show N.last ≤ _; omega⟩
      rcases List.mem_or_eq_of_mem_set hp with hp | rfl
      · exact hN.b p hp
      · show (xorB _ _ _).length ≤ 20000
        unfold xorB
        rw [List.length_set]
        exact pkAt_le hN _
    · exact hself
  split
  · unfold moveN
    split
    · rename_i h
      have h1 := h.1.1
      have h2 := h.1.2
      have hi : o.a.toNat < N.l.length := by omega
      have hl : (N.l.eraseIdx o.a.toNat).length = N.l.length - 1 := List.length_eraseIdx_of_lt hi
      refine ⟨⟨h0, by show (_ ++ _ :: _).length ≤ 200; simp only [List.length_append, List.length_cons, List.length_take, List.length_drop]; omega, fun p hp => ?_⟩, by show N.last ≤ _; omega⟩
      rcases List.mem_append.1 hp with hp | hp
      · exact hN.b p (List.mem_of_mem_eraseIdx (List.mem_of_mem_take hp))
      · rcases List.mem_cons.1 hp with rfl | hp
        · exact pkAt_le hN _
        · exact hN.b p (List.mem_of_mem_eraseIdx (List.mem_of_mem_drop hp))
    · exact hself
  · exact hself
theorem nstep_spec {g r h h2 : Nat} {N : NN} {o : NOp} (hN : N.ok) (hl : N.last < 900000) (hb : o.bytes.length ≤ 20000) : FSpec Try.prog 53 [ptrA g h, ptrA r h2, nopA o] [.ext (netQ g N), .ext (refQ r N)]
    fun a cs => a = .v (.bool true) 0 ∧ cs = [.ext (netQ g (stepN N o)), .ext (refQ r (stepN N o))] := by
  refine a_enter hT [ptrA g 10, ptrA r 11, nopA o] [10, 11] Try.func53 rfl rfl rfl ⟨rfl, rfl, ⟨rfl, rfl, rfl, rfl, rfl, trivial⟩, trivial⟩ fun c => ?_
  refine a_box hT 20 rfl rfl rfl rfl fun g1 => ?_
  have b1 : o.bytes.length ≤ lim := Nat.le_trans hb (by decide)
  refine a_if hT rfl rfl (fun h => ?_) (fun h => ?_)
  · have h := eq_of_beq h
    refine a_call hT rfl rfl rfl (by kernel_rfl) (nsendQ (g := g) (h := 10) (h1 := 0) (h2 := 0) (fr := o.a) (to := o.b) hN b1 (by omega)) [10] [10] rfl rfl ?_
    rintro _ _ ⟨N', ⟨rfl, rfl⟩, rfl⟩
    refine a_call hT rfl rfl rfl (by kernel_rfl) (rsendQ (g := r) (h := 11) (h1 := 0) (h2 := 0) (fr := o.a) (to := o.b) hN b1 (by omega)) [11] [11] rfl rfl ?_
    rintro _ _ ⟨N', ⟨rfl, rfl⟩, rfl⟩
    refine a_g hT rfl rfl rfl (fun h1 => ?_) (fun h1 => ?_)
    · have h1 := eq_of_beq h1
      refine a_ret hT [10, 11] rfl rfl rfl rfl rfl rfl ?_
      exact ⟨by show AV.v (.bool (_ == _)) 0 = _; rw [beq_self_eq_true], by unfold stepN; rw [if_pos h]⟩
    · have h1 := ne_of_beq_false h1
      (exfalso; first | omega | contradiction)
  · have h := ne_of_beq_false h
    refine a_if hT rfl rfl (fun h2 => ?_) (fun h2 => ?_)
    · have h2 := eq_of_beq h2
      refine a_draw hT [10, 11] false [(0, false), (1, false), (2, false), (4, false), (5, false), (6, false), (3, true), (7, true), (8, true), (9, true)] rfl rfl (by kernel_rfl) (by kernel_rfl) rfl ?_
      refine a_call hT rfl rfl rfl (by kernel_rfl) (ndropQ (g := g) (h := 10) (h1 := 0) (i := o.a) hN) [10] [10] rfl rfl ?_
      rintro _ _ ⟨N', ⟨rfl, rfl⟩, rfl⟩
      refine a_call hT rfl rfl rfl (by kernel_rfl) (rdropQ (g := r) (h := 11) (h1 := 0) (i := o.a) hN) [11] [11] rfl rfl ?_
      rintro _ _ ⟨N', ⟨rfl, rfl⟩, rfl⟩
      refine a_ret hT [10, 11] rfl rfl rfl rfl rfl rfl ?_
      exact ⟨by show AV.v (.bool (_ == _)) 0 = _; rw [beq_self_eq_true], by unfold stepN; rw [if_neg h, if_pos h2]⟩
    · have h2 := ne_of_beq_false h2
      refine a_if hT rfl rfl (fun h3 => ?_) (fun h3 => ?_)
      · have h3 := eq_of_beq h3
        refine a_call hT rfl rfl rfl (by kernel_rfl) (ndoubleQ (g := g) (h := 10) (h1 := 0) (i := o.a) hN (by omega)) [10] [10] rfl rfl ?_
        rintro _ _ ⟨N', ⟨rfl, rfl⟩, rfl⟩
        refine a_call hT rfl rfl rfl (by kernel_rfl) (rdoubleQ (g := r) (h := 11) (h1 := 0) (i := o.a) hN (by omega)) [11] [11] rfl rfl ?_
        rintro _ _ ⟨N', ⟨rfl, rfl⟩, rfl⟩
        refine a_g hT rfl rfl rfl (fun h1 => ?_) (fun h1 => ?_)
        · have h1 := eq_of_beq h1
          refine a_ret hT [10, 11] rfl rfl rfl rfl rfl rfl ?_
          exact ⟨by show AV.v (.bool (_ == _)) 0 = _; rw [beq_self_eq_true], by unfold stepN; rw [if_neg h, if_neg h2, if_pos h3]⟩
        · have h1 := ne_of_beq_false h1
          (exfalso; first | omega | contradiction)
      · have h3 := ne_of_beq_false h3
        refine a_if hT rfl rfl (fun h4 => ?_) (fun h4 => ?_)
        · have h4 := eq_of_beq h4
          refine a_call hT rfl rfl rfl (by kernel_rfl) (ndeliverQ (g := g) (h := 10) (h1 := 0) (i := o.a) hN) [10] [10] rfl rfl ?_
          rintro _ _ ⟨N', ⟨rfl, rfl⟩, rfl⟩
          refine a_new hT hZ 21 rfl rfl rfl rfl fun g2 => ?_
          refine a_call hT rfl rfl rfl (by kernel_rfl) (rdeliverQ (g := r) (h := 11) (h1 := 0) (i := o.a) hN) [11] [11] rfl rfl ?_
          rintro _ _ ⟨N', ⟨rfl, rfl⟩, rfl⟩
          refine a_new hT hZ 22 rfl rfl rfl rfl fun g3 => ?_
          have hbb : ((deliverN N o.a).2.2 == (deliverN N o.a).2.2) = true := beq_self_eq_true _
          refine a_treeN hT [6] (fun _ : Unit => [.v (.bool true) 0]) (fun _ => [(10, .ext (netQ g (deliverN N o.a).1)), (11, .ext (refQ r (deliverN N o.a).1))]) (fun _ => True) [] 12 [(0, false), (1, false), (2, false), (3, false), (4, false), (7, false)] rfl rfl (by kernel_rfl) (by kernel_rfl) rfl ?_ ?_
          · generalize (deliverN N o.a).2.1 = pk
            generalize (deliverN N o.a).2.2 = bb at hbb ⊢
            refine a_g hT rfl rfl rfl (fun h1 => ?_) (fun h1 => ?_)
            · have h1 := eq_of_beq h1
              refine a_alt hT [([(5, true)], false), ([(8, true), (5, true), (6, true), (9, true), (10, true), (11, true)], true)] rfl rfl (by kernel_rfl) ⟨?_, ?_, trivial⟩
              · refine a_lit hT 23 rfl rfl rfl rfl (by kernel_rfl) rfl rfl rfl rfl fun x23 => ?_
                refine a_alt hT [([(6, true), (8, true), (9, true), (10, true), (11, true)], true), ([(8, true), (6, true), (9, true), (10, true), (11, true)], true)] rfl rfl (by kernel_rfl) ⟨?_, ?_, trivial⟩
                · refine a_freezeR 109 23 rfl rfl rfl rfl ?_
                  refine a_callF hT rfl rfl rfl (by kernel_rfl) (packets_spec (l := [pk]) (by simp)) [] [] ⟨rfl, trivial⟩ rfl trivial ?_
                  rintro _ _ ⟨rfl, rfl⟩
                  refine a_lit hT 24 rfl rfl rfl rfl (by kernel_rfl) rfl rfl rfl rfl fun x24 => ?_
                  refine a_freezeR 112 24 rfl rfl rfl rfl ?_
                  refine a_callF hT rfl rfl rfl (by kernel_rfl) (samePk_spec (l := [pk]) (by simp)) [] [] ⟨rfl, rfl, trivial⟩ rfl trivial ?_
                  rintro _ _ ⟨rfl, rfl⟩
                  exact a_next hT () [10, 11] rfl rfl trivial ⟨rfl, trivial⟩ rfl ⟨rfl, rfl, trivial⟩
                · refine a_lit hT 24 rfl rfl rfl rfl (by kernel_rfl) rfl rfl rfl rfl fun x24 => ?_
                  refine a_freezeR 109 23 rfl rfl rfl rfl ?_
                  refine a_callF hT rfl rfl rfl (by kernel_rfl) (packets_spec (l := [pk]) (by simp)) [] [] ⟨rfl, trivial⟩ rfl trivial ?_
                  rintro _ _ ⟨rfl, rfl⟩
                  refine a_freezeR 112 24 rfl rfl rfl rfl ?_
                  refine a_callF hT rfl rfl rfl (by kernel_rfl) (samePk_spec (l := [pk]) (by simp)) [] [] ⟨rfl, rfl, trivial⟩ rfl trivial ?_
                  rintro _ _ ⟨rfl, rfl⟩
                  exact a_next hT () [10, 11] rfl rfl trivial ⟨rfl, trivial⟩ rfl ⟨rfl, rfl, trivial⟩
              · refine a_lit hT 23 rfl rfl rfl rfl (by kernel_rfl) rfl rfl rfl rfl fun x23 => ?_
                refine a_lit hT 24 rfl rfl rfl rfl (by kernel_rfl) rfl rfl rfl rfl fun x24 => ?_
                refine a_freezeR 109 24 rfl rfl rfl rfl ?_
                refine a_callF hT rfl rfl rfl (by kernel_rfl) (packets_spec (l := [pk]) (by simp)) [] [] ⟨rfl, trivial⟩ rfl trivial ?_
                rintro _ _ ⟨rfl, rfl⟩
                refine a_freezeR 112 23 rfl rfl rfl rfl ?_
                refine a_callF hT rfl rfl rfl (by kernel_rfl) (samePk_spec (l := [pk]) (by simp)) [] [] ⟨rfl, rfl, trivial⟩ rfl trivial ?_
                rintro _ _ ⟨rfl, rfl⟩
                exact a_next hT () [10, 11] rfl rfl trivial ⟨rfl, trivial⟩ rfl ⟨rfl, rfl, trivial⟩
            · have h1 := ne_of_beq_false h1
              (exfalso; first | omega | contradiction)
          · rintro ⟨⟩ _
            refine a_ret hT [10, 11] rfl rfl rfl rfl rfl rfl ?_
            exact ⟨rfl, by unfold stepN; rw [if_neg h, if_neg h2, if_neg h3, if_pos h4]⟩
        · have h4 := ne_of_beq_false h4
          refine a_if hT rfl rfl (fun h5 => ?_) (fun h5 => ?_)
          · have h5 := eq_of_beq h5
            refine a_draw hT [10, 11] false [(0, false), (1, false), (2, false), (3, false), (4, false), (5, false), (6, false), (8, false), (9, false), (10, false), (11, false), (12, false), (13, false), (14, false), (7, true), (15, true), (16, true), (17, true)] rfl rfl (by kernel_rfl) (by kernel_rfl) rfl ?_
            refine a_call hT rfl rfl rfl (by kernel_rfl) (ndamageQ (g := g) (h := 10) (h1 := 0) (h2 := 0) (i := o.a) (j := o.b) (b := o.by_) hN) [10] [10] rfl rfl ?_
            rintro _ _ ⟨N', ⟨rfl, rfl⟩, rfl⟩
            refine a_call hT rfl rfl rfl (by kernel_rfl) (rdamageQ (g := r) (h := 11) (h1 := 0) (h2 := 0) (i := o.a) (j := o.b) (b := o.by_) hN) [11] [11] rfl rfl ?_
            rintro _ _ ⟨N', ⟨rfl, rfl⟩, rfl⟩
            refine a_ret hT [10, 11] rfl rfl rfl rfl rfl rfl ?_
            exact ⟨by show AV.v (.bool (_ == _)) 0 = _; rw [beq_self_eq_true], by unfold stepN; rw [if_neg h, if_neg h2, if_neg h3, if_neg h4, if_pos h5]⟩
          · have h5 := ne_of_beq_false h5
            refine a_if hT rfl rfl (fun h6 => ?_) (fun h6 => ?_)
            · have h6 := eq_of_beq h6
              refine a_draw hT [10, 11] false [(0, false), (1, false), (2, false), (3, false), (4, false), (6, false), (7, false), (8, false), (9, false), (10, false), (5, true), (11, true), (12, true), (13, true)] rfl rfl (by kernel_rfl) (by kernel_rfl) rfl ?_
              refine a_call hT rfl rfl rfl (by kernel_rfl) (nmoveQ (g := g) (h := 10) (h1 := 0) (h2 := 0) (i := o.a) (k := o.b) hN) [10] [10] rfl rfl ?_
              rintro _ _ ⟨N', ⟨rfl, rfl⟩, rfl⟩
              refine a_call hT rfl rfl rfl (by kernel_rfl) (rmoveQ (g := r) (h := 11) (h1 := 0) (h2 := 0) (i := o.a) (k := o.b) hN) [11] [11] rfl rfl ?_
              rintro _ _ ⟨N', ⟨rfl, rfl⟩, rfl⟩
              refine a_ret hT [10, 11] rfl rfl rfl rfl rfl rfl ?_
              exact ⟨by show AV.v (.bool (_ == _)) 0 = _; rw [beq_self_eq_true], by unfold stepN; rw [if_neg h, if_neg h2, if_neg h3, if_neg h4, if_neg h5, if_pos h6]⟩
            · have h6 := ne_of_beq_false h6
              refine a_ret hT [10, 11] rfl rfl rfl rfl rfl rfl ?_
              exact ⟨rfl, by unfold stepN; rw [if_neg h, if_neg h2, if_neg h3, if_neg h4, if_neg h5, if_neg h6]⟩
end Go.Proofs.Ytdconcindpfmcaa
end
