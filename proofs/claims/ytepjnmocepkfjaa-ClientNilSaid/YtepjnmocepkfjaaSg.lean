/- Maps of one kind of entries: kv tells a key, va a value. It holds of any program. -/
import Derived.Test.YtepjnmocepkfjaaS
set_option linter.unusedVariables false
set_option linter.unusedSectionVars false
set_option linter.unusedSimpArgs false
namespace Go.Proofs.Ytepjnmocepkfjaa.A
open V

def mapG {κ β : Type} (kv : κ → Value) (va : β → AV) (l : List (κ × β)) : List (Value × AV) := l.map fun p => (kv p.1, va p.2)
def iterG {κ β : Type} (kv : κ → Value) (va : β → AV) (l : List (Bool × (κ × β))) : List (Bool × (Value × AV)) := l.map fun q => (q.1, (kv q.2.1, va q.2.2))
theorem mapE_map {κ β : Type} (kv : κ → Value) (va : β → AV) (l : List (κ × β)) : mapE kv (l.map fun p => (p.1, va p.2)) = mapG kv va l := by unfold mapE mapG; rw [List.map_map]; rfl
theorem aget_map {κ β γ : Type} [DecidableEq κ] (g : β → γ) : ∀ (l : List (κ × β)) (k : κ), aget (l.map fun p => (p.1, g p.2)) k = (aget l k).map g
  | [], k => rfl
  | p :: l, k => by
    obtain ⟨j, v⟩ := p
    simp only [List.map_cons, aget]
    split
    · rfl
    · exact aget_map g l k
theorem aput_map {κ β γ : Type} [DecidableEq κ] (g : β → γ) : ∀ (l : List (κ × β)) (k : κ) (v : β), aput (l.map fun p => (p.1, g p.2)) k (g v) = (aput l k v).map fun p => (p.1, g p.2)
  | [], k, v => rfl
  | p :: l, k, v => by
    obtain ⟨j, u⟩ := p
    simp only [List.map_cons, aput]
    split
    · rfl
    · rw [List.map_cons, aput_map g l k v]
theorem adel_map {κ β γ : Type} [DecidableEq κ] (g : β → γ) : ∀ (l : List (κ × β)) (k : κ), adel (l.map fun p => (p.1, g p.2)) k = (adel l k).map fun p => (p.1, g p.2)
  | [], k => rfl
  | p :: l, k => by
    obtain ⟨j, u⟩ := p
    simp only [List.map_cons, adel]
    split
    · rfl
    · rw [List.map_cons, adel_map g l k]
theorem idel_map {κ β γ : Type} [DecidableEq κ] (g : β → γ) : ∀ (l : List (Bool × (κ × β))) (k : κ), idel (l.map fun q => (q.1, (q.2.1, g q.2.2))) k = (idel l k).map fun q => (q.1, (q.2.1, g q.2.2))
  | [], k => rfl
  | q :: l, k => by
    simp only [List.map_cons, idel]
    split
    · rfl
    · rw [List.map_cons, idel_map g l k]

section
variable {P : Program} {L : List TD} {n : Nat} {Q : Exit → Act → World → Prop} {c : Ctx}
variable {s : AMS} {f f' : AEnv} {σ σ' : Store} {ob : Obs} {κ : List Kt} {all : Array Oper} {dec : List Nat} {o : Oper} {al : Bool} {rest : List (Oper × Bool)} {m : Mode}
variable {κ' β : Type} [DecidableEq κ'] {kv : κ' → Value} {va : β → AV}

theorem a_lookG (hT : TOk P L) {t kt et : TypeId} {x y : Operand} {r r' h0 hk0 : Nat} {es : List (Value × AV)} {z : Value} (l : List (κ' × β)) (k : κ') (res : Option β) {ok : Bool} (h : machA L n fuel s f σ [] = ⟨.op m κ all dec o true rest, f', σ', ob⟩) (hob : ob.map (·.1) = ob.map (·.2)) (ho : o.op = .lookup t x y ok) (ht : mapT P t kt et = true) (hko : KeyOk P kt kv) (hz : (P.info? et).map (·.zero) = some (some z))
    (hx : evA n f' x = .v (.map (some r)) h0) (hl : look σ' h0 = some (.map r' es)) (hrr : r = r') (hes : es = mapG kv va l) (hy : evN n f' y = .v (kv k) hk0) (hres : aget l k = res)
    (hk : DenA c P n Q (.ops (m.hap true) κ all dec rest) (putA f' o.dst (if ok then .tup [(res.map va).getD (cAV z), .v (.bool res.isSome) 0] else (res.map va).getD (cAV z))) σ') : DenA c P n Q s f σ := by
  have := a_look (Q := Q) (c := c) hT (l.map fun p => (p.1, va p.2)) k (res.map va) h hob ho ht hko hz hx hl hrr (by rw [mapE_map]; exact hes) hy (by rw [aget_map, hres])
  refine this ?_
  have e : (res.map va).isSome = res.isSome := by cases res <;> rfl
  rw [e]
  exact hk
theorem a_mputG (hT : TOk P L) {t kt et : TypeId} {x y u : Operand} {r r' h0 hk0 : Nat} {es : List (Value × AV)} (l : List (κ' × β)) (k : κ') (b : β) (h : machA L n fuel s f σ [] = ⟨.op m κ all dec o true rest, f', σ', ob⟩) (hob : ob.map (·.1) = ob.map (·.2)) (ho : o.op = .mapUpdate t x y u) (ht : mapT P t kt et = true) (hko : KeyOk P kt kv)
    (hx : evA n f' x = .v (.map (some r)) h0) (hl : look σ' h0 = some (.map r' es)) (hrr : r = r') (hes : es = mapG kv va l) (hy : evN n f' y = .v (kv k) hk0) (hv : evA n f' u = va b)
    (hk : DenA c P n Q (.ops (m.hap true) κ all dec rest) (putA f' o.dst (.v undef 0)) (upd σ' h0 (.map r' (mapG kv va (aput l k b))))) : DenA c P n Q s f σ := by
  refine a_mput hT (l.map fun p => (p.1, va p.2)) k h hob ho ht hko hx hl hrr (by rw [mapE_map]; exact hes) hy ?_
  rw [hv, aput_map, mapE_map]
  exact hk
theorem a_mdelG (hT : TOk P L) {t kt et : TypeId} {x y : Operand} {ts : Array TypeId} {r r' h0 hk0 : Nat} {es : List (Value × AV)} (l : List (κ' × β)) (k : κ') (h : machA L n fuel s f σ [] = ⟨.op m κ all dec o true rest, f', σ', ob⟩) (hob : ob.map (·.1) = ob.map (·.2)) (ho : o.op = .call ⟨.builtin .delete, #[x, y], ts⟩) (hts : ts[0]? = some t) (ht : mapT P t kt et = true) (hko : KeyOk P kt kv)
    (hx : evA n f' x = .v (.map (some r)) h0) (hl : look σ' h0 = some (.map r' es)) (hrr : r = r') (hes : es = mapG kv va l) (hy : evN n f' y = .v (kv k) hk0)
    (hk : DenA c P n Q (.ops (m.hap true) κ all dec rest) (putA f' o.dst (.v (.tuple #[]) 0)) (upd σ' h0 (.map r' (mapG kv va (adel l k))))) : DenA c P n Q s f σ := by
  refine a_mdel hT (l.map fun p => (p.1, va p.2)) k h hob ho hts ht hko hx hl hrr (by rw [mapE_map]; exact hes) hy ?_
  rw [adel_map, mapE_map]
  exact hk
theorem a_rangeG (hT : TOk P L) {t kt et : TypeId} {x : Operand} {r r' h0 : Nat} {es : List (Value × AV)} (l : List (κ' × β)) (h : machA L n fuel s f σ [] = ⟨.op m κ all dec o true rest, f', σ', ob⟩) (hob : ob.map (·.1) = ob.map (·.2)) (ho : o.op = .range t x) (ht : mapT P t kt et = true)
    (hx : evA n f' x = .v (.map (some r)) h0) (hl : look σ' h0 = some (.map r' es)) (hrr : r = r') (hes : es = mapG kv va l)
    (hk : ∀ it, DenA c P n Q (.ops (m.hap true) κ all dec rest) (putA f' o.dst (.v (.pointer (some ⟨it, 0, none⟩)) h0)) ((h0, .ext (iterA r' it (iterG kv va (l.map fun p => (false, p))) none)) :: del σ' h0)) : DenA c P n Q s f σ := by
  refine a_range hT h hob ho ht hx hl hrr fun it => ?_
  have e : es.map (fun p => (false, p)) = iterG kv va (l.map fun p => (false, p)) := by
    rw [hes]; unfold mapG iterG; rw [List.map_map, List.map_map]; rfl
  rw [e]
  exact hk it
theorem a_inextG (hT : TOk P L) {x : Operand} {r it it' h0 : Nat} {st : List (Bool × (Value × AV))} {cur : Option (Value × AV)} (l : List (Bool × (κ' × β))) (h : machA L n fuel s f σ [] = ⟨.op m κ all dec o true rest, f', σ', ob⟩) (hob : ob.map (·.1) = ob.map (·.2)) (ho : o.op = .next x false)
    (hx : evA n f' x = .v (.pointer (some ⟨it, 0, none⟩)) h0) (hl : look σ' h0 = some (.ext (iterA r it' st cur))) (hii : it = it') (hst : st = iterG kv va l)
    (hk1 : (∀ q ∈ l, q.1 = true) → DenA c P n Q (.ops (m.hap true) κ all dec rest) (putA f' o.dst (.tup [.v (.bool false) 0])) σ')
    (hk2 : ∀ i k b, l[i]? = some (false, (k, b)) → DenA c P n Q (.ops (m.hap true) κ all dec rest) (putA f' o.dst (.tup [.v (.bool true) 0, .v (kv k) 0, va b])) ((h0, .ext (iterA r it' (iterG kv va (l.set i (true, (k, b)))) (some (kv k, va b)))) :: del σ' h0)) : DenA c P n Q s f σ := by
  refine a_inext hT h hob ho hx hl hii (fun hq => hk1 fun q hq' => ?_) (fun i p hi => ?_)
  · have := hq (q.1, (kv q.2.1, va q.2.2)) (by rw [hst]; unfold iterG; exact List.mem_map.2 ⟨q, hq', rfl⟩)
    exact this
  · rw [hst] at hi ⊢
    unfold iterG at hi
    rw [List.getElem?_map] at hi
    obtain ⟨q, hq, e⟩ := Option.map_eq_some_iff.1 hi
    obtain ⟨b0, k, b⟩ := q
    cases e
    have := hk2 i k b hq
    have e : iterG kv va (l.set i (true, (k, b))) = (iterG kv va l).set i (true, (kv k, va b)) := by unfold iterG; rw [List.map_set]
    rw [e] at this
    exact this
theorem a_idelG (hT : TOk P L) {t kt et : TypeId} {x y : Operand} {ts : Array TypeId} {r r' it h0 hk0 : Nat} {st : List (Bool × (Value × AV))} {cur : Option (Value × AV)} (l : List (Bool × (κ' × β))) (k : κ') (h : machA L n fuel s f σ [] = ⟨.op m κ all dec o true rest, f', σ', ob⟩) (hob : ob.map (·.1) = ob.map (·.2)) (ho : o.op = .call ⟨.builtin .delete, #[x, y], ts⟩) (hts : ts[0]? = some t) (ht : mapT P t kt et = true) (hko : KeyOk P kt kv)
    (hx : evA n f' x = .v (.map (some r)) h0) (hl : look σ' h0 = some (.ext (iterA r' it st cur))) (hrr : r = r') (hes : st = iterG kv va l) (hy : evN n f' y = .v (kv k) hk0)
    (hk : DenA c P n Q (.ops (m.hap true) κ all dec rest) (putA f' o.dst (.v (.tuple #[]) 0)) (upd σ' h0 (.ext (iterA r' it (iterG kv va (idel l k)) none)))) : DenA c P n Q s f σ := by
  have e0 : ∀ l : List (Bool × (κ' × β)), iterE kv (l.map fun q => (q.1, (q.2.1, va q.2.2))) = iterG kv va l := fun l => by unfold iterE iterG; rw [List.map_map]; rfl
  refine a_idel hT (l.map fun q => (q.1, (q.2.1, va q.2.2))) k h hob ho hts ht hko hx hl hrr (by rw [e0]; exact hes) hy ?_
  rw [idel_map, e0]
  exact hk
theorem a_iendG (h0 : Nat) {r it : Nat} {st : List (Bool × (Value × AV))} {cur : Option (Value × AV)} (l : List (Bool × (κ' × β))) (hst : s.still = true) (hl : look σ h0 = some (.ext (iterA r it st cur))) (hs : st = iterG kv va l) (hk : DenA c P n Q s f ((h0, .map r (mapG kv va (l.map (·.2)))) :: del σ h0)) : DenA c P n Q s f σ := by
  refine a_iend h0 hst hl ?_
  have e : st.map (·.2) = mapG kv va (l.map (·.2)) := by rw [hs]; unfold iterG mapG; rw [List.map_map, List.map_map]; rfl
  rw [e]
  exact hk
end
/-- As many as haven't come. -/
def left {α : Type} (l : List (Bool × α)) : Nat := (l.filter fun q => !q.1).length
theorem left_set {α : Type} : ∀ {l : List (Bool × α)} {i : Nat} {a : α}, l[i]? = some (false, a) → ∀ b, left (l.set i (true, b)) + 1 = left l
  | [], i, a, h, b => by simp at h
  | q :: l, 0, a, h, b => by simp at h; subst h; simp [left]
  | q :: l, i + 1, a, h, b => by
    have := left_set (l := l) (i := i) (a := a) (by simpa using h) b
    unfold left at this ⊢
    rw [List.set_cons_succ, List.filter_cons, List.filter_cons]
    split
    · simp; omega
    · exact this
theorem left_sub {α : Type} {l l' : List (Bool × α)} (h : l'.Sublist l) : left l' ≤ left l := (h.filter _).length_le
end Go.Proofs.Ytepjnmocepkfjaa.A
