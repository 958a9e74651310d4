/- Maps: made, asked, turned, gone through. It holds of any program. -/
import Derived.Test.YtepjnmocepkfjaaI
set_option linter.unusedVariables false
set_option linter.unusedSimpArgs false
namespace Go.Proofs.Ytepjnmocepkfjaa.A
open V

def mapE {κ : Type} (kv : κ → Value) (l : List (κ × AV)) : List (Value × AV) := l.map fun p => (kv p.1, p.2)
def aget {κ β : Type} [DecidableEq κ] : List (κ × β) → κ → Option β
  | [], _ => none
  | (j, v) :: l, k => if j = k then some v else aget l k
def aput {κ β : Type} [DecidableEq κ] : List (κ × β) → κ → β → List (κ × β)
  | [], k, v => [(k, v)]
  | (j, u) :: l, k, v => if j = k then (j, v) :: l else (j, u) :: aput l k v
def adel {κ β : Type} [DecidableEq κ] : List (κ × β) → κ → List (κ × β)
  | [], _ => []
  | (j, u) :: l, k => if j = k then l else (j, u) :: adel l k
def aidx {κ : Type} [DecidableEq κ] : List κ → κ → Option Nat
  | [], _ => none
  | j :: l, k => if j = k then some 0 else (aidx l k).map (· + 1)
/-- What a map's keys are. -/
structure KeyOk (P : Program) (kt : TypeId) {κ : Type} [DecidableEq κ] (kv : κ → Value) : Prop where
  fnd : ∀ (w : World) (k : κ) (ks : List κ) (es : List MapEntry), es.map (·.key) = ks.map kv → (Instr.findKey kt (kv k) es).run P w = .ok ((aidx ks k).bind fun i => (es[i]?).map fun e => (i, e.val)) w
  chk : ∀ (w : World) (b : Bool) (k : κ), (Instr.checkKey b 10000 kt (kv k)).run P w = .ok () w
  bits : ∀ k, Instr.sameBits 10000 (kv k) (kv k) = true
theorem fnd_now {P : Program} {kt : TypeId} {κ : Type} [DecidableEq κ] {kv : κ → Value} {d : TypeDesc} (hu : P.underlying kt = some d) (hs : ∀ a b, Instr.sameNow d (kv a) (kv b) = some (decide (a = b))) (w : World) (k : κ) (ks : List κ) (es : List MapEntry) (h : es.map (·.key) = ks.map kv) :
    (Instr.findKey kt (kv k) es).run P w = .ok ((aidx ks k).bind fun i => (es[i]?).map fun e => (i, e.val)) w := by
  have key : ∀ (ks : List κ) (es : List MapEntry) (i : Nat), es.map (·.key) = ks.map kv → Instr.findNow d (kv k) es i = some ((aidx ks k).bind fun j => (es[j]?).map fun e => (i + j, e.val)) := by
    intro ks
    induction ks with
    | nil => intro es i h; simp at h; subst h; rfl
    | cons j ks ih =>
      intro es i h
      cases es with
      | nil => simp at h
      | cons e es =>
        simp only [List.map_cons, List.cons.injEq] at h
        unfold Instr.findNow
        rw [h.1, hs]
        unfold aidx
        by_cases hk : k = j
        · subst hk; simp
        · have hk' : ¬ j = k := fun e => hk e.symm
          simp only [hk, hk', decide_false, if_false]
          rw [ih es (i + 1) h.2]
          cases aidx ks k with
          | none => rfl
          | some m => simp [show i + 1 + m = i + (m + 1) by omega]
  unfold Instr.findKey
  simp only [Sem.run_bind, run_underlying hu, Result.andThen_ok]
  rw [key ks es 0 h]
  simp
theorem key_int {P : Program} {kt : TypeId} {ik : IntKind} (hu : P.underlying kt = some (.int ik)) : KeyOk P kt (fun n : Int => Value.int ik n) where
  fnd := fnd_now hu fun a b => by unfold Instr.sameNow; by_cases h : a = b <;> simp [h]
  chk := fun w b k => by unfold Instr.checkKey; simp [underlying, hu]
  bits := fun k => by unfold Instr.sameBits; simp
theorem ba_beq (a b : ByteArray) : (a == b) = decide (a = b) := by
  obtain ⟨a⟩ := a
  obtain ⟨b⟩ := b
  have h1 : ((⟨a⟩ : ByteArray) == ⟨b⟩) = (a == b) := rfl
  rw [h1]
  by_cases h : a = b
  · subst h; simp
  · have : ¬ (⟨a⟩ : ByteArray) = ⟨b⟩ := fun e => h (by injection e)
    simp [h]
theorem key_str {P : Program} {kt : TypeId} (hu : P.underlying kt = some .string) : KeyOk P kt (fun s : ByteArray => Value.string s) where
  fnd := fnd_now hu fun a b => by unfold Instr.sameNow; simp only [ba_beq]
  chk := fun w b k => by unfold Instr.checkKey; simp [underlying, hu]
  bits := fun k => by unfold Instr.sameBits; simp [ba_beq]
theorem ents_keys {M : Nat → Prop} {w : World} {κ : Type} {kv : κ → Value} : ∀ {l : List (κ × AV)} {es : List MapEntry}, EntsRep M w (mapE kv l) es → es.map (·.key) = (l.map (·.1)).map kv
  | [], es, h => by unfold mapE EntsRep at h; simp at h; subst h; rfl
  | p :: l, es, h => by
    unfold mapE at h
    rw [List.map_cons] at h
    unfold EntsRep at h
    obtain ⟨e, r, rfl, h1, h2⟩ := h
    simp [h1.1, ents_keys (l := l) h2]
theorem ents_get {M : Nat → Prop} {w : World} : ∀ {l : List (Value × AV)} {es : List MapEntry}, EntsRep M w l es → ∀ (i : Nat) p, l[i]? = some p → ∃ e, es[i]? = some e ∧ EntRep M w p e
  | [], es, h, i, p, hp => by simp at hp
  | q :: l, es, h, i, p, hp => by
    unfold EntsRep at h
    obtain ⟨e, r, rfl, h1, h2⟩ := h
    cases i with
    | zero => simp at hp; subst hp; exact ⟨e, rfl, h1⟩
    | succ i => simpa using ents_get h2 i p (by simpa using hp)
theorem ents_len {M : Nat → Prop} {w : World} : ∀ {l : List (Value × AV)} {es : List MapEntry}, EntsRep M w l es → es.length = l.length
  | [], es, h => by unfold EntsRep at h; simp [h]
  | q :: l, es, h => by unfold EntsRep at h; obtain ⟨e, r, rfl, _, h2⟩ := h; simp [ents_len h2]
theorem ents_app {M : Nat → Prop} {w : World} : ∀ {l : List (Value × AV)} {es : List MapEntry} {p : Value × AV} {e : MapEntry}, EntsRep M w l es → EntRep M w p e → EntsRep M w (l ++ [p]) (es ++ [e])
  | [], es, p, e, h, hp => by unfold EntsRep at h; subst h; exact ⟨e, [], rfl, hp, rfl⟩
  | q :: l, es, p, e, h, hp => by unfold EntsRep at h; obtain ⟨e', r, rfl, h1, h2⟩ := h; exact ⟨e', r ++ [e], rfl, h1, ents_app h2 hp⟩
theorem ents_set {M : Nat → Prop} {w : World} : ∀ {l : List (Value × AV)} {es : List MapEntry} {p : Value × AV} {e : MapEntry} (i : Nat), EntsRep M w l es → EntRep M w p e → EntsRep M w (l.set i p) (es.set i e)
  | [], es, p, e, i, h, hp => by unfold EntsRep at h; subst h; rfl
  | q :: l, es, p, e, i, h, hp => by
    unfold EntsRep at h
    obtain ⟨e', r, rfl, h1, h2⟩ := h
    cases i with
    | zero => exact ⟨e, r, rfl, hp, h2⟩
    | succ i => exact ⟨e', r.set i e, rfl, h1, ents_set i h2 hp⟩
theorem ents_erase {M : Nat → Prop} {w : World} : ∀ {l : List (Value × AV)} {es : List MapEntry} (i : Nat), EntsRep M w l es → EntsRep M w (l.eraseIdx i) (es.eraseIdx i)
  | [], es, i, h => by unfold EntsRep at h; subst h; rfl
  | q :: l, es, i, h => by
    unfold EntsRep at h
    obtain ⟨e', r, rfl, h1, h2⟩ := h
    cases i with
    | zero => exact h2
    | succ i => exact ⟨e', r.eraseIdx i, rfl, h1, ents_erase i h2⟩
theorem aget_idx {κ β : Type} [DecidableEq κ] : ∀ (l : List (κ × β)) (k : κ), match aidx (l.map (·.1)) k with
    | none => aget l k = none ∧ (∀ v, aput l k v = l ++ [(k, v)]) ∧ adel l k = l
    | some i => (∃ v, l[i]? = some (k, v) ∧ aget l k = some v) ∧ (∀ v, aput l k v = l.set i (k, v)) ∧ adel l k = l.eraseIdx i
  | [], k => ⟨rfl, fun v => rfl, rfl⟩
  | (j, u) :: l, k => by
    have ih := aget_idx l k
    simp only [List.map_cons, aidx]
    by_cases h : j = k
    · subst h
      simp [aget, aput, adel]
    · simp only [h, if_false, aget, aput, adel]
      cases hi : aidx (l.map (·.1)) k with
      | none => rw [hi] at ih; exact ⟨ih.1, fun v => by rw [ih.2.1]; rfl, by rw [ih.2.2]⟩
      | some i => rw [hi] at ih; exact ⟨ih.1, fun v => by rw [ih.2.1]; rfl, by rw [ih.2.2]; rfl⟩

theorem map_erase {α β : Type} (g : α → β) : ∀ (l : List α) (i : Nat), (l.eraseIdx i).map g = (l.map g).eraseIdx i
  | [], i => rfl
  | x :: l, 0 => rfl
  | x :: l, i + 1 => by simp [map_erase g l i]
section
variable {P : Program} {L : List TD} {Z : List (List Value)} {n : Nat} {Q : Exit → Act → World → Prop} {c : Ctx}
variable {s : AMS} {f f' : AEnv} {σ σ' : Store} {ob : Obs} {κ : List Kt} {all : Array Oper} {dec : List Nat} {o : Oper} {al : Bool} {rest : List (Oper × Bool)} {m : Mode}

def mapT (P : Program) (t kt et : TypeId) : Bool := match P.underlying t with | some (.map a b) => Nat.beq a kt && Nat.beq b et | _ => false
theorem mapT_spec {t kt et : TypeId} (h : mapT P t kt et = true) : P.underlying t = some (.map kt et) := by
  unfold mapT at h
  split at h
  · rename_i a b hu
    simp only [Bool.and_eq_true] at h
    rw [hu, Nat.eq_of_beq_eq_true h.1, Nat.eq_of_beq_eq_true h.2]
  · cases h
/-- What a map is asked. -/
theorem a_look (hT : TOk P L) {t kt et : TypeId} {κ' : Type} [DecidableEq κ'] {kv : κ' → Value} {x y : Operand} {r r' h0 : Nat} {hk0 : Nat} {es : List (Value × AV)} {z : Value} (l : List (κ' × AV)) (k : κ') (res : Option AV) {ok : Bool} (h : machA L n fuel s f σ [] = ⟨.op m κ all dec o true rest, f', σ', ob⟩) (hob : ob.map (·.1) = ob.map (·.2)) (ho : o.op = .lookup t x y ok) (ht : mapT P t kt et = true) (hko : KeyOk P kt kv) (hz : (P.info? et).map (·.zero) = some (some z))
    (hx : evA n f' x = .v (.map (some r)) h0) (hl : look σ' h0 = some (.map r' es)) (hrr : r = r') (hes : es = mapE kv l) (hy : evN n f' y = .v (kv k) hk0) (hres : aget l k = res)
    (hk : DenA c P n Q (.ops (m.hap true) κ all dec rest) (putA f' o.dst (if ok then .tup [res.getD (cAV z), .v (.bool res.isSome) 0] else res.getD (cAV z))) σ') : DenA c P n Q s f σ := by
  subst hrr
  subst hes
  refine a_eff hT (fun a σ1 => a = (if ok then .tup [res.getD (cAV z), .v (.bool res.isSome) 0] else res.getD (cAV z)) ∧ σ1 = σ') h hob (fun Y Su w fc hd hY hh he => ?_) (fun a σ1 ⟨ha, hs⟩ => by subst ha; subst hs; exact hk)
  obtain ⟨S1, S2, hS, hdis, hc, hrest⟩ := hh.take hl
  obtain ⟨hS1, ents, clock, hheap, hents, hnd, hcl⟩ := hc
  have h1 := he.eval (n := n) x
  have h2 := he.evalN (n := n) y
  rw [hx] at h1
  rw [hy] at h2
  obtain ⟨i, hi, hiz⟩ := Option.map_eq_some_iff.1 hz
  have hfnd := hko.fnd w k (l.map (·.1)) ents.toList (ents_keys hents)
  have hidx := aget_idx l k
  have fin : ∀ v a, Rep (or2 Su Y) w a v → a = res.getD (cAV z) → (execOp (ev n fc) o).run P w = .ok (.value (if ok then .tuple #[v, .bool res.isSome] else v)) w → Does P Y Su w (fun a σ1 => a = (if ok then .tup [res.getD (cAV z), .v (.bool res.isSome) 0] else res.getD (cAV z)) ∧ σ1 = σ') ((execOp (ev n fc) o).run P w) := by
    intro v a hr ha hrun
    rw [hrun]
    refine ⟨_, _, Su, ⟨rfl, rfl⟩, ?_, hh, Ev.refl _ _, fun b hb => .inl hb⟩
    subst ha
    cases ok
    · exact hr
    · simp only [if_true]
      unfold Rep
      exact ⟨[v, .bool res.isSome], rfl, Reps.cons hr (Reps.cons mk_v Reps.nil)⟩
  cases hi' : aidx (l.map (·.1)) k with
  | none =>
    rw [hi'] at hidx hfnd
    have hres' : res = none := by rw [← hres]; exact hidx.1
    subst hres'
    refine fin z (cAV z) (cAV_rep z) rfl ?_
    unfold execOp
    simp only [ho, Sem.run_bind, Sem.run_pure, rep_v h1, rep_v h2, Instr.lookup, run_underlying (mapT_spec ht), Result.andThen_ok, run_get hheap (by simp), hko.chk, hfnd, Option.bind_none, zeroValue, typeInfo, run_program, hi, hiz]
    first | done | (cases ok <;> rfl)
  | some j =>
    rw [hi'] at hidx hfnd
    obtain ⟨⟨v, hv, hg⟩, _⟩ := hidx
    have hres' : res = some v := by rw [← hres]; exact hg
    subst hres'
    obtain ⟨e, he', hke, hrep⟩ := ents_get hents j (kv k, v) (by unfold mapE; rw [List.getElem?_map, hv]; rfl)
    refine fin e.val v hrep rfl ?_
    unfold execOp
    simp only [ho, Sem.run_bind, Sem.run_pure, rep_v h1, rep_v h2, Instr.lookup, run_underlying (mapT_spec ht), Result.andThen_ok, run_get hheap (by simp), hko.chk, hfnd, Option.bind_some, he', Option.map_some]
    first | done | (cases ok <;> rfl)
/-- .. a map that there isn't. -/
theorem a_lookN (hT : TOk P L) {t kt et : TypeId} {κ' : Type} [DecidableEq κ'] {kv : κ' → Value} {x y : Operand} {h0 hk0 : Nat} {z : Value} (k : κ') {ok : Bool} (h : machA L n fuel s f σ [] = ⟨.op m κ all dec o al rest, f', σ', ob⟩) (hob : ob.map (·.1) = ob.map (·.2)) (ho : o.op = .lookup t x y ok) (ht : mapT P t kt et = true) (hko : KeyOk P kt kv) (hz : (P.info? et).map (·.zero) = some (some z))
    (hx : evN n f' x = .v (.map none) h0) (hy : evN n f' y = .v (kv k) hk0) (hk : DenA c P n Q (.ops m κ all dec rest) (putA f' o.dst (if ok then .tup [cAV z, .v (.bool false) 0] else cAV z)) σ') : DenA c P n Q s f σ := by
  refine a_pure hT _ h hob (fun M w fc he => ⟨if ok then .tuple #[z, .bool false] else z, fun w' => ?_, ?_⟩) hk
  · have h1 := he.evalN (n := n) x
    have h2 := he.evalN (n := n) y
    rw [hx] at h1
    rw [hy] at h2
    obtain ⟨i, hi, hiz⟩ := Option.map_eq_some_iff.1 hz
    have hf := hko.fnd w' k [] [] rfl
    unfold execOp
    simp only [ho, Sem.run_bind, Sem.run_pure, rep_v h1, rep_v h2, Instr.lookup, run_underlying (mapT_spec ht), Result.andThen_ok, hko.chk, hf, aidx, Option.bind_none, zeroValue, typeInfo, run_program, hi, hiz]
    first | done | (cases ok <;> rfl)
  · cases ok
    · exact cAV_rep z
    · simp only [if_true]
      unfold Rep
      exact ⟨[z, .bool false], rfl, Reps.cons (cAV_rep z) (Reps.cons mk_v Reps.nil)⟩
/-- A map is made. -/
theorem a_mkmap (hT : TOk P L) (kn : Nat) {t : TypeId} (h : machA L n fuel s f σ [] = ⟨.op m κ all dec o true rest, f', σ', ob⟩) (hob : ob.map (·.1) = ob.map (·.2)) (ho : o.op = .makeMap t none)
    (hk : ∀ r, DenA c P n Q (.ops (m.hap true) κ all dec rest) (putA f' o.dst (.v (.map (some r)) kn)) ((kn, .map r []) :: σ')) : DenA c P n Q s f σ := by
  refine a_eff hT (fun a σ1 => ∃ r, a = .v (.map (some r)) kn ∧ σ1 = (kn, .map r []) :: σ') h hob (fun Y Su w fc hd hY hh he => ?_) (fun a σ1 ⟨g, ha, hs⟩ => by subst ha; subst hs; exact hk g)
  have hrun : (execOp (ev n fc) o).run P w = .ok (.value (.map (some w.heap.size))) (w.alloc (.map #[] 0)) := by
    unfold execOp
    simp [ho, Instr.makeMap]
  rw [hrun]
  have hev : Ev no w (w.alloc (.map #[] 0)) := Ev.alloc w _
  have hm : ∀ b, b < w.heap.size → no b ∨ or2 (or2 (at1 w.heap.size) Su) Y b → or2 Su Y b := fun b hb h => by
    rcases h with h | (h | h) | h
    · exact h.elim
    · simp only [at1] at h; omega
    · exact .inl h
    · exact .inr h
  refine ⟨_, _, or2 (at1 w.heap.size) Su, ⟨_, rfl, rfl⟩, mk_v, ⟨at1 w.heap.size, Su, fun b => Iff.rfl, fun b hb h => ?_, ⟨fun b => Iff.rfl, #[], 0, heap_alloc_new w _, rfl, by simp, by simp⟩, hh.ev hev hm fun _ _ h => h⟩, hev.no, fun b h => h.elim (fun h => .inr (by simp only [at1] at h; omega)) .inl⟩
  simp only [at1] at hb
  have := hh.lt b h
  omega
/-- A map's block, turned. -/
theorem map_turned {Y Su : Nat → Prop} {w : World} {h0 r : Nat} {es es' : List (Value × AV)} {ents ents' : Array MapEntry} {clock clock' : Nat} {S1 S2 : Nat → Prop} (hh : Holds (or2 Su Y) w σ Su) (hl : look σ h0 = some (.map r es)) (hS : ∀ b, Su b ↔ S1 b ∨ S2 b) (hdis : ∀ b, S1 b → ¬ S2 b) (hS1 : ∀ b, S1 b ↔ b = r) (hheap : w.heap[r]? = some (.map ents clock)) (hrest : Holds (or2 Su Y) w (del σ h0) S2)
    (hents : EntsRep (or2 Su Y) w es' ents'.toList) (hnd : (ents'.toList.map (·.born)).Nodup) (hcl : ∀ e ∈ ents'.toList, e.born < clock') : After Y Su w (fun a σ1 => a = .v (.tuple #[]) 0 ∧ σ1 = upd σ h0 (.map r es')) (.tuple #[]) (setB w r (.map ents' clock')) := by
  have hlt : r < w.heap.size := (Array.getElem?_eq_some_iff.1 hheap).1
  have hev : Ev (at1 r) w (setB w r (.map ents' clock')) := Ev.setB w r _
  have hm : ∀ b, b < w.heap.size → at1 r b ∨ or2 Su Y b → or2 Su Y b := fun b _ h => h.elim (fun h => .inl ((hS b).2 (.inl ((hS1 b).2 h)))) id
  refine ⟨_, _, Su, ⟨rfl, rfl⟩, mk_v, ?_, hev.mono fun b _ h => (hS b).2 (.inl ((hS1 b).2 h)), fun b hb => .inl hb⟩
  refine (Holds.upd (S1 := S1) (c' := .map r es') hev hm hh hl hrest (fun b hb hg => hdis b ((hS1 b).2 hg) hb) hdis ⟨hS1, ents', clock', setB_at hlt _, hents.ev hev hm, hnd, hcl⟩).iff hS
/-- A map's entry is laid. -/
theorem a_mput (hT : TOk P L) {t kt et : TypeId} {κ' : Type} [DecidableEq κ'] {kv : κ' → Value} {x y u : Operand} {r r' h0 : Nat} {hk0 : Nat} {es : List (Value × AV)} (l : List (κ' × AV)) (k : κ') (h : machA L n fuel s f σ [] = ⟨.op m κ all dec o true rest, f', σ', ob⟩) (hob : ob.map (·.1) = ob.map (·.2)) (ho : o.op = .mapUpdate t x y u) (ht : mapT P t kt et = true) (hko : KeyOk P kt kv)
    (hx : evA n f' x = .v (.map (some r)) h0) (hl : look σ' h0 = some (.map r' es)) (hrr : r = r') (hes : es = mapE kv l) (hy : evN n f' y = .v (kv k) hk0)
    (hk : DenA c P n Q (.ops (m.hap true) κ all dec rest) (putA f' o.dst (.v undef 0)) (upd σ' h0 (.map r' (mapE kv (aput l k (evA n f' u)))))) : DenA c P n Q s f σ := by
  subst hrr
  subst hes
  refine a_eff hT (fun a σ1 => a = .v undef 0 ∧ σ1 = upd σ' h0 (.map r (mapE kv (aput l k (evA n f' u))))) h hob (fun Y Su w fc hd hY hh he => ?_) (fun a σ1 ⟨ha, hs⟩ => by subst ha; subst hs; exact hk)
  obtain ⟨S1, S2, hS, hdis, hc, hrest⟩ := hh.take hl
  obtain ⟨hS1, ents, clock, hheap, hents, hnd, hcl⟩ := hc
  have h1 := he.eval (n := n) x
  have h2 := he.evalN (n := n) y
  have h3 := he.eval (n := n) u
  rw [hx] at h1
  rw [hy] at h2
  have hfnd := hko.fnd w k (l.map (·.1)) ents.toList (ents_keys hents)
  have hidx := aget_idx l k
  cases hi' : aidx (l.map (·.1)) k with
  | none =>
    rw [hi'] at hidx hfnd
    have hrun : (execOp (ev n fc) o).run P w = .ok .skip (setB w r (.map (ents.push { key := kv k, val := ev n fc u, born := clock }) (clock + 1))) := by
      unfold execOp
      simp only [ho, Sem.run_bind, Sem.run_pure, rep_v h1, rep_v h2, Instr.mapUpdate, run_underlying (mapT_spec ht), Result.andThen_ok, run_get hheap (by simp), hko.chk, hfnd, Option.bind_none, run_set hheap (by simp)]
    rw [hrun, hidx.2.1]
    refine map_turned hh hl hS hdis hS1 hheap hrest ?_ ?_ ?_
    · unfold mapE at hents ⊢
      rw [List.map_append, Array.toList_push]
      exact ents_app hents ⟨rfl, h3⟩
    · rw [Array.toList_push, List.map_append, List.nodup_append]
      refine ⟨hnd, by simp, ?_⟩
      intro a ha b hb e
      simp at hb
      obtain ⟨e', he', rfl⟩ := List.mem_map.1 ha
      have := hcl e' he'
      omega
    · intro e he'
      rw [Array.toList_push, List.mem_append] at he'
      rcases he' with he' | he'
      · have := hcl e he'; omega
      · simp at he'; subst he'; simp
  | some j =>
    rw [hi'] at hidx hfnd
    obtain ⟨⟨v, hv, hg⟩, hput, _⟩ := hidx
    obtain ⟨e, he', hke, hrep⟩ := ents_get hents j (kv k, v) (by unfold mapE; rw [List.getElem?_map, hv]; rfl)
    have hje : ents[j]? = some e := by rw [← Array.getElem?_toList]; exact he'
    have hrun : (execOp (ev n fc) o).run P w = .ok .skip (setB w r (.map (ents.modify j fun e => { e with key := kv k, val := ev n fc u }) clock)) := by
      unfold execOp
      simp only [ho, Sem.run_bind, Sem.run_pure, rep_v h1, rep_v h2, Instr.mapUpdate, run_underlying (mapT_spec ht), Result.andThen_ok, run_get hheap (by simp), hko.chk, hfnd, Option.bind_some, he', Option.map_some, hje, Option.getD_some, Instr.keyThatStays, hke, hko.bits, if_true, run_set hheap (by simp)]
    rw [hrun, hput]
    have hmod : (ents.modify j fun e => { e with key := kv k, val := ev n fc u }).toList = ents.toList.set j { e with key := kv k, val := ev n fc u } := by
      apply List.ext_getElem?
      intro i
      rw [Array.getElem?_toList, Array.getElem?_modify, List.getElem?_set]
      by_cases hij : j = i
      · subst hij
        obtain ⟨h5, h6⟩ := Array.getElem?_eq_some_iff.1 hje
        simp [h5, h6]
      · simp [hij]
    have hborn : ∀ e' ∈ ents.toList.set j { e with key := kv k, val := ev n fc u }, ∃ e'' ∈ ents.toList, e''.born = e'.born := fun e' h' => by
      rcases List.mem_or_eq_of_mem_set h' with h' | rfl
      · exact ⟨e', h', rfl⟩
      · exact ⟨e, List.mem_of_getElem? he', rfl⟩
    refine map_turned hh hl hS hdis hS1 hheap hrest ?_ ?_ ?_
    · rw [hmod]
      unfold mapE at hents ⊢
      rw [List.map_set]
      exact ents_set j hents ⟨rfl, h3⟩
    · rw [hmod, List.map_set]
      have : (ents.toList.map (·.born)).set j e.born = ents.toList.map (·.born) := by
        apply List.ext_getElem?
        intro i
        rw [List.getElem?_set]
        split
        · rename_i h; subst h; rw [List.getElem?_map, he']; have := (List.getElem?_eq_some_iff.1 he').1; rw [List.length_map, if_pos this]; rfl
        · rfl
      rw [this]
      exact hnd
    · intro e' h'
      rw [hmod] at h'
      obtain ⟨e'', h1, h2⟩ := hborn e' h'
      rw [← h2]
      exact hcl e'' h1
/-- An entry goes. -/
theorem a_mdel (hT : TOk P L) {t kt et : TypeId} {κ' : Type} [DecidableEq κ'] {kv : κ' → Value} {x y : Operand} {ts : Array TypeId} {r r' h0 : Nat} {hk0 : Nat} {es : List (Value × AV)} (l : List (κ' × AV)) (k : κ') (h : machA L n fuel s f σ [] = ⟨.op m κ all dec o true rest, f', σ', ob⟩) (hob : ob.map (·.1) = ob.map (·.2)) (ho : o.op = .call ⟨.builtin .delete, #[x, y], ts⟩) (hts : ts[0]? = some t) (ht : mapT P t kt et = true) (hko : KeyOk P kt kv)
    (hx : evA n f' x = .v (.map (some r)) h0) (hl : look σ' h0 = some (.map r' es)) (hrr : r = r') (hes : es = mapE kv l) (hy : evN n f' y = .v (kv k) hk0)
    (hk : DenA c P n Q (.ops (m.hap true) κ all dec rest) (putA f' o.dst (.v (.tuple #[]) 0)) (upd σ' h0 (.map r' (mapE kv (adel l k))))) : DenA c P n Q s f σ := by
  subst hrr
  subst hes
  refine a_eff hT (fun a σ1 => a = .v (.tuple #[]) 0 ∧ σ1 = upd σ' h0 (.map r (mapE kv (adel l k)))) h hob (fun Y Su w fc hd hY hh he => ?_) (fun a σ1 ⟨ha, hs⟩ => by subst ha; subst hs; exact hk)
  obtain ⟨S1, S2, hS, hdis, hc, hrest⟩ := hh.take hl
  obtain ⟨hS1, ents, clock, hheap, hents, hnd, hcl⟩ := hc
  have h1 := he.eval (n := n) x
  have h2 := he.evalN (n := n) y
  rw [hx] at h1
  rw [hy] at h2
  have hfnd := hko.fnd w k (l.map (·.1)) ents.toList (ents_keys hents)
  have hidx := aget_idx l k
  cases hi' : aidx (l.map (·.1)) k with
  | none =>
    rw [hi'] at hidx hfnd
    have hrun : (execOp (ev n fc) o).run P w = .ok (.value (.tuple #[])) (setB w r (.map ents clock)) := by
      unfold execOp
      simp only [ho, resolve, invoke, builtin, Sem.run_bind, Sem.run_pure, Result.andThen_ok, List.map_toArray, List.map_cons, List.map_nil, Builtin.delete_, hts, rep_v h1, rep_v h2, run_underlying (mapT_spec ht), run_get hheap (by simp), hko.chk, hfnd, Option.bind_none, run_set hheap (by simp)]
      simp [run_underlying (mapT_spec ht), run_get hheap, hko.chk, hfnd, run_set hheap, rep_v h1, rep_v h2]
    rw [hrun, hidx.2.2]
    exact map_turned hh hl hS hdis hS1 hheap hrest hents hnd hcl
  | some j =>
    rw [hi'] at hidx hfnd
    obtain ⟨⟨v, hv, hg⟩, _, hdel⟩ := hidx
    obtain ⟨e, he', hke, hrep⟩ := ents_get hents j (kv k, v) (by unfold mapE; rw [List.getElem?_map, hv]; rfl)
    have hrun : (execOp (ev n fc) o).run P w = .ok (.value (.tuple #[])) (setB w r (.map (ents.eraseIdxIfInBounds j) clock)) := by
      unfold execOp
      simp only [ho, resolve, invoke, builtin, Sem.run_bind, Sem.run_pure, Result.andThen_ok, List.map_toArray, List.map_cons, List.map_nil, Builtin.delete_, hts, rep_v h1, rep_v h2, run_underlying (mapT_spec ht), run_get hheap (by simp), hko.chk, hfnd, Option.bind_some, he', Option.map_some, run_set hheap (by simp)]
      have hje : ents[j]? = some e := by rw [← Array.getElem?_toList]; exact he'
      simp [run_underlying (mapT_spec ht), run_get hheap, hko.chk, hfnd, hje, run_set hheap, rep_v h1, rep_v h2]
    have hers : (ents.eraseIdxIfInBounds j).toList = ents.toList.eraseIdx j := by
      unfold Array.eraseIdxIfInBounds
      have := (List.getElem?_eq_some_iff.1 he').1
      rw [dif_pos (by simpa using this)]
      simp
    rw [hrun, hdel]
    refine map_turned hh hl hS hdis hS1 hheap hrest ?_ ?_ ?_
    · rw [hers]
      unfold mapE at hents ⊢
      rw [map_erase]
      exact ents_erase j hents
    · rw [hers, map_erase]
      exact hnd.sublist (List.eraseIdx_sublist _ _)
    · intro e' h'
      rw [hers] at h'
      exact hcl e' ((List.eraseIdx_sublist _ _).subset h')
end
end Go.Proofs.Ytepjnmocepkfjaa.A
