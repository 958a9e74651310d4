/- A machine that walks a function's code over what is known of values and memory, and that it is sound. It holds of any program. -/
import Derived.Test.YtepjnmocepkfjaaB
set_option linter.unusedVariables false
set_option linter.unusedSimpArgs false
namespace Go.Proofs.Ytepjnmocepkfjaa.A
open V

theorem run_get {P : Program} {w : World} {r : Nat} {o : Obj} (h : w.heap[r]? = some o) (ho : ∀ c e f, o ≠ .cells c e f) : (getObj r).run P w = .ok o w := by
  unfold getObj Sem.run
  rw [h]
  cases o <;> first | rfl | exact absurd rfl (ho _ _ _)
def setB (w : World) (r : Nat) (o : Obj) : World := { w with heap := w.heap.setIfInBounds r o }
theorem run_set {P : Program} {w : World} {r : Nat} {o : Obj} (h : w.heap[r]? = some o) (ho : ∀ c e f, o ≠ .cells c e f) (o' : Obj) : (setObj r o').run P w = .ok () (setB w r o') := by
  unfold setObj Sem.run
  rw [h]
  cases o <;> first | rfl | exact absurd rfl (ho _ _ _)
theorem Ev.setB (w : World) (r : Nat) (o : Obj) : Ev (at1 r) w (setB w r o) := ⟨rfl, rfl, rfl, by simp [A.setB], fun b hb hn => by simp only [A.setB, Array.getElem?_setIfInBounds]; rw [if_neg (fun e => hn e.symm)]⟩
theorem setB_at {w : World} {r : Nat} (h : r < w.heap.size) (o : Obj) : (setB w r o).heap[r]? = some o := by simp [setB, h]

/-! ### Reading and writing the store -/
def ptrV (g : Nat) (sp : Option Nat) : Value := .pointer (some ⟨g, 0, sp⟩)
/-- A chunk that may be read: of one's own part if rs, of the part that is left alone if rp. -/
def findK {α : Type} (rp rs : Bool) (σp σ : Store) (h : Nat) (k : Chunk → α) (z : α) : α := match rs with
  | true => lookK σ h k (match rp with | true => lookK σp h k z | false => z)
  | false => match rp with | true => lookK σp h k z | false => z
theorem findK_cases (rp rs : Bool) (σp σ : Store) (h : Nat) :
    (∀ {α : Type} (k : Chunk → α) (z : α), findK rp rs σp σ h k z = z) ∨ ∃ c, (∀ {α : Type} (k : Chunk → α) (z : α), findK rp rs σp σ h k z = k c) ∧ ((rs = true ∧ look σ h = some c) ∨ (rp = true ∧ look σp h = some c)) := by
  unfold findK
  cases rs
  · cases rp
    · exact .inl fun k z => rfl
    · cases hl : look σp h with
      | none => left; intro α k z; simp only [lookK_eq, hl]
      | some c => right; exact ⟨c, fun k z => by simp only [lookK_eq, hl], .inr ⟨rfl, rfl⟩⟩
  · cases hl : look σ h with
    | some c => right; exact ⟨c, fun k z => by simp only [lookK_eq, hl], .inl ⟨rfl, rfl⟩⟩
    | none =>
      cases rp
      · left; intro α k z; simp only [lookK_eq, hl]
      · cases hl' : look σp h with
        | none => left; intro α k z; simp only [lookK_eq, hl, hl']
        | some c => right; exact ⟨c, fun k z => by simp only [lookK_eq, hl, hl'], .inr ⟨rfl, rfl⟩⟩
def nd : Dat → AV
  | .v x => .v x 0
  | d => .d d
def dcellsN : List Dat → List AV
  | [] => []
  | d :: ds => nd d :: dcellsN ds
theorem Reps.ofVN {M : Nat → Prop} {w : World} : ∀ {ds : List Dat} {xs : List Value}, VRep M w ds xs → Reps M w (dcellsN ds) xs
  | [], xs, h => by unfold VRep at h; subst h; exact Reps.nil
  | d :: ds, xs, h => by
    unfold VRep at h
    obtain ⟨x, r, rfl, h1, h2⟩ := h
    refine Reps.cons ?_ (Reps.ofVN h2)
    cases d with
    | v y => unfold DRep at h1; unfold nd Rep; exact h1.1
    | _ => unfold nd Rep; exact h1
def readA {α : Type} (L : List TD) (n : Nat) (rd rp rs : Bool) (σp σ : Store) (f : AEnv) (o : Op) (k : AV → Obs → α) (z : α) : α := match o with
  | .load t x => evAK n f x fun a => match a with
    | .v (.pointer (some ⟨g, off, sp⟩)) h => findK rp rs σp σ h (fun c => match c with | .blk g' _ cs => loadK L t cs off (fun r => k r [(ptrV g sp, ptrV g' none)]) z | _ => z) z
    | .d (.p ds) => match rd with | true => loadK L t (dcellsN ds) 0 (fun r => k r []) z | false => z
    | _ => z
  | .call { callee := .builtin .len, args := ⟨[x]⟩, argTypes := ⟨[t]⟩ } => evAK n f x fun a => match tl L t with
    | .str => (match a with
      | .v (.string s) _ => k (.v (.int .i64 s.size) 0) []
      | .d (.v (.string s)) => k (.v (.int .i64 s.size) 0) []
      | _ => z)
    | .sl _ _ => (match a with
      | .v (.slice _ m _) _ => k (.v (.int .i64 m) 0) []
      | .d (.sl _ es) => k (.v (.int .i64 es.length) 0) []
      | .row x h => findK rp rs σp σ h (fun c => match c with | .row x' _ _ es => k (.v (.int .i64 es.length) 0) [(x, x')] | _ => z) z
      | _ => z)
    | .map => (match a with
      | .v (.map none) _ => k (.v (.int .i64 0) 0) []
      | .v (.map (some r)) h => findK rp rs σp σ h (fun c => match c with | .map r' es => k (.v (.int .i64 es.length) 0) [(.map (some r), .map (some r'))] | _ => z) z
      | _ => z)
    | _ => z
  | _ => z
def setK {α : Type} : List AV → Nat → List AV → (List AV → α) → α
  | [], _, _, k => k []
  | c :: cs, 0, vs, k => match vs with
    | [] => k (c :: cs)
    | v :: vs => setK cs 0 vs fun r => k (v :: r)
  | c :: cs, i + 1, vs, k => setK cs i vs fun r => k (c :: r)
def setA : List AV → Nat → List AV → List AV
  | [], _, _ => []
  | c :: cs, 0, vs => match vs with
    | [] => c :: cs
    | v :: vs => v :: setA cs 0 vs
  | c :: cs, i + 1, vs => c :: setA cs i vs
theorem setK_eq {α : Type} : ∀ (cs : List AV) (i : Nat) (vs : List AV) (k : List AV → α), setK cs i vs k = k (setA cs i vs)
  | [], _, _, _ => rfl
  | c :: cs, 0, [], k => rfl
  | c :: cs, 0, v :: vs, k => by show setK cs 0 vs (fun r => k (v :: r)) = _; rw [setK_eq]; rfl
  | c :: cs, i + 1, vs, k => by show setK cs i vs (fun r => k (c :: r)) = _; rw [setK_eq]; rfl
def updK {α : Type} : Store → Nat → Chunk → (Store → α) → α
  | [], _, _, f => f []
  | (j, c) :: σ, k, c', f => match Nat.beq j k with | true => f ((j, c') :: σ) | false => updK σ k c' fun r => f ((j, c) :: r)
theorem updK_eq {α : Type} : ∀ (σ : Store) (k : Nat) (c : Chunk) (f : Store → α), updK σ k c f = f (upd σ k c)
  | [], _, _, _ => rfl
  | (j, c) :: σ, k, c', f => by
    unfold updK upd
    cases Nat.beq j k
    · exact updK_eq σ k c' _
    · rfl
/-- What is written, by its cells. -/
def wcK {α : Type} (L : List TD) (t : TypeId) (a : AV) (k : List AV → α) (z : α) : α := match oneT (tl L t) with
  | true => match one1 a with | true => k [a] | false => z
  | false => match tl L t, a with
    | .agg m _, .agg cs => match Nat.beq cs.length m with | true => k cs | false => z
    | _, _ => z
def storeA {α : Type} (L : List TD) (n : Nat) (σ : Store) (f : AEnv) (o : Op) (k : Store → Obs → α) (z : α) : α := match o with
  | .store t x y => evAK n f x fun a => match a with
    | .v (.pointer (some ⟨g, off, sp⟩)) h => evAK n f y fun b => wcK L t b (fun vs => lookK σ h (fun c => match c with
        | .blk g' t' cs => match Nat.ble (off + vs.length) cs.length with
          | true => setK cs off vs fun cs' => updK σ h (.blk g' t' cs') fun σ' => k σ' [(ptrV g sp, ptrV g' none)]
          | false => z
        | _ => z) z) z
    | _ => z
  | _ => z
/-- Whether it writes; what it yields; the store; what it takes for equal. -/
def opA {α : Type} (L : List TD) (n : Nat) (rd rp rs : Bool) (σp σ : Store) (dec : List Nat) (f : AEnv) (o : Op) (k : Bool → AV → Store → Obs → α) (z : α) : α :=
  pureA L n dec f o (fun a => k false a σ []) (readA L n rd rp rs σp σ f o (fun a ob => k false a σ ob) (match rs with | true => storeA L n σ f o (fun σ' ob => k true (.v undef 0) σ' ob) z | false => z))

def OT (ob : Obs) : Prop := ∀ p ∈ ob, p.1 = p.2
theorem OT.of : ∀ {ob : Obs}, ob.map (·.1) = ob.map (·.2) → OT ob
  | [], _, p, hp => by simp at hp
  | q :: ob, h, p, hp => by
    simp only [List.map_cons, List.cons.injEq] at h
    rcases List.mem_cons.1 hp with rfl | hp
    · exact h.1
    · exact OT.of h.2 p hp

theorem loadK_says {P : Program} {L : List TD} (hT : TOk P L) {M : Nat → Prop} {w : World} {t : TypeId} {ad : Addr} {cs : List AV} {xs : List Value} (hr : Reps M w cs xs) (h1 : ∀ u ∈ xs, u.oneCell' = true) (off : Nat) {W : World → Prop} (hc : ∀ w', W w' → Cells w' ad xs) :
    (∀ {α : Type} (k : AV → α) (z : α), loadK L t cs off k z = z) ∨ ∃ a, (∀ {α : Type} (k : AV → α) (z : α), loadK L t cs off k z = k a) ∧ ∃ v, (∀ w', W w' → (loadVar t (ad.add off)).run P w' = .ok v w') ∧ Rep M w a v := by
  unfold loadK
  cases h1t : oneT (tl L t)
  · cases htl : tl L t <;> first | (left; intro α k z; rfl) | skip
    rename_i m fs
    simp only
    cases hle : Nat.ble (off + m) cs.length
    · left; intro α k z; rfl
    · right
      have hlen := hr.len
      have hle' := Nat.le_of_ble_eq_true hle
      refine ⟨.agg ((cs.drop off).take m), fun k z => by simp only [dropK_eq, takeK_eq], .agg ((xs.drop off).take m).toArray, fun w' hw => ?_, ?_⟩
      · refine run_loada hT (fs := fs) (by rw [htl]; congr 1; simp; omega) fun j v hv => ?_
        rw [add_add]
        have hj : j < m := by have := (List.getElem?_eq_some_iff.1 hv).1; simp at this; omega
        rw [List.getElem?_take_of_lt hj, List.getElem?_drop] at hv
        exact hc w' hw _ _ hv
      · unfold Rep
        exact ⟨_, rfl, (hr.drop _).take _, fun u hu => h1 u (List.mem_of_mem_drop (List.mem_of_mem_take hu))⟩
  · rcases nthA_cases cs off with ⟨b, hb, hk⟩ | hk
    · right
      obtain ⟨x, hx, hrx⟩ := hr.get _ _ hb
      exact ⟨b, fun k z => hk k z, x, fun w' hw => run_load1 hT h1t (hc w' hw _ _ hx), hrx⟩
    · exact .inl fun k z => hk k z
theorem loadK_cases (L : List TD) (t : TypeId) (cs : List AV) (off : Nat) :
    (∀ {α : Type} (k : AV → α) (z : α), loadK L t cs off k z = z) ∨ ∃ a, (∀ {α : Type} (k : AV → α) (z : α), loadK L t cs off k z = k a) := by
  unfold loadK
  cases h1t : oneT (tl L t)
  · cases htl : tl L t <;> first | (left; intro α k z; rfl) | skip
    rename_i m fs
    simp only
    cases hle : Nat.ble (off + m) cs.length
    · left; intro α k z; rfl
    · right; exact ⟨.agg ((cs.drop off).take m), fun k z => by simp only [dropK_eq, takeK_eq]⟩
  · rcases nthA_cases cs off with ⟨b, hb, hk⟩ | hk
    · right; exact ⟨b, fun k z => hk k z⟩
    · exact .inl fun k z => hk k z

/-- Where a chunk lies that is read: it is unturned in W's worlds. -/
def Stays (w : World) (W : World → Prop) (S : Nat → Prop) : Prop := ∀ w', W w' → ∀ b, S b → w'.heap[b]? = w.heap[b]?
theorem Blk.same {w w' : World} {g : Nat} {t : TypeId} {cs : List Value} (h : Blk w g t cs) (e : w'.heap[g]? = w.heap[g]?) : Blk w' g t cs := by unfold Blk at h ⊢; rw [e]; exact h
/-- What the reading machine says: W: the worlds in which it may happen. -/
theorem readA_says {P : Program} {L : List TD} (hT : TOk P L) (n : Nat) (rd rp rs : Bool) (σp σ : Store) (f : AEnv) (o : Oper) :
    (∀ {α : Type} (k : AV → Obs → α) (z : α), readA L n rd rp rs σp σ f o.op k z = z) ∨ ∃ a ob, (∀ {α : Type} (k : AV → Obs → α) (z : α), readA L n rd rp rs σp σ f o.op k z = k a ob) ∧
      ∀ (M : Nat → Prop) (w : World) (Sp Su : Nat → Prop) (fc : Env) (W : World → Prop), OT ob → EnvRep M w f fc → Holds M w σp Sp → Holds M w σ Su → (rs = true → Stays w W Su) → (rp = true → Stays w W Sp) → (rd = true → Stays w W (fun b => b < w.heap.size ∧ ¬ M b)) →
        ∃ v, (∀ w', W w' → (execOp (ev n fc) o).run P w' = .ok (.value v) w') ∧ Rep M w a v := by
  obtain ⟨dst, op, ty, pos, after, guard⟩ := o
  -- a chunk that is found stays
  have found : ∀ {c h} {M : Nat → Prop} {w : World} {Sp Su : Nat → Prop} {W : World → Prop}, ((rs = true ∧ look σ h = some c) ∨ (rp = true ∧ look σp h = some c)) → Holds M w σp Sp → Holds M w σ Su → (rs = true → Stays w W Su) → (rp = true → Stays w W Sp) → ∃ S1, CRep M w c S1 ∧ Stays w W S1 := by
    intro c h M w Sp Su W hf hp hu hs hs'
    rcases hf with ⟨hrs, hl⟩ | ⟨hrp, hl⟩
    · obtain ⟨S1, S2, e, _, hc, _⟩ := hu.take hl
      exact ⟨S1, hc, fun w' hw b hb => hs hrs w' hw b ((e b).2 (.inl hb))⟩
    · obtain ⟨S1, S2, e, _, hc, _⟩ := hp.take hl
      exact ⟨S1, hc, fun w' hw b hb => hs' hrp w' hw b ((e b).2 (.inl hb))⟩
  cases op <;> first | (left; intro α k z; rfl) | skip
  case load t x =>
    simp only [readA, evAK_eq]
    have key := fun {M w fc} (h : EnvRep M w f fc) => h.eval (n := n) x
    cases ha : evA n f x <;> first | (left; intro α k z; rfl) | skip
    case v a h =>
      cases a <;> first | (left; intro α k z; rfl) | skip
      rename_i a
      cases a with
      | none => left; intro α k z; rfl
      | some a =>
        obtain ⟨g, off, sp⟩ := a
        simp only
        rcases findK_cases rp rs σp σ h with hk | ⟨c, hk, hf⟩
        · left; intro α k z; exact hk _ z
        cases c <;> first | (left; intro α k z; rw [hk]; done) | skip
        rename_i g' t' cs
        rcases loadK_cases L t cs off with hlz | ⟨a, hla⟩
        · left; intro α k z; rw [hk]; exact hlz _ z
        · refine .inr ⟨a, [(ptrV g sp, ptrV g' none)], fun k z => by rw [hk]; exact hla _ z, fun M w Sp Su fc W hob henv hp hu hs hs' hd' => ?_⟩
          have e := hob (ptrV g sp, ptrV g' none) (by simp)
          simp only [ptrV, Value.pointer.injEq, Option.some.injEq, Addr.mk.injEq] at e
          obtain ⟨rfl, _, rfl⟩ := e
          obtain ⟨S1, hc, hst⟩ := found hf hp hu hs hs'
          obtain ⟨hS, xs, hb, hr, h1⟩ := hc
          rcases loadK_says (P := P) hT (t := t) hr h1 off (W := W) (ad := ⟨g, 0, none⟩) (fun w' hw => (Blk.same hb (hst w' hw g ((hS g).2 rfl))).cells) with hz | ⟨a', ha', v, hv, hrv⟩
          · have := hz (α := Nat) (fun _ => 1) 0
            rw [hla] at this
            cases this
          · have h2 := hla (α := AV) id .any
            rw [ha'] at h2
            simp at h2
            subst h2
            have hx := key henv
            rw [ha] at hx
            refine ⟨v, fun w' hw => exec_load rfl (rep_v hx) ?_, hrv⟩
            have := hv w' hw
            rwa [add_plain] at this
    case d a =>
      cases a <;> first | (left; intro α k z; rfl) | skip
      rename_i ds
      cases rd
      · left; intro α k z; rfl
      simp only
      rcases loadK_cases L t (dcellsN ds) 0 with hlz | ⟨a, hla⟩
      · left; intro α k z; exact hlz _ z
      · refine .inr ⟨a, [], fun k z => hla _ z, fun M w Sp Su fc W hob henv hp hu hs hs' hd' => ?_⟩
        have hx := key henv
        rw [ha] at hx
        unfold Rep at hx
        unfold DRep at hx
        obtain ⟨ad, e, hM, hlt, hL⟩ := hx
        obtain ⟨xs, hv, hcells, hlen⟩ := hL.vals
        rw [show ad.add 0 = ad by unfold Addr.add; simp] at hcells
        have hcells' : ∀ w', W w' → Cells w' ad xs := fun w' hw j v hj => by
          have h1 := hcells j v hj
          rw [← h1]
          exact World.cell?_of_block (w := w) (by rw [add_block]; exact hd' trivial w' hw ad.block ⟨hlt, hM⟩)
        rcases loadK_says (P := P) hT (t := t) (cs := dcellsN ds) (Reps.ofVN hv) hv.one 0 (W := W) (ad := ad) hcells' with hz | ⟨a', ha', v, hv, hrv⟩
        · have := hz (α := Nat) (fun _ => 1) 0
          rw [hla] at this
          cases this
        · have h2 := hla (α := AV) id .any
          rw [ha'] at h2
          simp at h2
          subst h2
          refine ⟨v, fun w' hw => exec_load rfl e ?_, hrv⟩
          have := hv w' hw
          rwa [show ad.add 0 = ad by unfold Addr.add; simp] at this
  case call c =>
    obtain ⟨callee, args, argTypes⟩ := c
    obtain ⟨args⟩ := args
    obtain ⟨argTypes⟩ := argTypes
    cases callee <;> first | (left; intro α k z; rfl) | skip
    rename_i b
    cases b <;> first | (left; intro α k z; rfl) | skip
    match args, argTypes with
    | [], _ => left; intro α k z; rfl
    | [x], [] => left; intro α k z; rfl
    | [x], _ :: _ :: _ => left; intro α k z; rfl
    | _ :: _ :: _, _ => left; intro α k z; rfl
    | [x], [t] =>
      have hres : ∀ fc w, (execOp (ev n fc) ⟨dst, .call ⟨.builtin .len, ⟨[x]⟩, ⟨[t]⟩⟩, ty, pos, after, guard⟩).run P w = ((Builtin.len_ #[t] ty #[ev n fc x]).run P w).andThen fun v w => .ok (.value v) w := by
        intro fc w
        simp [execOp, resolve, invoke, builtin]
      simp only [readA, evAK_eq]
      have key := fun {M w fc} (h : EnvRep M w f fc) => h.eval (n := n) x
      cases htl : tl L t <;> first | (left; intro α k z; rfl) | skip
      case str =>
        have hstr : ∀ {s : ByteArray} {fc w}, ev n fc x = .string s → (execOp (ev n fc) ⟨dst, .call ⟨.builtin .len, ⟨[x]⟩, ⟨[t]⟩⟩, ty, pos, after, guard⟩).run P w = .ok (.value (.int .i64 s.size)) w := by
          intro s fc w h
          rw [hres]
          simp [Builtin.len_, underlying, str_tl hT htl, h, goInt]
        cases ha : evA n f x <;> first | (left; intro α k z; rfl) | skip
        case v a h =>
          cases a <;> first | (left; intro α k z; rfl) | skip
          refine .inr ⟨_, [], fun k z => rfl, fun M w Sp Su fc W hob henv hp hu hs hs' hd' => ⟨_, fun w' hw => hstr ?_, mk_v⟩⟩
          have hx := key henv; rw [ha] at hx; exact rep_v hx
        case d a =>
          cases a <;> first | (left; intro α k z; rfl) | skip
          rename_i a
          cases a <;> first | (left; intro α k z; rfl) | skip
          refine .inr ⟨_, [], fun k z => rfl, fun M w Sp Su fc W hob henv hp hu hs hs' hd' => ⟨_, fun w' hw => hstr ?_, mk_v⟩⟩
          have hx := key henv; rw [ha] at hx; exact rep_dv hx
      case sl e m =>
        have hsl : ∀ {A : Option Addr} {m c : Nat} {fc w}, ev n fc x = .slice A m c → (execOp (ev n fc) ⟨dst, .call ⟨.builtin .len, ⟨[x]⟩, ⟨[t]⟩⟩, ty, pos, after, guard⟩).run P w = .ok (.value (.int .i64 m)) w := by
          intro A m c fc w h
          rw [hres]
          simp [Builtin.len_, underlying, (sl_tl hT htl).1, h, goInt]
        cases ha : evA n f x <;> first | (left; intro α k z; rfl) | skip
        case v a h =>
          cases a <;> first | (left; intro α k z; rfl) | skip
          refine .inr ⟨_, [], fun k z => rfl, fun M w Sp Su fc W hob henv hp hu hs hs' hd' => ?_⟩
          have hx := key henv
          rw [ha] at hx
          exact ⟨_, fun w' hw => hsl (rep_v hx), mk_v⟩
        case d a =>
          cases a <;> first | (left; intro α k z; rfl) | skip
          rename_i kk es
          refine .inr ⟨_, [], fun k z => rfl, fun M w Sp Su fc W hob henv hp hu hs hs' hd' => ?_⟩
          have hx := key henv
          rw [ha] at hx
          unfold Rep at hx
          unfold DRep at hx
          obtain ⟨A, c, e, _⟩ := hx
          exact ⟨_, fun w' hw => hsl e, mk_v⟩
        case row y h =>
          simp only
          rcases findK_cases rp rs σp σ h with hk | ⟨c, hk, hf⟩
          · left; intro α k z; exact hk _ z
          cases c <;> first | (left; intro α k z; rw [hk]; done) | skip
          rename_i y' e' k' es
          refine .inr ⟨_, [(y, y')], fun k z => by rw [hk], fun M w Sp Su fc W hob henv hp hu hs hs' hd' => ?_⟩
          have e := hob (y, y') (by simp)
          simp only at e
          subst e
          obtain ⟨S1, hc, hst⟩ := found hf hp hu hs hs'
          obtain ⟨hS, hk', xs, ho, hv⟩ := hc
          have hx := key henv
          rw [ha] at hx
          unfold Rep at hx
          rcases ho.2 with ⟨h1, h2⟩ | ⟨g, cap, cur, h1, _⟩
          · refine ⟨_, fun w' hw => hsl (hx.1.trans h1), ?_⟩
            unfold Rep
            rw [h2]
          · exact ⟨_, fun w' hw => hsl (hx.1.trans h1), mk_v⟩
      case map =>
        cases ha : evA n f x <;> first | (left; intro α k z; rfl) | skip
        rename_i a h
        cases a <;> first | (left; intro α k z; rfl) | skip
        rename_i r
        obtain ⟨ka, kb, hu'⟩ : ∃ a b, P.underlying t = some (.map a b) := by
          rcases hT t with h | h
          · rw [h] at htl; cases htl
          · rw [h] at htl; exact tdOf_map htl
        cases r with
        | none =>
          refine .inr ⟨_, [], fun k z => rfl, fun M w Sp Su fc W hob henv hp hu hs hs' hd' => ⟨_, fun w' hw => ?_, mk_v⟩⟩
          have hx := key henv; rw [ha] at hx
          rw [hres]
          simp [Builtin.len_, underlying, hu', rep_v hx, goInt]
        | some r =>
          simp only
          rcases findK_cases rp rs σp σ h with hk | ⟨c, hk, hf⟩
          · left; intro α k z; exact hk _ z
          cases c <;> first | (left; intro α k z; rw [hk]; done) | skip
          rename_i r' es
          refine .inr ⟨_, [(.map (some r), .map (some r'))], fun k z => by rw [hk], fun M w Sp Su fc W hob henv hp hu hs hs' hd' => ?_⟩
          have e := hob (.map (some r), .map (some r')) (by simp)
          simp only [Value.map.injEq, Option.some.injEq] at e
          subst e
          obtain ⟨S1, hc, hst⟩ := found hf hp hu hs hs'
          obtain ⟨hS, ents, clock, hh, hr, _⟩ := hc
          have hx := key henv
          rw [ha] at hx
          have hlen : ∀ {ps : List (Value × AV)} {es : List MapEntry}, EntsRep M w ps es → es.length = ps.length := by
            intro ps
            induction ps with
            | nil => intro es h; unfold EntsRep at h; simp [h]
            | cons p ps ih => intro es h; unfold EntsRep at h; obtain ⟨e, r, rfl, _, h⟩ := h; simp [ih h]
          refine ⟨_, fun w' hw => ?_, mk_v⟩
          have hh' : w'.heap[r]? = some (.map ents clock) := by rw [hst w' hw r ((hS r).2 rfl)]; exact hh
          rw [hres]
          have := hlen hr
          simp at this
          simp [Builtin.len_, underlying, hu', rep_v hx, run_get hh' (by simp), goInt, this]

/-- What is written, by its cells. -/
theorem wcK_says {P : Program} {L : List TD} (hT : TOk P L) (t : TypeId) (a : AV) :
    (∀ {α : Type} (k : List AV → α) (z : α), wcK L t a k z = z) ∨ ∃ vs, (∀ {α : Type} (k : List AV → α) (z : α), wcK L t a k z = k vs) ∧ P.cellsOf t = vs.length ∧ (P.info? t).isSome = true ∧
      ∀ M w x, Rep M w a x → Reps M w vs x.cells.toList ∧ ∀ u ∈ x.cells.toList, u.oneCell' = true := by
  unfold wcK
  cases h1 : oneT (tl L t)
  · cases htl : tl L t <;> first | (left; intro α k z; rfl) | skip
    rename_i m fs
    cases a <;> first | (left; intro α k z; rfl) | skip
    rename_i cs
    simp only
    cases hb : Nat.beq cs.length m
    · left; intro α k z; rfl
    · right
      obtain ⟨d, hd, _, hm⟩ := agg_tl hT htl
      refine ⟨cs, fun k z => rfl, by rw [hm]; exact (Nat.eq_of_beq_eq_true hb).symm, some_of_one hd, fun M w x hr => ?_⟩
      unfold Rep at hr
      obtain ⟨ys, rfl, hr, h1⟩ := hr
      exact ⟨by simpa [Value.cells] using hr, by simpa [Value.cells] using h1⟩
  · cases h2 : one1 a
    · left; intro α k z; rfl
    · right
      obtain ⟨d, hd, _, hm⟩ := one_tl hT h1
      refine ⟨[a], fun k z => rfl, by rw [hm]; rfl, some_of_one hd, fun M w x hr => ?_⟩
      have hx := one1_one h2 hr
      rw [cells_one hx]
      exact ⟨Reps.cons hr Reps.nil, by simpa using hx⟩
theorem setA_eq : ∀ (cs : List AV) (i : Nat) (vs : List AV), i + vs.length ≤ cs.length → setA cs i vs = cs.take i ++ vs ++ cs.drop (i + vs.length)
  | [], i, vs, h => by
    obtain ⟨rfl, rfl⟩ : i = 0 ∧ vs = [] := by simpa using h
    simp [setA]
  | c :: cs, 0, [], h => by simp [setA]
  | c :: cs, 0, v :: vs, h => by
    show v :: setA cs 0 vs = _
    rw [setA_eq cs 0 vs (by simp at h ⊢; omega)]
    simp
  | c :: cs, i + 1, vs, h => by
    show c :: setA cs i vs = _
    rw [setA_eq cs i vs (by simp at h; omega)]
    rw [show i + 1 + vs.length = (i + vs.length) + 1 by omega]
    simp
/-- One's own memory, written: the new world. -/
theorem storeA_says {P : Program} {L : List TD} (hT : TOk P L) (n : Nat) (σ : Store) (f : AEnv) (o : Oper) :
    (∀ {α : Type} (k : Store → Obs → α) (z : α), storeA L n σ f o.op k z = z) ∨ ∃ σ' ob, (∀ {α : Type} (k : Store → Obs → α) (z : α), storeA L n σ f o.op k z = k σ' ob) ∧
      ∀ (M : Nat → Prop) (w : World) (Su : Nat → Prop) (fc : Env), OT ob → EnvRep M w f fc → Holds M w σ Su → (∀ b, Su b → M b) →
        ∃ w1, (execOp (ev n fc) o).run P w = .ok .skip w1 ∧ Ev Su w w1 ∧ Holds M w1 σ' Su := by
  obtain ⟨dst, op, ty, pos, after, guard⟩ := o
  cases op <;> first | (left; intro α k z; rfl) | skip
  rename_i t x y
  simp only [storeA, evAK_eq]
  cases ha : evA n f x <;> first | (left; intro α k z; rfl) | skip
  rename_i a h
  cases a <;> first | (left; intro α k z; rfl) | skip
  rename_i a
  cases a with
  | none => left; intro α k z; rfl
  | some a =>
    obtain ⟨g, off, sp⟩ := a
    simp only
    rcases wcK_says (P := P) hT t (evA n f y) with hz | ⟨vs, hvs, hsz, hinf, hrep⟩
    · left; intro α k z; exact hz _ z
    cases hl : look σ h with
    | none => left; intro α k z; rw [hvs, lookK_eq, hl]
    | some c =>
      cases c <;> first | (left; intro α k z; rw [hvs, lookK_eq, hl]; done) | skip
      rename_i g' t' cs
      cases hle : Nat.ble (off + vs.length) cs.length
      · left; intro α k z; rw [hvs, lookK_eq, hl]; simp only [hle]
      · refine .inr ⟨upd σ h (.blk g' t' (setA cs off vs)), [(ptrV g sp, ptrV g' none)], fun k z => by rw [hvs, lookK_eq, hl]; simp only [hle, setK_eq, updK_eq], fun M w Su fc hob henv hu hM => ?_⟩
        have e := hob (ptrV g sp, ptrV g' none) (by simp)
        simp only [ptrV, Value.pointer.injEq, Option.some.injEq, Addr.mk.injEq] at e
        obtain ⟨rfl, _, rfl⟩ := e
        obtain ⟨S1, S2, hS, hd, hc, hrest⟩ := hu.take hl
        obtain ⟨hS1, xs, hb, hr, h1⟩ := hc
        obtain ⟨hry, h1y⟩ := hrep M w _ (henv.eval (n := n) y)
        have hle' := Nat.le_of_ble_eq_true hle
        have hlx := hr.len
        have hly := hry.len
        obtain ⟨r1, r2, r3⟩ := run_storeB (P := P) hb (off := off) (vs := (ev n fc y).cells.toList) (by omega) h1y
        have hx := henv.eval (n := n) x
        rw [ha] at hx
        have hw : MayW w ⟨g, off, none⟩ (ev n fc y).cells.toList.length := fun j hj => by
          rw [add_off, hb.cell (off + j) (List.getElem?_eq_getElem (by omega))]
          exact ⟨rfl, hb.free _⟩
        have hrun := exec_store (P := P) (n := n) (f := fc) (o := ⟨dst, .store t x y, ty, pos, after, guard⟩) hT rfl (rep_v hx) rfl (by rw [hsz]; omega) hinf h1y hw
        have hev : Ev Su w (setAll w ⟨g, off, none⟩ 0 (ev n fc y).cells.toList) := r3.mono fun b _ hb' => (hS b).2 (.inl ((hS1 b).2 hb'))
        refine ⟨_, hrun, hev, ?_⟩
        have hm : ∀ b, b < w.heap.size → at1 g b ∨ M b → M b := fun b _ hb' => hb'.elim (fun hb' => hM b ((hS b).2 (.inl ((hS1 b).2 hb')))) id
        have hnew : CRep M (setAll w ⟨g, off, none⟩ 0 (ev n fc y).cells.toList) (.blk g t' (setA cs off vs)) S1 := by
          refine ⟨hS1, _, r2, ?_, ?_⟩
          · rw [setA_eq cs off vs hle', ← hly]
            exact (((hr.take off).app hry).app (hr.drop _)).ev r3 hm
          · intro u hu'
            rw [List.mem_append, List.mem_append] at hu'
            rcases hu' with (hu' | hu') | hu'
            · exact h1 u (List.mem_of_mem_take hu')
            · exact h1y u hu'
            · exact h1 u (List.mem_of_mem_drop hu')
        refine (Holds.upd (S1 := S1) r3 hm hu hl hrest (fun b hb' hg => hd b ((hS1 b).2 hg) hb') hd hnew).iff hS

end Go.Proofs.Ytepjnmocepkfjaa.A
