/- Operations that a walk does by itself, on what it knows of the values. It holds of any program. -/
import Derived.Test.YtepjnmocepkfjaaA
set_option linter.unusedVariables false
set_option linter.unusedSimpArgs false
namespace Go.Proofs.Ytepjnmocepkfjaa.A
open V

/-! ### Frames -/
abbrev AEnv := List (Nat × AV)
def getAK {α : Type} : AEnv → Nat → (AV → α) → α
  | [], _, k => k .any
  | (s, v) :: r, t, k => match Nat.beq s t with | true => k v | false => getAK r t k
def getA (f : AEnv) (t : Nat) : AV := getAK f t id
theorem getAK_eq {α : Type} : ∀ (f : AEnv) (t : Nat) (k : AV → α), getAK f t k = k (getA f t)
  | [], _, _ => rfl
  | (s, v) :: r, t, k => by
    unfold getA getAK
    cases h : Nat.beq s t
    · simp only []; rw [getAK_eq r t k, getAK_eq r t id]; rfl
    · rfl
theorem getA_cons (d : Nat) (v : AV) (f : AEnv) (t : Nat) : getA ((d, v) :: f) t = if t = d then v else getA f t := by
  by_cases h : t = d
  · subst h; simp [getA, getAK]
  · have : Nat.beq d t = false := by
      cases hb : Nat.beq d t
      · rfl
      · exact absurd (Nat.eq_of_beq_eq_true hb).symm h
    simp only [getA, getAK, this, h, if_false]
def ones : List Value → Bool
  | [] => true
  | v :: l => match v.oneCell' with | true => ones l | false => false
theorem ones_spec : ∀ {l : List Value}, ones l = true → ∀ u ∈ l, u.oneCell' = true
  | [], _, u, hu => by simp at hu
  | v :: l, h, u, hu => by
    unfold ones at h
    split at h
    · rcases List.mem_cons.1 hu with rfl | hu
      · assumption
      · exact ones_spec h u hu
    · cases h
def cAV : Value → AV
  | .agg cs => match ones cs.toList with | true => .agg (cs.toList.map fun x => .v x 0) | false => .v (.agg cs) 0
  | v => .v v 0
theorem reps_vs {M : Nat → Prop} {w : World} : ∀ (l : List Value), Reps M w (l.map fun x => .v x 0) l
  | [] => Reps.nil
  | v :: l => Reps.cons (by unfold Rep; rfl) (reps_vs l)
theorem cAV_rep {M : Nat → Prop} {w : World} (v : Value) : Rep M w (cAV v) v := by
  cases v
  case agg cs =>
    show Rep M w (match ones cs.toList with | true => .agg (cs.toList.map fun x => .v x 0) | false => .v (.agg cs) 0) (.agg cs)
    cases h : ones cs.toList
    · unfold Rep; rfl
    · show Rep M w (.agg _) _
      unfold Rep
      exact ⟨cs.toList, by simp, reps_vs _, ones_spec h⟩
  all_goals (show Rep M w (.v _ 0) _; unfold Rep; rfl)
def evAK {α : Type} (n : Nat) (f : AEnv) : Operand → (AV → α) → α
  | .tmp t, k => match Nat.blt t n with | true => getAK f t k | false => k (.v undef 0)
  | .const v, k => k (cAV v)
  | .func g, k => k (.fn g [])
  | .global g, k => k (.v (.pointer (some ⟨g, 0, none⟩)) 0)
def evA (n : Nat) (f : AEnv) (x : Operand) : AV := evAK n f x id
theorem evAK_eq {α : Type} (n : Nat) (f : AEnv) (x : Operand) (k : AV → α) : evAK n f x k = k (evA n f x) := by
  cases x with
  | tmp t =>
    unfold evA
    simp only [evAK]
    cases Nat.blt t n
    · rfl
    · simp only []; rw [getAK_eq, getAK_eq f t id]; rfl
  | _ => rfl
/-- A known value, told one way. -/
def nm : AV → AV
  | .d (.v x) => .v x 0
  | a => a
def evNK {α : Type} (n : Nat) (f : AEnv) (x : Operand) (k : AV → α) : α := evAK n f x fun a => match a with | .d (.v x) => k (.v x 0) | a => k a
def evN (n : Nat) (f : AEnv) (x : Operand) : AV := nm (evA n f x)
theorem evNK_eq {α : Type} (n : Nat) (f : AEnv) (x : Operand) (k : AV → α) : evNK n f x k = k (evN n f x) := by
  unfold evNK evN
  rw [evAK_eq]
  cases evA n f x <;> first | rfl | (rename_i d; cases d <;> rfl)
def EnvRep (M : Nat → Prop) (w : World) (f : AEnv) (fc : Env) : Prop := ∀ t, Rep M w (getA f t) (get fc t)
theorem EnvRep.pass {M M' N : Nat → Prop} {w w' : World} (he : Ev N w w') (hm : ∀ b, b < w.heap.size → N b ∨ M' b → M b) {f : AEnv} {fc : Env} (h : EnvRep M w f fc) : EnvRep M' w' f fc := fun t => (h t).ev he hm
theorem EnvRep.of {M M' : Nat → Prop} {w : World} {f : AEnv} {fc : Env} (h : EnvRep M w f fc) (hm : ∀ b, b < w.heap.size → M' b → M b) : EnvRep M' w f fc := fun t => (h t).of hm
theorem EnvRep.eval {M : Nat → Prop} {w : World} {n : Nat} {f : AEnv} {fc : Env} (h : EnvRep M w f fc) (x : Operand) : Rep M w (evA n f x) (ev n fc x) := by
  cases x with
  | tmp t =>
    unfold evA ev
    simp only [evAK, evK]
    cases Nat.blt t n
    · unfold Rep; rfl
    · simp only []; rw [getAK_eq, getK_eq]; exact h t
  | const v => exact cAV_rep v
  | func g => show Rep M w (.fn g []) (.func (.func g) #[] #[]); unfold Rep; exact ⟨[], rfl, Reps.nil⟩
  | global g => show Rep M w (.v (.pointer (some ⟨g, 0, none⟩)) 0) (.pointer (some ⟨g, 0, none⟩)); unfold Rep; rfl
theorem EnvRep.evalN {M : Nat → Prop} {w : World} {n : Nat} {f : AEnv} {fc : Env} (h : EnvRep M w f fc) (x : Operand) : Rep M w (evN n f x) (ev n fc x) := by
  have := h.eval (n := n) x
  unfold evN
  generalize evA n f x = a at this ⊢
  cases a with
  | d d =>
    cases d with
    | v y => show Rep M w (.v y 0) _; unfold Rep at this ⊢; unfold DRep at this; exact this.1
    | _ => exact this
  | _ => exact this
def putA (f : AEnv) (d : Option Tmp) (v : AV) : AEnv := match d with | some d => (d, v) :: f | none => f
def putAK {α : Type} (f : AEnv) (d : Option Tmp) (v : AV) (k : AEnv → α) : α := match d with | some d => k ((d, v) :: f) | none => k f
theorem putAK_eq {α : Type} (f : AEnv) (d : Option Tmp) (v : AV) (k : AEnv → α) : putAK f d v k = k (putA f d v) := by cases d <;> rfl
theorem EnvRep.put {M : Nat → Prop} {w : World} {f : AEnv} {fc : Env} (h : EnvRep M w f fc) (d : Option Tmp) {a : AV} {v : Value} (hv : Rep M w a v) : EnvRep M w (putA f d a) (put fc d v) := by
  cases d with
  | none => exact h
  | some d =>
    intro t
    show Rep M w (getA ((d, a) :: f) t) (get ((d, v) :: fc) t)
    rw [getA_cons, get_cons]
    split
    · exact hv
    · exact h t
def evAs (n : Nat) (f : AEnv) : List Operand → List AV
  | [] => []
  | x :: l => evA n f x :: evAs n f l
def evAsK {α : Type} (n : Nat) (f : AEnv) : List Operand → (List AV → α) → α
  | [], k => k []
  | x :: l, k => evAK n f x fun a => evAsK n f l fun as => k (a :: as)
theorem evAsK_eq {α : Type} (n : Nat) (f : AEnv) : ∀ (l : List Operand) (k : List AV → α), evAsK n f l k = k (evAs n f l)
  | [], k => rfl
  | x :: l, k => by unfold evAsK; rw [evAK_eq, evAsK_eq]; rfl
theorem EnvRep.evals {M : Nat → Prop} {w : World} {n : Nat} {f : AEnv} {fc : Env} (h : EnvRep M w f fc) : ∀ l : List Operand, Reps M w (evAs n f l) (l.map (ev n fc))
  | [] => Reps.nil
  | x :: l => Reps.cons (h.eval x) (h.evals l)

/-! ### What an operation of its own yields -/
def takeK {α : Type} (n : Nat) (l : List AV) (k : List AV → α) : α := match n with
  | 0 => k []
  | n + 1 => match l with
    | [] => k []
    | x :: l => takeK n l fun r => k (x :: r)
theorem takeK_eq {α : Type} : ∀ (n : Nat) (l : List AV) (k : List AV → α), takeK n l k = k (l.take n)
  | 0, l, k => by unfold takeK; simp
  | n + 1, [], k => by unfold takeK; simp
  | n + 1, x :: l, k => by show takeK n l (fun r => k (x :: r)) = _; rw [takeK_eq]; simp
def dropK {α : Type} (n : Nat) (l : List AV) (k : List AV → α) : α := match n with
  | 0 => k l
  | n + 1 => match l with
    | [] => k []
    | _ :: l => dropK n l k
theorem dropK_eq {α : Type} : ∀ (n : Nat) (l : List AV) (k : List AV → α), dropK n l k = k (l.drop n)
  | 0, l, k => by unfold dropK; simp
  | n + 1, [], k => by unfold dropK; simp
  | n + 1, x :: l, k => by show dropK n l k = _; rw [dropK_eq]; simp
def partA {α : Type} (cs : List AV) (s : Nat × Nat × Bool) (k : AV → α) (z : α) : α :=
  match s.2.2 with
  | true => match Nat.ble (s.1 + s.2.1) cs.length with
    | true => dropK s.1 cs fun r => takeK s.2.1 r fun r => k (.agg r)
    | false => z
  | false => nthK cs s.1 k z
/-- The cells of an element of the store from off on. -/
def loadK {α : Type} (L : List TD) (t : TypeId) (cs : List AV) (off : Nat) (k : AV → α) (z : α) : α :=
  match oneT (tl L t) with
  | true => nthK cs off k z
  | false => match tl L t with
    | .agg m _ => match Nat.ble (off + m) cs.length with
      | true => dropK off cs fun r => takeK m r fun r => k (.agg r)
      | false => z
    | _ => z
def dcells : List Dat → List AV
  | [] => []
  | d :: ds => .d d :: dcells ds
theorem dcells_eq : ∀ ds, dcells ds = ds.map .d
  | [] => rfl
  | d :: ds => by unfold dcells; rw [dcells_eq]; rfl
abbrev Obs := List (Value × Value)
def lenK {α : Type} (a : AV) (rp rs : Bool) (σp σ : Store) (ob : Obs) (k : Nat → Obs → α) (z : α) : α := match a with
  | .v (.string s) _ => k s.size ob
  | .v (.slice _ m _) _ => k m ob
  | .v (.map none) _ => k 0 ob
  | .d (.sl _ es) => k es.length ob
  | .v (.map (some r)) h => match rs with
    | true => lookK σ h (fun c => match c with | .map r' es => k es.length ((.map (some r), .map (some r')) :: ob) | _ => z) (match rp with | true => lookK σp h (fun c => match c with | .map r' es => k es.length ((.map (some r), .map (some r')) :: ob) | _ => z) z | false => z)
    | false => match rp with | true => lookK σp h (fun c => match c with | .map r' es => k es.length ((.map (some r), .map (some r')) :: ob) | _ => z) z | false => z
  | .row x h => match rs with
    | true => lookK σ h (fun c => match c with | .row x' _ _ es => k es.length ((x, x') :: ob) | _ => z) (match rp with | true => lookK σp h (fun c => match c with | .row x' _ _ es => k es.length ((x, x') :: ob) | _ => z) z | false => z)
    | false => match rp with | true => lookK σp h (fun c => match c with | .row x' _ _ es => k es.length ((x, x') :: ob) | _ => z) z | false => z
  | _ => z
def pureA {α : Type} (L : List TD) (n : Nat) (dec : List Nat) (f : AEnv) (o : Op) (k : AV → α) (z : α) : α :=
  match o with
  | .move x | .assign x => evAK n f x k
  | .nilCheck x => evAK n f x fun a => match a with
    | .v (.pointer (some p)) h => k (.v (.pointer (some p)) h)
    | .d (.p ds) => k (.d (.p ds))
    | .fn g cs => k (.fn g cs)
    | _ => z
  | .binOp op t x y _ => evNK n f x fun a => evNK n f y fun b => match a, b with
    | .v p _, .v q _ => binK (tl L t) op p q (fun r => k (.v r 0)) z
    | .d (.p ds), .v (.pointer none) _ => match tl L t, op with
      | .ptr, .eql => k (.v (.bool false) 0)
      | .ptr, .neq => k (.v (.bool true) 0)
      | _, _ => z
    | _, _ => z
  | .unOp op _ x => evNK n f x fun a => match a with
    | .v a _ => (match op, a with
      | .not, .bool b => k (.v (.bool (!b)) 0)
      | .neg, .int i b => k (.v (.int i (i.wrap (0 - b))) 0)
      | _, _ => z)
    | _ => z
  | .convert s d x => evNK n f x fun a => match a with
    | .v a _ => (match tl L s, tl L d, a with
      | .int _, .int j, .int _ m => k (.v (.int j (j.wrap m)) 0)
      | .str, .str, .string b => k (.v (.string b) 0)
      | _, _, _ => z)
    | _ => z
  | .fieldAddr s x i => evAK n f x fun a => match tl L s, a with
    | .agg _ fs, .v (.pointer (some p)) h => nthK fs i (fun q => k (.v (.pointer (some (p.add q.1))) h)) z
    | .agg _ fs, .d (.p ds) => nthK fs i (fun q => k (.d (.p (ds.drop q.1)))) z
    | _, _ => z
  | .field s x i => evAK n f x fun a => match tl L s, a with
    | .agg _ fs, .agg cs => nthK fs i (fun q => partA cs q k z) z
    | _, _ => z
  | .extract x i => evAK n f x fun a => match a with
    | .tup vs => nthK vs i k z
    | _ => z
  | .makeFunc (.func g) ⟨[]⟩ cs => evAsK n f cs.toList fun as => k (.fn g as)
  | .makeInterface t x => evAK n f x fun a => match tl L t with
    | .non | .ifc => z
    | _ => k (.ifc t a)
  | .call { callee := .builtin .max, args := ⟨[x, y]⟩, .. } => evNK n f x fun a => evNK n f y fun b => match a, b with
      | .v (.int i p) _, .v (.int _ q) _ => k (.v (.int i (if q > p then q else p)) 0)
      | _, _ => z
  | .call { callee := .builtin .min, args := ⟨[x, y]⟩, .. } => evNK n f x fun a => evNK n f y fun b => match a, b with
      | .v (.int i p) _, .v (.int _ q) _ => k (.v (.int i (if q < p then q else p)) 0)
      | _, _ => z
  | .pick (.tmp c) x y => match memK dec c with
    | true => evNK n f (.tmp c) fun v => match v with
      | .v (.bool true) _ => evAK n f x k
      | .v (.bool false) _ => evAK n f y k
      | _ => z
    | false => z
  | .typeAssert x _ at_ ok => evAK n f x fun a => match tl L at_ with
    | .non | .ifc => z
    | _ => match a with
      | .ifc t a => (match Nat.beq t at_, ok with
        | true, true => k (.tup [a, .v (.bool true) 0])
        | true, false => k a
        | false, _ => z)
      | .d (.ifc t true ds) => (match Nat.beq t at_, ok with
        | true, true => k (.tup [.agg (dcells ds), .v (.bool true) 0])
        | true, false => k (.agg (dcells ds))
        | false, _ => z)
      | .d (.ifc t false [d]) => (match Nat.beq t at_, ok with
        | true, true => k (.tup [.d d, .v (.bool true) 0])
        | true, false => k (.d d)
        | false, _ => z)
      | _ => z
  | _ => z

/-- A value known whole: either way of telling it. -/
theorem rep_v {M : Nat → Prop} {w : World} {x : Value} {h : Nat} {y : Value} (hr : Rep M w (.v x h) y) : y = x := by unfold Rep at hr; exact hr
theorem rep_dv {M : Nat → Prop} {w : World} {x : Value} {y : Value} (hr : Rep M w (.d (.v x)) y) : y = x := by unfold Rep at hr; unfold DRep at hr; exact hr.1
theorem mk_v {M : Nat → Prop} {w : World} {x : Value} {h : Nat} : Rep M w (.v x h) x := by unfold Rep; rfl

def PureSays (P : Program) (n : Nat) (f : AEnv) (o : Oper) (g : ∀ {α : Type}, (AV → α) → α → α) : Prop :=
  (∀ {α : Type} (k : AV → α) (z : α), g k z = z) ∨
  ∃ a, (∀ {α : Type} (k : AV → α) (z : α), g k z = k a) ∧ ∀ M w fc, EnvRep M w f fc → ∃ v, (∀ w', (execOp (ev n fc) o).run P w' = .ok (.value v) w') ∧ Rep M w a v

theorem nthA_cases {β : Type} (l : List β) (i : Nat) : (∃ b, l[i]? = some b ∧ ∀ {α : Type} (k : β → α) (z : α), nthK l i k z = k b) ∨ (∀ {α : Type} (k : β → α) (z : α), nthK l i k z = z) := nthK_cases (α' := Unit) l i

theorem agg_fields {P : Program} {L : List TD} (hT : TOk P L) {s : TypeId} {m : Nat} {fs : List (Nat × Nat × Bool)} (hs' : tl L s = .agg m fs) :
    ∃ (Fs : Array Field) (i : TypeInfo), P.underlying s = some (.struct Fs) ∧ P.info? s = some i ∧ i.size = m ∧
      (∀ f ∈ Fs.toList, (P.info? f.type).isSome = true ∧ (P.underlying f.type).isSome = true ∧ P.cellsOf f.type ≠ 0) ∧ fs = Fs.toList.map fun f => (f.offset, P.cellsOf f.type, aggOf P f.type) := by
  rcases hT s with hs | hs
  · rw [hs] at hs'; cases hs'
  · exact tdOf_agg (hs.symm.trans hs')
theorem exec_bin {P : Program} {L : List TD} (hT : TOk P L) {n : Nat} {fc : Env} {o : Oper} {op : BinOp} {t yt : TypeId} {x y : Operand} {p q : Value} (ho : o.op = .binOp op t x y yt) (hx : ev n fc x = p) (hy : ev n fc y = q) :
    (∀ {α : Type} (k : Value → α) (z : α), binK (tl L t) op p q k z = z) ∨
    ∃ v, (∀ w, (execOp (ev n fc) o).run P w = .ok (.value v) w) ∧ ∀ {α : Type} (k : Value → α) (z : α), binK (tl L t) op p q k z = k v := by
  have := binK_says (P := P) hT (n := n) (f := fc) ho
  rw [hx, hy] at this
  exact this
/-- Whether the machine yields a value of two numbers, texts or pointers, doesn't hang on where they stand. -/
theorem binK_val {P : Program} {L : List TD} (hT : TOk P L) {op : BinOp} {t : TypeId} {p q : Value} :
    (∀ {α : Type} (k : Value → α) (z : α), binK (tl L t) op p q k z = z) ∨
    ∃ v, (∀ {α : Type} (k : Value → α) (z : α), binK (tl L t) op p q k z = k v) ∧ ∀ (n : Nat) (fc : Env) (o : Oper) (yt : TypeId) (x y : Operand) w, o.op = .binOp op t x y yt → ev n fc x = p → ev n fc y = q → (execOp (ev n fc) o).run P w = .ok (.value v) w := by
  rcases exec_bin (P := P) hT (n := 2) (fc := [(0, p), (1, q)]) (o := ⟨none, .binOp op t (.tmp 0) (.tmp 1) 0, 0, "", #[], none⟩) (op := op) (t := t) (yt := 0) (x := .tmp 0) (y := .tmp 1) (p := p) (q := q) rfl rfl rfl with h | ⟨v, hv, hk⟩
  · exact .inl h
  · refine .inr ⟨v, hk, fun n fc o yt x y w ho hx hy => ?_⟩
    rcases exec_bin (P := P) hT (n := n) (fc := fc) (o := o) ho hx hy with h | ⟨v', hv', hk'⟩
    · have := h (α := Nat) (fun _ => 1) 0
      rw [hk] at this
      cases this
    · have h1 := hk (α := Value) id p
      rw [hk'] at h1
      simp at h1
      rw [← h1]
      exact hv' w
theorem ptr_tl {P : Program} {L : List TD} (hT : TOk P L) {t : TypeId} (ht : tl L t = .ptr) : ∃ e, P.underlying t = some (.pointer e) := by
  rcases hT t with h | h
  · rw [h] at ht; cases ht
  · rw [h] at ht; exact tdOf_ptr ht
theorem exec_ptr_nil {P : Program} {L : List TD} (hT : TOk P L) {n : Nat} {fc : Env} {o : Oper} {op : BinOp} {t yt : TypeId} {x y : Operand} {ad : Addr} (ho : o.op = .binOp op t x y yt) (hx : ev n fc x = .pointer (some ad)) (hy : ev n fc y = .pointer none) (ht : tl L t = .ptr) (hop : op = .eql ∨ op = .neq) (w : World) :
    (execOp (ev n fc) o).run P w = .ok (.value (.bool (op.ctorIdx == BinOp.neq.ctorIdx))) w := by
  rw [run_binOp ho, hx, hy, guard_int (by simp)]
  obtain ⟨e, hu⟩ := ptr_tl hT ht
  have he : (Op.equal t (.pointer (some ad)) (.pointer none)).run P w = .ok false w := by
    show (Op.equalIn (9999 + 1) t _ _).run P w = _
    unfold Op.equalIn
    simp [underlying, hu]
  rcases hop with rfl | rfl
  · show (Result.ok () w).andThen _ = _
    simp [binOp, he]; decide
  · show (Result.ok () w).andThen _ = _
    simp [binOp, he]

theorem makeIfc {P : Program} {L : List TD} (hT : TOk P L) {t : TypeId} {v : Value} (h1 : tl L t ≠ .non) (h2 : tl L t ≠ .ifc) (w : World) : (Instr.makeInterface t v).run P w = .ok (.iface t v) w := by
  rcases hT t with hs | hs
  · exact absurd hs h1
  rw [hs] at h1 h2
  have : ∃ d, P.underlying t = some d ∧ ∀ ms, d ≠ .interface ms := by
    unfold tdOf at h1 h2
    cases hu : P.underlying t with
    | none => simp [hu] at h1
    | some d =>
      refine ⟨d, rfl, fun ms e => ?_⟩
      subst e
      rw [hu] at h1 h2
      cases hi : P.info? t with
      | none => rw [hi] at h1; exact h1 rfl
      | some i =>
        rw [hi] at h1 h2
        simp only at h1 h2
        split at h2
        · exact h2 rfl
        · rename_i h; simp [h] at h1
  obtain ⟨d, hd, hne⟩ := this
  unfold Instr.makeInterface
  cases d <;> simp [underlying, hd] <;> exact hne _ rfl
theorem noIfc {P : Program} {L : List TD} (hT : TOk P L) {t : TypeId} (h1 : tl L t ≠ .non) (h2 : tl L t ≠ .ifc) : ∃ d, P.underlying t = some d ∧ ∀ ms, d ≠ .interface ms := by
  rcases hT t with hs | hs
  · exact absurd hs h1
  rw [hs] at h1 h2
  unfold tdOf at h1 h2
  cases hu : P.underlying t with
  | none => simp [hu] at h1
  | some d =>
    refine ⟨d, rfl, fun ms e => ?_⟩
    subst e
    rw [hu] at h1 h2
    cases hi : P.info? t with
    | none => rw [hi] at h1; exact h1 rfl
    | some i =>
      rw [hi] at h1 h2
      simp only at h1 h2
      split at h2
      · exact h2 rfl
      · rename_i h; simp [h] at h1
theorem run_assert {P : Program} {L : List TD} (hT : TOk P L) {t xt : TypeId} {v : Value} {ok : Bool} (h1 : tl L t ≠ .non) (h2 : tl L t ≠ .ifc) (w : World) :
    (Instr.typeAssert (.iface t v) xt t ok).run P w = .ok (if ok then .tuple #[v, .bool true] else v) w := by
  obtain ⟨d, hd, hne⟩ := noIfc hT h1 h2
  unfold Instr.typeAssert
  simp only [Sem.run_bind, underlying, run_program, Result.andThen_ok, hd, Sem.run_pure]
  cases d <;> first | exact absurd rfl (hne _) | simp

theorem part_rep {P : Program} {M : Nat → Prop} {w : World} {cs : List AV} {ys : List Value} (hr : Reps M w cs ys) (h1 : ∀ u ∈ ys, u.oneCell' = true) {fd : Field} (h3 : (P.info? fd.type).isSome = true ∧ (P.underlying fd.type).isSome = true ∧ P.cellsOf fd.type ≠ 0) :
    (∀ {α : Type} (k : AV → α) (z : α), partA cs (fd.offset, P.cellsOf fd.type, aggOf P fd.type) k z = z) ∨
    ∃ a, (∀ {α : Type} (k : AV → α) (z : α), partA cs (fd.offset, P.cellsOf fd.type, aggOf P fd.type) k z = k a) ∧ ∃ v, (∀ w', (part fd.type ys.toArray fd.offset).run P w' = .ok v w') ∧ Rep M w a v := by
  unfold partA
  simp only
  cases hag : aggOf P fd.type
  · simp only
    rcases nthA_cases cs fd.offset with ⟨b, hb, hk⟩ | hk
    · refine .inr ⟨b, fun k z => hk k z, ?_⟩
      obtain ⟨y, hy, hr⟩ := hr.get _ _ hb
      exact ⟨y, fun w' => by simp [part, run_isAgg h3.2.1, hag, hy], hr⟩
    · exact .inl fun k z => hk k z
  · simp only
    cases hle : Nat.ble (fd.offset + P.cellsOf fd.type) cs.length
    · exact .inl fun k z => rfl
    · refine .inr ⟨.agg ((cs.drop fd.offset).take (P.cellsOf fd.type)), fun k z => by simp only [dropK_eq, takeK_eq], .agg (ys.toArray.extract fd.offset (fd.offset + P.cellsOf fd.type)), fun w' => by simp [part, run_isAgg h3.2.1, hag, run_sizeOf' h3.1], ?_⟩
      unfold Rep
      refine ⟨(ys.drop fd.offset).take (P.cellsOf fd.type), ?_, (hr.drop _).take _, fun u hu => h1 u (List.mem_of_mem_drop (List.mem_of_mem_take hu))⟩
      congr 1
      apply Array.ext'
      simp [List.extract_eq_take_drop, List.drop_take]

theorem pureA_says {P : Program} {L : List TD} (hT : TOk P L) (n : Nat) (dec : List Nat) (f : AEnv) (o : Oper) : PureSays P n f o (fun k z => pureA L n dec f o.op k z) := by
  obtain ⟨dst, op, ty, pos, after, guard⟩ := o
  cases op <;> first | (left; intro α k z; rfl) | skip
  case move x => right; exact ⟨evA n f x, fun k z => by simp only [pureA]; rw [evAK_eq], fun M w fc h => ⟨ev n fc x, fun w' => rfl, h.eval x⟩⟩
  case assign x => right; exact ⟨evA n f x, fun k z => by simp only [pureA]; rw [evAK_eq], fun M w fc h => ⟨ev n fc x, fun w' => rfl, h.eval x⟩⟩
  case nilCheck x =>
    unfold PureSays
    simp only [pureA, evAK_eq]
    have key := fun {M w fc} (h : EnvRep M w f fc) => h.eval (n := n) x
    cases ha : evA n f x <;> first | (left; intro α k z; rfl) | skip
    case v a hh =>
      cases a <;> first | (left; intro α k z; rfl) | skip
      rename_i p
      cases p with
      | none => left; intro α k z; rfl
      | some p =>
        right
        refine ⟨_, fun k z => rfl, fun M w fc h => ⟨.pointer (some p), fun w' => ?_, mk_v⟩⟩
        have := key h
        rw [ha] at this
        simp [execOp, rep_v this]
    case d a =>
      cases a <;> first | (left; intro α k z; rfl) | skip
      rename_i ds
      right
      refine ⟨_, fun k z => rfl, fun M w fc h => ⟨ev n fc x, fun w' => ?_, by have := key h; rwa [ha] at this⟩⟩
      have := key h
      rw [ha] at this
      unfold Rep at this
      unfold DRep at this
      obtain ⟨ad, e, _⟩ := this
      simp [execOp, e]
    case fn g cs =>
      right
      refine ⟨_, fun k z => rfl, fun M w fc h => ⟨ev n fc x, fun w' => ?_, by have := key h; rwa [ha] at this⟩⟩
      have := key h
      rw [ha] at this
      unfold Rep at this
      obtain ⟨ys, e, _⟩ := this
      simp [execOp, e]
  case binOp op t x y yt =>
    unfold PureSays
    simp only [pureA, evNK_eq]
    have key := fun {M w fc} (h : EnvRep M w f fc) => (⟨h.evalN (n := n) x, h.evalN (n := n) y⟩ : _ ∧ _)
    cases ha : evN n f x <;> first | (left; intro α k z; rfl) | skip
    case v p hp =>
      cases hb : evN n f y <;> first | (left; intro α k z; rfl) | skip
      rename_i q hq
      rcases binK_val (P := P) hT (op := op) (t := t) (p := p) (q := q) with h | ⟨v, hv, hk⟩
      · left; intro α k z; exact h _ z
      · refine .inr ⟨.v v 0, fun k z => hv _ z, fun M w fc h => ⟨v, fun w' => hk n fc ⟨dst, .binOp op t x y yt, ty, pos, after, guard⟩ yt x y w' rfl ?_ ?_, mk_v⟩⟩
        · have := (key h).1; rw [ha] at this; exact rep_v this
        · have := (key h).2; rw [hb] at this; exact rep_v this
    case d d =>
      cases d <;> first | (left; intro α k z; rfl) | skip
      rename_i ds
      cases hb : evN n f y <;> first | (left; intro α k z; rfl) | skip
      rename_i q hq
      cases q <;> first | (left; intro α k z; rfl) | skip
      rename_i q
      cases q with
      | some q => left; intro α k z; rfl
      | none =>
        cases htl : tl L t <;> first | (left; intro α k z; rfl) | skip
        have hp : ∀ {M w fc}, EnvRep M w f fc → (∃ ad, ev n fc x = .pointer (some ad)) ∧ ev n fc y = .pointer none := by
          intro M w fc h
          obtain ⟨h1, h2⟩ := key h
          rw [ha] at h1
          rw [hb] at h2
          unfold Rep at h1
          unfold DRep at h1
          obtain ⟨ad, e, _⟩ := h1
          exact ⟨⟨ad, e⟩, rep_v h2⟩
        cases op <;> first | (left; intro α k z; rfl) | skip
        case eql =>
          right
          refine ⟨_, fun k z => rfl, fun M w fc h => ⟨.bool false, fun w' => ?_, mk_v⟩⟩
          obtain ⟨⟨ad, e1⟩, e2⟩ := hp h
          exact exec_ptr_nil (P := P) hT (op := .eql) (t := t) rfl e1 e2 htl (.inl rfl) w'
        case neq =>
          right
          refine ⟨_, fun k z => rfl, fun M w fc h => ⟨.bool true, fun w' => ?_, mk_v⟩⟩
          obtain ⟨⟨ad, e1⟩, e2⟩ := hp h
          exact exec_ptr_nil (P := P) hT (op := .neq) (t := t) rfl e1 e2 htl (.inr rfl) w'
  case unOp op t x =>
    unfold PureSays
    simp only [pureA, evNK_eq]
    have key := fun {M w fc} (h : EnvRep M w f fc) => h.evalN (n := n) x
    cases ha : evN n f x <;> first | (left; intro α k z; rfl) | skip
    rename_i a hh
    have hev : ∀ {M w fc}, EnvRep M w f fc → ev n fc x = a := fun h => by have := key h; rw [ha] at this; exact rep_v this
    cases op <;> cases a <;> first | (left; intro α k z; rfl) | (right; exact ⟨_, fun k z => rfl, fun M w fc h => ⟨_, fun w' => by simp [execOp, hev h, Op.unary, Op.intArith], mk_v⟩⟩)
  case convert s d x =>
    unfold PureSays
    simp only [pureA, evNK_eq]
    have key := fun {M w fc} (h : EnvRep M w f fc) => h.evalN (n := n) x
    cases ha : evN n f x <;> first | (left; intro α k z; rfl) | skip
    rename_i a hh
    have hev : ∀ {M w fc}, EnvRep M w f fc → ev n fc x = a := fun h => by have := key h; rw [ha] at this; exact rep_v this
    cases hs' : tl L s <;> first | (left; intro α k z; rfl) | skip
    case int i =>
      cases hd' : tl L d <;> first | (left; intro α k z; rfl) | skip
      cases a <;> first | (left; intro α k z; rfl) | skip
      right
      have h1 := int_tl hT hs'
      have h2 := int_tl hT hd'
      exact ⟨_, fun k z => rfl, fun M w fc h => ⟨_, fun w' => by simp [execOp, hev h, Go.convert, underlying, h1, h2, Conv.intToInt], mk_v⟩⟩
    case str =>
      cases hd' : tl L d <;> first | (left; intro α k z; rfl) | skip
      cases a <;> first | (left; intro α k z; rfl) | skip
      right
      have h1 := str_tl hT hs'
      have h2 := str_tl hT hd'
      exact ⟨_, fun k z => rfl, fun M w fc h => ⟨_, fun w' => by simp [execOp, hev h, Go.convert, underlying, h1, h2], mk_v⟩⟩
  case fieldAddr s x i =>
    unfold PureSays
    simp only [pureA, evAK_eq]
    have key := fun {M w fc} (h : EnvRep M w f fc) => h.eval (n := n) x
    cases hs' : tl L s <;> first | (left; intro α k z; rfl) | skip
    rename_i m fs
    obtain ⟨Fs, inf, hu, hi, hm, hall, rfl⟩ := agg_fields hT hs'
    have hat : ∀ (q : Nat × Nat × Bool), (Fs.toList.map fun f => (f.offset, P.cellsOf f.type, aggOf P f.type))[i]? = some q → ∀ a w', (Instr.fieldAt s (.pointer (some a)) i).run P w' = .ok (.pointer (some (a.add q.1))) w' := by
      intro q hq a w'
      rw [List.getElem?_map] at hq
      obtain ⟨fd, hfd, rfl⟩ := Option.map_eq_some_iff.1 hq
      have hmem : fd ∈ Fs.toList := List.mem_of_getElem? hfd
      have hfd' : Fs[i]? = some fd := by rw [← Array.getElem?_toList]; exact hfd
      have h3 := hall fd hmem
      simp [Instr.fieldAt, Instr.sureAddr, underlying, hu, hfd', fieldPlace, run_sizeOf' h3.1, h3.2.2]
    cases ha : evA n f x <;> first | (left; intro α k z; rfl) | skip
    case v a hh =>
      cases a <;> first | (left; intro α k z; rfl) | skip
      rename_i a
      cases a with
      | none => left; intro α k z; rfl
      | some a =>
        rcases nthA_cases (Fs.toList.map fun f => (f.offset, P.cellsOf f.type, aggOf P f.type)) i with ⟨q, hq, hk⟩ | hk
        · right
          refine ⟨_, fun k z => hk _ z, fun M w fc h => ⟨.pointer (some (a.add q.1)), fun w' => ?_, mk_v⟩⟩
          have := key h
          rw [ha] at this
          simp [execOp, rep_v this, hat q hq a w']
        · left; intro α k z; exact hk _ z
    case d a =>
      cases a <;> first | (left; intro α k z; rfl) | skip
      rename_i ds
      rcases nthA_cases (Fs.toList.map fun f => (f.offset, P.cellsOf f.type, aggOf P f.type)) i with ⟨q, hq, hk⟩ | hk
      · right
        refine ⟨_, fun k z => hk _ z, fun M w fc h => ?_⟩
        have := key h
        rw [ha] at this
        unfold Rep at this
        unfold DRep at this
        obtain ⟨ad, e, hM, hlt, hL⟩ := this
        refine ⟨.pointer (some (ad.add q.1)), fun w' => by simp [execOp, e, hat q hq ad w'], ?_⟩
        unfold Rep
        unfold DRep
        refine ⟨_, rfl, by rwa [add_block], by rwa [add_block], LRep.mk fun j d hd => ?_⟩
        rw [Nat.zero_add, add_add]
        have := hL.get (q.1 + j) d (by rw [List.getElem?_drop] at hd; exact hd)
        rwa [Nat.zero_add] at this
      · left; intro α k z; exact hk _ z
  case field s x i =>
    unfold PureSays
    simp only [pureA, evAK_eq]
    have key := fun {M w fc} (h : EnvRep M w f fc) => h.eval (n := n) x
    cases hs' : tl L s <;> first | (left; intro α k z; rfl) | skip
    rename_i m fs
    obtain ⟨Fs, inf, hu, hi, hm, hall, rfl⟩ := agg_fields hT hs'
    cases ha : evA n f x <;> first | (left; intro α k z; rfl) | skip
    rename_i cs
    rcases nthA_cases (Fs.toList.map fun f => (f.offset, P.cellsOf f.type, aggOf P f.type)) i with ⟨q, hq, hk⟩ | hk
    · rw [List.getElem?_map] at hq
      obtain ⟨fd, hfd, rfl⟩ := Option.map_eq_some_iff.1 hq
      have hmem : fd ∈ Fs.toList := List.mem_of_getElem? hfd
      have hfd' : Fs[i]? = some fd := by rw [← Array.getElem?_toList]; exact hfd
      have h3 := hall fd hmem
      by_cases hz : ∀ {α : Type} (k : AV → α) (z : α), partA cs (fd.offset, P.cellsOf fd.type, aggOf P fd.type) k z = z
      · left; intro α k z; show nthK _ i _ z = z; rw [hk]; exact hz k z
      · right
        -- what it yields is fixed by the frame
        have hex : ∃ a, (∀ {α : Type} (k : AV → α) (z : α), partA cs (fd.offset, P.cellsOf fd.type, aggOf P fd.type) k z = k a) := by
          unfold partA at hz ⊢
          simp only at hz ⊢
          cases hag : aggOf P fd.type
          · rw [hag] at hz
            simp only at hz ⊢
            rcases nthA_cases cs fd.offset with ⟨b, hb, hk⟩ | hk
            · exact ⟨b, fun k z => hk k z⟩
            · exact absurd (fun {α} k z => hk k z) hz
          · rw [hag] at hz
            simp only at hz ⊢
            cases hle : Nat.ble (fd.offset + P.cellsOf fd.type) cs.length
            · rw [hle] at hz; exact absurd (fun {α} k z => rfl) hz
            · exact ⟨.agg ((cs.drop fd.offset).take (P.cellsOf fd.type)), fun k z => by simp only [dropK_eq, takeK_eq]⟩
        obtain ⟨a, hka⟩ := hex
        refine ⟨a, fun {α} k z => by show nthK _ i _ z = _; rw [hk]; exact hka k z, fun M w fc h => ?_⟩
        have := key h
        rw [ha] at this
        unfold Rep at this
        obtain ⟨ys, e, hr, h1⟩ := this
        rcases part_rep (P := P) hr h1 h3 with hz' | ⟨a', hk', v, hv, hrep⟩
        · exact absurd (fun {α} k z => hz' k z) hz
        · have hh := hka (α := AV) id .any
          rw [hk'] at hh
          simp at hh
          subst hh
          exact ⟨v, fun w' => by simp [execOp, e, Instr.field, asAgg, underlying, hu, hfd', hv], hrep⟩
    · left; intro α k z; exact hk _ z
  case extract x i =>
    unfold PureSays
    simp only [pureA, evAK_eq]
    have key := fun {M w fc} (h : EnvRep M w f fc) => h.eval (n := n) x
    cases ha : evA n f x <;> first | (left; intro α k z; rfl) | skip
    rename_i vs
    rcases nthA_cases vs i with ⟨b, hb, hk⟩ | hk
    · right
      refine ⟨b, fun k z => hk k z, fun M w fc h => ?_⟩
      have := key h
      rw [ha] at this
      unfold Rep at this
      obtain ⟨ys, e, hr⟩ := this
      obtain ⟨y, hy, hr⟩ := hr.get _ _ hb
      exact ⟨y, fun w' => by simp [execOp, e, Instr.extract, hy], hr⟩
    · left; intro α k z; exact hk k z
  case makeFunc fn a b =>
    cases fn <;> first | (left; intro α k z; rfl) | skip
    rename_i g
    obtain ⟨a⟩ := a
    cases a with
    | nil =>
      right
      refine ⟨.fn g (evAs n f b.toList), fun k z => by simp only [pureA]; rw [evAsK_eq], fun M w fc h => ⟨.func (.func g) #[] (b.map (ev n fc)), fun w' => by simp [execOp, Instr.makeFunc], ?_⟩⟩
      unfold Rep
      exact ⟨b.toList.map (ev n fc), congrArg (Value.func (.func g) #[]) (Array.ext' (by simp)), h.evals _⟩
    | cons x l => left; intro α k z; rfl
  case makeInterface t x =>
    unfold PureSays
    simp only [pureA, evAK_eq]
    have key := fun {M w fc} (h : EnvRep M w f fc) => h.eval (n := n) x
    cases htd : tl L t <;> first
      | (left; intro α k z; rfl)
      | (right; refine ⟨_, fun k z => rfl, fun M w fc h => ⟨.iface t (ev n fc x), fun w' => ?_, ?_⟩⟩
         · simp [execOp, makeIfc hT (t := t) (by rw [htd]; simp) (by rw [htd]; simp)]
         · unfold Rep; exact ⟨_, rfl, key h⟩)
  case pick c x y =>
    cases c <;> first | (left; intro α k z; rfl) | skip
    rename_i c
    unfold PureSays
    simp only [pureA, evNK_eq, evAK_eq]
    have key := fun {M w fc} (h : EnvRep M w f fc) => h.evalN (n := n) (.tmp c)
    cases memK dec c
    · left; intro α k z; rfl
    · cases hv : evN n f (.tmp c) <;> first | (left; intro α k z; rfl) | skip
      rename_i a hh
      cases a <;> first | (left; intro α k z; rfl) | skip
      rename_i b
      have hev : ∀ {M w fc}, EnvRep M w f fc → ev n fc (.tmp c) = .bool b := fun h => by have := key h; rw [hv] at this; exact rep_v this
      cases b
      · right; exact ⟨evA n f y, fun k z => rfl, fun M w fc h => ⟨ev n fc y, fun w' => by simp [execOp, hev h, asBool], h.eval y⟩⟩
      · right; exact ⟨evA n f x, fun k z => rfl, fun M w fc h => ⟨ev n fc x, fun w' => by simp [execOp, hev h, asBool], h.eval x⟩⟩
  case typeAssert x xt at_ ok =>
    unfold PureSays
    simp only [pureA, evAK_eq]
    have key := fun {M w fc} (h : EnvRep M w f fc) => h.eval (n := n) x
    by_cases hn : tl L at_ = .non ∨ tl L at_ = .ifc
    · left; intro α k z; rcases hn with hn | hn <;> rw [hn]
    have h1 : tl L at_ ≠ .non := fun h => hn (.inl h)
    have h2 : tl L at_ ≠ .ifc := fun h => hn (.inr h)
    have red : ∀ {α : Type} (z : α) (b : α), (match tl L at_ with | .non | .ifc => z | _ => b) = b := by
      intro α z b; cases htl : tl L at_ <;> first | exact absurd htl h1 | exact absurd htl h2 | rfl
    have fin : ∀ (t : TypeId) (a' : AV) (dv : ∀ {α : Type}, (AV → α) → α → α), (∀ {α : Type} (k : AV → α) (z : α), dv k z = (match Nat.beq t at_, ok with | true, true => k (.tup [a', .v (.bool true) 0]) | true, false => k a' | false, _ => z)) →
        (∀ M w fc, EnvRep M w f fc → ∃ u, ev n fc x = .iface t u ∧ Rep M w a' u) →
        ((∀ {α : Type} (k : AV → α) (z : α), dv k z = z) ∨ ∃ a, (∀ {α : Type} (k : AV → α) (z : α), dv k z = k a) ∧ ∀ M w fc, EnvRep M w f fc → ∃ v, (∀ w', (execOp (ev n fc) ⟨dst, .typeAssert x xt at_ ok, ty, pos, after, guard⟩).run P w' = .ok (.value v) w') ∧ Rep M w a v) := by
      intro t a' dv hdv hu
      cases hb : Nat.beq t at_
      · left; intro α k z; rw [hdv, hb]
      · have e := Nat.eq_of_beq_eq_true hb
        subst e
        cases ok
        · right
          refine ⟨a', fun k z => by rw [hdv, hb], fun M w fc h => ?_⟩
          obtain ⟨u, e, hr⟩ := hu M w fc h
          exact ⟨u, fun w' => by simp [execOp, e, run_assert hT h1 h2], hr⟩
        · right
          refine ⟨_, fun k z => by rw [hdv, hb], fun M w fc h => ?_⟩
          obtain ⟨u, e, hr⟩ := hu M w fc h
          refine ⟨.tuple #[u, .bool true], fun w' => by simp [execOp, e, run_assert hT h1 h2], ?_⟩
          unfold Rep
          exact ⟨[u, .bool true], rfl, Reps.cons hr (Reps.cons mk_v Reps.nil)⟩
    simp only [red]
    cases ha : evA n f x <;> first | (left; intro α k z; rfl) | skip
    case ifc t a =>
      refine fin t a (fun k z => _) (fun k z => rfl) fun M w fc h => ?_
      have := key h
      rw [ha] at this
      unfold Rep at this
      exact this
    case d a =>
      cases a <;> first | (left; intro α k z; rfl) | skip
      rename_i t ag ds
      have hd : ∀ M w fc, EnvRep M w f fc → ∃ u : Value, ev n fc x = .iface t u ∧ (ag = true → u = .agg u.cells) ∧ (ag = false → u.oneCell' = true) ∧ VRep M w ds u.cells.toList := by
        intro M w fc h
        have := key h
        rw [ha] at this
        unfold Rep at this
        unfold DRep at this
        exact this
      cases ag
      · match ds, hd with
        | [], hd => left; intro α k z; rfl
        | _ :: _ :: _, hd => left; intro α k z; rfl
        | [d], hd =>
          refine fin t (.d d) (fun k z => _) (fun k z => rfl) fun M w fc h => ?_
          obtain ⟨u, e, _, h2, h3⟩ := hd M w fc h
          refine ⟨u, e, ?_⟩
          rw [cells_one (h2 rfl)] at h3
          unfold VRep at h3
          obtain ⟨y, r, e, h3, _⟩ := h3
          cases e
          unfold Rep
          exact h3
      · refine fin t (.agg (dcells ds)) (fun k z => _) (fun k z => rfl) fun M w fc h => ?_
        obtain ⟨u, e, h2, _, h3⟩ := hd M w fc h
        refine ⟨u, e, ?_⟩
        rw [h2 rfl]
        unfold Rep
        exact ⟨u.cells.toList, by simp, by rw [dcells_eq]; exact Reps.ofV h3, h3.one⟩
  case call c =>
    obtain ⟨callee, args, argTypes⟩ := c
    obtain ⟨args⟩ := args
    obtain ⟨argTypes⟩ := argTypes
    cases callee <;> first | (left; intro α k z; rfl) | skip
    rename_i b
    have hres : ∀ fc w, (execOp (ev n fc) ⟨dst, .call ⟨.builtin b, ⟨args⟩, ⟨argTypes⟩⟩, ty, pos, after, guard⟩).run P w = (builtin b ⟨argTypes⟩ ty ((⟨args⟩ : Array Operand).map fun | .const _ => true | _ => false) ((⟨args⟩ : Array Operand).map (ev n fc))).run P w := by
      intro fc w
      simp [execOp, resolve, invoke]
      rfl
    unfold PureSays
    simp only [hres]
    cases b <;> first | (left; intro α k z; rfl) | skip
    case max =>
      match args with
      | [x, y] =>
        simp only [pureA, evNK_eq]
        have key := fun {M w fc} (h : EnvRep M w f fc) => (⟨h.evalN (n := n) x, h.evalN (n := n) y⟩ : _ ∧ _)
        cases ha : evN n f x <;> first | (left; intro α k z; rfl) | skip
        rename_i a hh
        cases a <;> first | (left; intro α k z; rfl) | skip
        cases hb : evN n f y <;> first | (left; intro α k z; rfl) | skip
        rename_i b hh'
        cases b <;> first | (left; intro α k z; rfl) | skip
        right
        refine ⟨_, fun k z => rfl, fun M w fc h => ⟨_, fun w' => ?_, mk_v⟩⟩
        have := key h
        rw [ha, hb] at this
        simp [builtin, Builtin.max_, Builtin.max2, rep_v this.1, rep_v this.2]
      | [] => left; intro α k z; rfl
      | [x] => left; intro α k z; rfl
      | _ :: _ :: _ :: _ => left; intro α k z; rfl
    case min =>
      match args with
      | [x, y] =>
        simp only [pureA, evNK_eq]
        have key := fun {M w fc} (h : EnvRep M w f fc) => (⟨h.evalN (n := n) x, h.evalN (n := n) y⟩ : _ ∧ _)
        cases ha : evN n f x <;> first | (left; intro α k z; rfl) | skip
        rename_i a hh
        cases a <;> first | (left; intro α k z; rfl) | skip
        cases hb : evN n f y <;> first | (left; intro α k z; rfl) | skip
        rename_i b hh'
        cases b <;> first | (left; intro α k z; rfl) | skip
        right
        refine ⟨_, fun k z => rfl, fun M w fc h => ⟨_, fun w' => ?_, mk_v⟩⟩
        have := key h
        rw [ha, hb] at this
        simp [builtin, Builtin.min_, Builtin.min2, rep_v this.1, rep_v this.2]
      | [] => left; intro α k z; rfl
      | [x] => left; intro α k z; rfl
      | _ :: _ :: _ :: _ => left; intro α k z; rfl

end Go.Proofs.Ytepjnmocepkfjaa.A
