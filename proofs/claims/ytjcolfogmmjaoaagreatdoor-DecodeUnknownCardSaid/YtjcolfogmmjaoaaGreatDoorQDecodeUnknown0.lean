import Derived.Calls
import Derived.OrdersHeld
import Derived.Laws.Sem
import Derived.Tactics
import Derived.KernelRfl
section
set_option linter.unusedVariables false
set_option linter.unusedSimpArgs false
namespace Go.Proofs.YtjcolfogmmjaoaaGreatDoor.V
inductive TD where
  | non
  | ptr
  | bool
  | map
  | fn
  | ifc
  | int (k : IntKind)
  | str
  | agg (n : Nat) (fs : List (Nat × Nat × Bool))
  | sl (e : TypeId) (n : Nat)
  | arr (len : Nat) (e : TypeId) (n : Nat)
def aggOf (P : Program) (t : TypeId) : Bool := match P.underlying t with | some (.struct _) | some (.array _ _) => true | _ => false
def tdOf (P : Program) (t : TypeId) : TD :=
  match P.underlying t, P.info? t with
  | some (.struct fs), some i => if fs.toList.all fun f => (P.info? f.type).isSome && (P.underlying f.type).isSome && P.cellsOf f.type != 0 then .agg i.size (fs.toList.map fun f => (f.offset, P.cellsOf f.type, aggOf P f.type)) else .non
  | some (.array n e), some i => if (P.info? e).isSome && i.size == n * P.cellsOf e then .arr n e (P.cellsOf e) else .non
  | some (.slice e), some i => if (P.info? e).isSome && i.size == 1 then .sl e (P.cellsOf e) else .non
  | some (.int k), some i => if i.size == 1 then .int k else .non
  | some .string, some i => if i.size == 1 then .str else .non
  | some (.interface _), some i => if i.size == 1 then .ifc else .non
  | some .bool, some i => if i.size == 1 then .bool else .non
  | some (.pointer _), some i => if i.size == 1 then .ptr else .non
  | some (.map _ _), some i => if i.size == 1 then .map else .non
  | some (.func _ _ _), some i => if i.size == 1 then .fn else .non
  | _, _ => .non
def tl (L : List TD) (t : TypeId) : TD := L.getD t .non
def TOk (P : Program) (L : List TD) : Prop := ∀ t, tl L t = .non ∨ tl L t = tdOf P t
theorem TOk.of {P : Program} {L : List TD} (h : (List.range L.length).map (tdOf P) = L) : TOk P L := by
  intro t
  by_cases ht : t < L.length
  · right
    unfold tl
    rw [List.getD_eq_getElem?_getD, List.getElem?_eq_getElem ht, Option.getD_some]
    have : ((List.range L.length).map (tdOf P))[t]? = L[t]? := by rw [h]
    rw [List.getElem?_eq_getElem ht, List.getElem?_map, List.getElem?_range ht] at this
    simpa using this.symm
  · left
    unfold tl
    rw [List.getD_eq_getElem?_getD, List.getElem?_eq_none (Nat.le_of_not_lt ht)]
    rfl
abbrev Env := List (Nat × Value)
def getK {α : Type} : Env → Nat → (Value → α) → α
  | [], _, k => k undef
  | (s, v) :: r, t, k => match Nat.beq s t with | true => k v | false => getK r t k
def evK {α : Type} (n : Nat) (f : Env) : Operand → (Value → α) → α
  | .tmp t, k => match Nat.blt t n with | true => getK f t k | false => k undef
  | .const v, k => k v
  | .func g, k => k (.func (.func g) #[] #[])
  | .global g, k => k (.pointer (some ⟨g, 0, none⟩))
def get (f : Env) (t : Nat) : Value := getK f t id
def ev (n : Nat) (f : Env) (x : Operand) : Value := evK n f x id
theorem getK_eq {α : Type} : ∀ (f : Env) (t : Nat) (k : Value → α), getK f t k = k (get f t)
  | [], _, _ => rfl
  | (s, v) :: r, t, k => by
    unfold get getK
    cases h : Nat.beq s t
    · simp only []; rw [getK_eq r t k, getK_eq r t id]; rfl
    · rfl
theorem evK_eq {α : Type} (n : Nat) (f : Env) (x : Operand) (k : Value → α) : evK n f x k = k (ev n f x) := by
  cases x with
  | tmp t =>
    unfold ev
    simp only [evK]
    cases Nat.blt t n
    · rfl
    · simp only []; rw [getK_eq, getK_eq f t id]; rfl
  | _ => rfl
def act (n : Nat) (f : Env) : Act := { tmps := Array.ofFn (n := n) fun i => get f i, defers := [] }
theorem act_eval (n : Nat) (f : Env) (x : Operand) : (act n f).eval x = ev n f x := by
  cases x with
  | tmp t =>
    unfold ev evK
    simp only [Act.eval, act, Array.getD_eq_getD_getElem?]
    by_cases h : t < n
    · have : Nat.blt t n = true := by simpa [Nat.blt_eq] using h
      rw [this]
      simp [h, get]
    · have : Nat.blt t n = false := by
        cases hb : Nat.blt t n
        · rfl
        · exact absurd (by simpa [Nat.blt_eq] using hb) h
      rw [this]
      simp [h]
  | _ => rfl
theorem get_cons (d : Nat) (v : Value) (f : Env) (t : Nat) : get ((d, v) :: f) t = if t = d then v else get f t := by
  by_cases h : t = d
  · subst h; simp [get, getK]
  · have : Nat.beq d t = false := by
      cases hb : Nat.beq d t
      · rfl
      · exact absurd (Nat.eq_of_beq_eq_true hb).symm h
    simp only [get, getK, this, h, if_false]
def put (f : Env) (d : Option Tmp) (v : Value) : Env := match d with | some d => (d, v) :: f | none => f
def putK {α : Type} (f : Env) (d : Option Tmp) (v : Value) (k : Env → α) : α := match d with | some d => k ((d, v) :: f) | none => k f
theorem putK_eq {α : Type} (f : Env) (d : Option Tmp) (v : Value) (k : Env → α) : putK f d v k = k (put f d v) := by cases d <;> rfl
theorem act_put (n : Nat) (f : Env) (d : Option Tmp) (v : Value) : (act n f).put d v = act n (put f d v) := by
  cases d with
  | none => rfl
  | some d =>
    simp only [Act.put, act, put]
    congr 1
    apply Array.ext_getElem?
    intro i
    rw [Array.getElem?_setIfInBounds]
    by_cases h : d = i
    · subst h
      by_cases hn : d < n <;> simp [hn, get_cons]
    · rw [if_neg h, Array.getElem?_ofFn, Array.getElem?_ofFn]
      split
      · rw [get_cons, if_neg (Ne.symm h)]
      · rfl
theorem act_tmps (n : Nat) (f : Env) (t : Nat) (h : t < n) : (act n f).tmps[t]? = some (get f t) := by simp [act, h]
def memK (l : List Nat) (d : Nat) : Bool := match l with | [] => false | x :: r => match Nat.beq x d with | true => true | false => memK r d
def partK {α : Type} (cs : Array Value) (s : Nat × Nat × Bool) (k : Value → α) (z : α) : α :=
  match s.2.2 with
  | true => k (.agg (cs.extract s.1 (s.1 + s.2.1)))
  | false => match cs[s.1]? with | some v => k v | none => z
def nthK {α β : Type} : List β → Nat → (β → α) → α → α
  | [], _, _, z => z
  | b :: _, 0, k, _ => k b
  | _ :: l, i + 1, k, z => nthK l i k z
def eqK {α : Type} (t : TD) (x y : Value) (k : Bool → α) (z : α) : α :=
  match t, x, y with
  | .ptr, .pointer a, .pointer none => k a.isNone
  | .sl _ _, .slice a _ _, .slice none _ _ => k a.isNone
  | .map, .map a, .map none => k a.isNone
  | .bool, .bool a, .bool b => k (a == b)
  | _, _, _ => z
def binK {α : Type} (t : TD) (op : BinOp) (x y : Value) (k : Value → α) (z : α) : α :=
  match x, y with
  | .int i a, .int j b =>
    match op with
    | .shl | .shr => z
    | .add => match decide (i = j) with | true => k (.int i (i.wrap (a + b))) | false => z
    | .sub => match decide (i = j) with | true => k (.int i (i.wrap (a - b))) | false => z
    | .mul => match decide (i = j) with | true => k (.int i (i.wrap (a * b))) | false => z
    | .eql => match decide (i = j) with | true => k (.bool (a == b)) | false => z
    | .neq => match decide (i = j) with | true => k (.bool (a != b)) | false => z
    | .lss => match decide (i = j) with | true => k (.bool (decide (a < b))) | false => z
    | .leq => match decide (i = j) with | true => k (.bool (decide (a ≤ b))) | false => z
    | .gtr => match decide (i = j) with | true => k (.bool (decide (a > b))) | false => z
    | .geq => match decide (i = j) with | true => k (.bool (decide (a ≥ b))) | false => z
    | _ => z
  | .string a, .string b =>
    match op with
    | .eql => k (.bool (a.toList == b.toList))
    | .neq => k (.bool (!(a.toList == b.toList)))
    | _ => z
  | _, _ =>
    match op with
    | .eql => eqK t x y (fun b => k (.bool b)) z
    | .neq => eqK t x y (fun b => k (.bool (!b))) z
    | _ => z
def pvK {α : Type} (L : List TD) (n : Nat) (f : Env) (o : Op) (k : Value → α) (z : α) : α :=
  match o with
  | .move x | .assign x => evK n f x k
  | .nilCheck x => evK n f x fun v => match v with | .pointer (some a) => k (.pointer (some a)) | .func (.func g) a b => k (.func (.func g) a b) | _ => z
  | .binOp op t x y _ => evK n f x fun a => evK n f y fun b => binK (tl L t) op a b k z
  | .unOp op _ x => evK n f x fun a => match op, a with
    | .not, .bool b => k (.bool (!b))
    | .neg, .int i b => k (.int i (i.wrap (0 - b)))
    | _, _ => z
  | .convert s d x => evK n f x fun a => match tl L s, tl L d, a with
    | .int _, .int j, .int _ m => k (.int j (j.wrap m))
    | .str, .str, .string b => k (.string b)
    | _, _, _ => z
  | .fieldAddr s x i => evK n f x fun a => match tl L s, a with
    | .agg _ fs, .pointer (some a) => nthK fs i (fun q => k (.pointer (some (a.add q.1)))) z
    | _, _ => z
  | .field s x i => evK n f x fun a => match tl L s, a with
    | .agg _ fs, .agg cs => nthK fs i (fun q => partK cs q k z) z
    | _, _ => z
  | .extract x i => evK n f x fun a => match a with
    | .tuple vs => match vs[i]? with | some v => k v | none => z
    | _ => z
  | .makeFunc fn a b => k (.func fn (a.map (ev n f)) (b.map (ev n f)))
  | .makeInterface t x => evK n f x fun a => match tl L t with
    | .non | .ifc => z
    | _ => k (.iface t a)
  | .call { callee := .builtin .len, args := ⟨[x]⟩, argTypes := ⟨[t]⟩ } => evK n f x fun a => match tl L t, a with
      | .sl _ _, .slice _ m _ => k (.int .i64 m)
      | .str, .string s => k (.int .i64 s.size)
      | _, _ => z
  | .call { callee := .builtin .cap, args := ⟨[x]⟩, argTypes := ⟨[t]⟩ } => evK n f x fun a => match tl L t, a with
      | .sl _ _, .slice _ _ m => k (.int .i64 m)
      | _, _ => z
  | .call { callee := .builtin .max, args := ⟨[x, y]⟩, .. } => evK n f x fun a => evK n f y fun b => match a, b with
      | .int i p, .int _ q => k (.int i (if q > p then q else p))
      | _, _ => z
  | .call { callee := .builtin .min, args := ⟨[x, y]⟩, .. } => evK n f x fun a => evK n f y fun b => match a, b with
      | .int i p, .int _ q => k (.int i (if q < p then q else p))
      | _, _ => z
  | _ => z
def pvD {α : Type} (dec : List Nat) (L : List TD) (n : Nat) (f : Env) (o : Op) (k : Value → α) (z : α) : α :=
  match o with
  | .pick (.tmp c) x y => match memK dec c with
    | true => evK n f (.tmp c) fun v => match v with
      | .bool true => evK n f x k
      | .bool false => evK n f y k
      | _ => z
    | false => z
  | o => pvK L n f o k z
def PvSays (P : Program) (L : List TD) (n : Nat) (f : Env) (o : Oper) : Prop :=
  (∀ {α : Type} (k : Value → α) (z : α), pvK L n f o.op k z = z) ∨
  ∃ v, (∀ w, (execOp (ev n f) o).run P w = .ok (.value v) w) ∧ ∀ {α : Type} (k : Value → α) (z : α), pvK L n f o.op k z = k v
theorem tdOf_agg {P : Program} {t : TypeId} {m : Nat} {fs : List (Nat × Nat × Bool)} (h : tdOf P t = .agg m fs) :
    ∃ (Fs : Array Field) (i : TypeInfo), P.underlying t = some (.struct Fs) ∧ P.info? t = some i ∧ i.size = m ∧
      (∀ f ∈ Fs.toList, (P.info? f.type).isSome = true ∧ (P.underlying f.type).isSome = true ∧ P.cellsOf f.type ≠ 0) ∧ fs = Fs.toList.map fun f => (f.offset, P.cellsOf f.type, aggOf P f.type) := by
  unfold tdOf at h
  split at h <;> (try (repeat' split at h)) <;> (try cases h)
  rename_i hall
  refine ⟨_, _, by assumption, by assumption, rfl, fun f hf => ?_, rfl⟩
  have := List.all_eq_true.1 hall f hf
  simp at this
  exact ⟨this.1.1, this.1.2, this.2⟩
theorem tdOf_sl {P : Program} {t e : TypeId} {m : Nat} (h : tdOf P t = .sl e m) :
    P.underlying t = some (.slice e) ∧ (P.info? e).isSome = true ∧ P.cellsOf e = m := by
  unfold tdOf at h
  split at h <;> (try (repeat' split at h)) <;> (try cases h)
  rename_i hall
  simp at hall
  exact ⟨by assumption, hall.1, rfl⟩
theorem tdOf_int {P : Program} {t : TypeId} {k : IntKind} (h : tdOf P t = .int k) : P.underlying t = some (.int k) := by
  unfold tdOf at h
  split at h <;> (try (repeat' split at h)) <;> (try cases h)
  assumption
theorem tdOf_str {P : Program} {t : TypeId} (h : tdOf P t = .str) : P.underlying t = some .string := by
  unfold tdOf at h
  split at h <;> (try (repeat' split at h)) <;> (try cases h)
  assumption
theorem tdOf_ptr {P : Program} {t : TypeId} (h : tdOf P t = .ptr) : ∃ e, P.underlying t = some (.pointer e) := by
  unfold tdOf at h
  split at h <;> (try (repeat' split at h)) <;> (try cases h)
  exact ⟨_, by assumption⟩
theorem tdOf_bool {P : Program} {t : TypeId} (h : tdOf P t = .bool) : P.underlying t = some .bool := by
  unfold tdOf at h
  split at h <;> (try (repeat' split at h)) <;> (try cases h)
  assumption
theorem tdOf_map {P : Program} {t : TypeId} (h : tdOf P t = .map) : ∃ a b, P.underlying t = some (.map a b) := by
  unfold tdOf at h
  split at h <;> (try (repeat' split at h)) <;> (try cases h)
  exact ⟨_, _, by assumption⟩
theorem run_binOp {P : Program} {n : Nat} {f : Env} {o : Oper} {op : BinOp} {t yt : TypeId} {x y : Operand} (ho : o.op = .binOp op t x y yt) (w : World) :
    (execOp (ev n f) o).run P w = ((eqGuard op t x y (ev n f x) (ev n f y)).run P w).andThen fun _ w => ((binOp op t (ev n f x) (ev n f y)).run P w).andThen fun v w => .ok (.value v) w := by
  unfold execOp
  simp only [ho, Sem.run_bind, Sem.run_pure]
  cases (eqGuard op t x y (ev n f x) (ev n f y)).run P w <;> simp
theorem guard_int {P : Program} {op : BinOp} {t : TypeId} {x y : Operand} {a b : Value} (h : ∀ c d, ¬ (a = .nilIface ∧ b = .nilIface) ∧ ¬ (a = .agg c ∧ b = .agg d)) (w : World) :
    (eqGuard op t x y a b).run P w = .ok () w := by
  cases op
  case eql => cases a <;> cases b <;> first | rfl | exact absurd ⟨rfl, rfl⟩ (h #[] #[]).1 | (rename_i c d; exact absurd ⟨rfl, rfl⟩ (h c d).2)
  case neq => cases a <;> cases b <;> first | rfl | exact absurd ⟨rfl, rfl⟩ (h #[] #[]).1 | (rename_i c d; exact absurd ⟨rfl, rfl⟩ (h c d).2)
  all_goals rfl
theorem eqK_says {P : Program} {L : List TD} (hT : TOk P L) (t : TypeId) (a b : Value) :
    (∀ {α : Type} (k : Bool → α) (z : α), eqK (tl L t) a b k z = z) ∨
    ∃ v, (∀ w, (Op.equal t a b).run P w = .ok v w) ∧ (∀ c d, ¬ (a = .nilIface ∧ b = .nilIface) ∧ ¬ (a = .agg c ∧ b = .agg d)) ∧ ∀ {α : Type} (k : Bool → α) (z : α), eqK (tl L t) a b k z = k v := by
  rcases hT t with h | h
  · left; intro α k z; rw [h]; unfold eqK; rfl
  · cases htd : tl L t with
    | ptr =>
      obtain ⟨e, hu⟩ := tdOf_ptr (h.symm.trans htd)
      cases a <;> cases b <;> first | (left; intro α k z; rfl) | skip
      rename_i a b
      cases b with
      | some b => left; intro α k z; rfl
      | none =>
        right
        refine ⟨a.isNone, fun w => ?_, by simp, fun k z => rfl⟩
        cases a <;> (show (Op.equalIn (9999 + 1) t _ _).run P w = _; unfold Op.equalIn; simp [underlying, hu])
    | sl e m =>
      obtain ⟨hu, _⟩ := tdOf_sl (h.symm.trans htd)
      cases a <;> cases b <;> first | (left; intro α k z; rfl) | skip
      rename_i a n c b n' c'
      cases b with
      | some b => left; intro α k z; rfl
      | none =>
        right
        refine ⟨a.isNone, fun w => ?_, by simp, fun k z => rfl⟩
        cases a <;> (show (Op.equalIn (9999 + 1) t _ _).run P w = _; unfold Op.equalIn; simp [underlying, hu])
    | map =>
      obtain ⟨e, e', hu⟩ := tdOf_map (h.symm.trans htd)
      cases a <;> cases b <;> first | (left; intro α k z; rfl) | skip
      rename_i a b
      cases b with
      | some b => left; intro α k z; rfl
      | none =>
        right
        refine ⟨a.isNone, fun w => ?_, by simp, fun k z => rfl⟩
        cases a <;> (show (Op.equalIn (9999 + 1) t _ _).run P w = _; unfold Op.equalIn; simp [underlying, hu])
    | bool =>
      have hu := tdOf_bool (h.symm.trans htd)
      cases a <;> cases b <;> first | (left; intro α k z; rfl) | skip
      rename_i a b
      right
      refine ⟨a == b, fun w => ?_, by simp, fun k z => rfl⟩
      (show (Op.equalIn (9999 + 1) t _ _).run P w = _; unfold Op.equalIn; simp [underlying, hu])
    | _ => left; intro α k z; unfold eqK; rfl
theorem binK_says {P : Program} {L : List TD} (hT : TOk P L) {n : Nat} {f : Env} {o : Oper} {op : BinOp} {t yt : TypeId} {x y : Operand} (ho : o.op = .binOp op t x y yt) :
    (∀ {α : Type} (k : Value → α) (z : α), binK (tl L t) op (ev n f x) (ev n f y) k z = z) ∨
    ∃ v, (∀ w, (execOp (ev n f) o).run P w = .ok (.value v) w) ∧ ∀ {α : Type} (k : Value → α) (z : α), binK (tl L t) op (ev n f x) (ev n f y) k z = k v := by
  have hrun : ∀ w v, (∀ c d, ¬ (ev n f x = .nilIface ∧ ev n f y = .nilIface) ∧ ¬ (ev n f x = .agg c ∧ ev n f y = .agg d)) → (binOp op t (ev n f x) (ev n f y)).run P w = .ok v w → (execOp (ev n f) o).run P w = .ok (.value v) w := by
    intro w v hg hb
    rw [run_binOp ho, guard_int hg]
    simp [hb]
  generalize ev n f x = a at hrun ⊢
  generalize ev n f y = b at hrun ⊢
  have other : (∀ i m, ¬ (∃ j m', a = .int i m ∧ b = .int j m')) → (∀ s s', ¬ (a = .string s ∧ b = .string s')) → (a matches .float .. | .complex ..) = false → (∀ {α : Type} (k : Value → α) (z : α), binK (tl L t) op a b k z = (match op with
      | .eql => eqK (tl L t) a b (fun b => k (.bool b)) z
      | .neq => eqK (tl L t) a b (fun b => k (.bool (!b))) z
      | _ => z)) →
      (∀ {α : Type} (k : Value → α) (z : α), binK (tl L t) op a b k z = z) ∨ ∃ v, (∀ w, (execOp (ev n f) o).run P w = .ok (.value v) w) ∧ ∀ {α : Type} (k : Value → α) (z : α), binK (tl L t) op a b k z = k v := by
    intro h1 h2 h3 hb
    rcases eqK_says hT t a b with he | ⟨v, hv, hg, he⟩
    · left
      intro α k z
      rw [hb]
      cases op <;> first | rfl | exact he _ _
    · cases op
      case eql =>
        right
        refine ⟨.bool v, fun w => hrun w _ hg ?_, fun k z => by rw [hb]; exact he _ _⟩
        have : binOp .eql t a b = (do pure (.bool (← Op.equal t a b))) := by
          cases a <;> cases b <;> first | rfl | exact absurd ⟨_, _, rfl, rfl⟩ (h1 _ _) | exact absurd ⟨rfl, rfl⟩ (h2 _ _) | simp at h3
        rw [this]
        simp [hv w]
      case neq =>
        right
        refine ⟨.bool (!v), fun w => hrun w _ hg ?_, fun k z => by rw [hb]; exact he _ _⟩
        have : binOp .neq t a b = (do pure (.bool (!(← Op.equal t a b)))) := by
          cases a <;> cases b <;> first | rfl | exact absurd ⟨_, _, rfl, rfl⟩ (h1 _ _) | exact absurd ⟨rfl, rfl⟩ (h2 _ _) | simp at h3
        rw [this]
        simp [hv w]
      all_goals (left; intro α k z; rw [hb])
  cases a <;> cases b <;> first
    | (refine other (by simp) (by simp) rfl (fun _ _ => ?_); cases op <;> rfl)
    | skip
  case int.int i a j b =>
    cases hij : decide (i = j)
    · left
      intro α k z
      cases op <;> simp only [binK, hij]
    · have hij' : i = j := of_decide_eq_true hij
      subst hij'
      cases op <;> first
        | (left; intro α k z; rfl)
        | (right; refine ⟨_, fun w => hrun w _ (by simp) ?_, fun k z => by simp only [binK, hij]; rfl⟩; simp [binOp, Op.intArith, Op.intCmp])
  case string.string a b =>
    cases op <;> first
      | (left; intro α k z; rfl)
      | (right; refine ⟨_, fun w => hrun w _ (by simp) ?_, fun k z => rfl⟩; simp [binOp, Op.stringOp])
  all_goals (left; intro α k z; cases op <;> (first | rfl | (unfold binK eqK; cases tl L t <;> rfl)))
theorem nthK_cases {α' β : Type} (l : List β) (i : Nat) : (∃ b, l[i]? = some b ∧ ∀ {α : Type} (k : β → α) (z : α), nthK l i k z = k b) ∨ (∀ {α : Type} (k : β → α) (z : α), nthK l i k z = z) := by
  induction l generalizing i with
  | nil => exact .inr fun k z => rfl
  | cons b l ih =>
    cases i with
    | zero => exact .inl ⟨b, rfl, fun k z => rfl⟩
    | succ i => simpa [nthK] using ih i
theorem run_sizeOf' {P : Program} {t : TypeId} (h : (P.info? t).isSome = true) (w : World) : (sizeOf t).run P w = .ok (P.cellsOf t) w := by
  obtain ⟨i, hi⟩ := Option.isSome_iff_exists.1 h
  simp [sizeOf, typeInfo, hi, Program.cellsOf]
theorem run_isAgg {P : Program} {t : TypeId} (h : (P.underlying t).isSome = true) (w : World) : (isAgg t).run P w = .ok (aggOf P t) w := by
  obtain ⟨d, hd⟩ := Option.isSome_iff_exists.1 h
  unfold isAgg aggOf
  cases d <;> simp [underlying, hd]
theorem pv_says {P : Program} {L : List TD} (hT : TOk P L) (n : Nat) (f : Env) (o : Oper) : PvSays P L n f o := by
  obtain ⟨dst, op, ty, pos, after, guard⟩ := o
  cases op <;> first | (left; intro α k z; rfl) | skip
  case move x => right; exact ⟨_, fun w => rfl, fun k z => by simp only [pvK]; rw [evK_eq]⟩
  case assign x => right; exact ⟨_, fun w => rfl, fun k z => by simp only [pvK]; rw [evK_eq]⟩
  case nilCheck x =>
    unfold PvSays
    simp only [pvK, evK_eq]
    simp only [execOp]
    cases h : ev n f x <;> first | (left; intro α k z; rfl) | skip
    case pointer a =>
      cases a with
      | none => left; intro α k z; rfl
      | some a => right; exact ⟨_, fun w => rfl, fun k z => rfl⟩
    case func fn a b =>
      cases fn <;> first | (left; intro α k z; rfl) | skip
      right; exact ⟨_, fun w => rfl, fun k z => rfl⟩
  case binOp op t x y yt =>
    rcases binK_says (P := P) hT (n := n) (f := f) (o := ⟨dst, .binOp op t x y yt, ty, pos, after, guard⟩) rfl with h | ⟨v, hv, hk⟩
    · left; intro α k z; simp only [pvK, evK_eq]; exact h k z
    · right; exact ⟨v, hv, fun k z => by simp only [pvK, evK_eq]; exact hk k z⟩
  case unOp op t x =>
    unfold PvSays
    simp only [pvK, evK_eq, execOp]
    cases op <;> cases h : ev n f x <;> first | (left; intro α k z; rfl) | (right; exact ⟨_, fun w => by simp [Op.unary, Op.intArith], fun k z => rfl⟩)
  case convert s d x =>
    unfold PvSays
    simp only [pvK, evK_eq, execOp]
    rcases hT s with hs | hs
    · left; intro α k z; rw [hs]
    rcases hT d with hd | hd
    · left; intro α k z; rw [hd]; cases tl L s <;> rfl
    cases hs' : tl L s <;> first | (left; intro α k z; rfl) | skip
    case int i =>
      cases hd' : tl L d <;> first | (left; intro α k z; rfl) | skip
      cases h : ev n f x <;> first | (left; intro α k z; rfl) | skip
      right
      have h1 := tdOf_int (hs.symm.trans hs')
      have h2 := tdOf_int (hd.symm.trans hd')
      exact ⟨_, fun w => by simp [Go.convert, underlying, h1, h2, Conv.intToInt], fun k z => rfl⟩
    case str =>
      cases hd' : tl L d <;> first | (left; intro α k z; rfl) | skip
      cases h : ev n f x <;> first | (left; intro α k z; rfl) | skip
      right
      have h1 := tdOf_str (hs.symm.trans hs')
      have h2 := tdOf_str (hd.symm.trans hd')
      exact ⟨_, fun w => by simp [Go.convert, underlying, h1, h2], fun k z => rfl⟩
  case fieldAddr s x i =>
    unfold PvSays
    simp only [pvK, evK_eq, execOp]
    rcases hT s with hs | hs
    · left; intro α k z; rw [hs]
    cases hs' : tl L s <;> first | (left; intro α k z; rfl) | skip
    rename_i m fs
    cases h : ev n f x <;> first | (left; intro α k z; rfl) | skip
    rename_i a
    cases a with
    | none => left; intro α k z; rfl
    | some a =>
      obtain ⟨Fs, inf, hu, hi, hm, hall, rfl⟩ := tdOf_agg (hs.symm.trans hs')
      rcases nthK_cases (α' := Unit) (Fs.toList.map fun f => (f.offset, P.cellsOf f.type, aggOf P f.type)) i with ⟨q, hq, hk⟩ | hk
      · right
        refine ⟨.pointer (some (a.add q.1)), fun w => ?_, fun k z => by simp only [hk]⟩
        rw [List.getElem?_map] at hq
        obtain ⟨fd, hfd, rfl⟩ := Option.map_eq_some_iff.1 hq
        have hmem : fd ∈ Fs.toList := List.mem_of_getElem? hfd
        have hfd' : Fs[i]? = some fd := by rw [← Array.getElem?_toList]; exact hfd
        have h3 := hall fd hmem
        simp [Instr.fieldAt, Instr.sureAddr, underlying, hu, hfd', fieldPlace, run_sizeOf' h3.1, h3.2.2]
      · left; intro α k z; simp only [hk]
  case field s x i =>
    unfold PvSays
    simp only [pvK, evK_eq, execOp]
    rcases hT s with hs | hs
    · left; intro α k z; rw [hs]
    cases hs' : tl L s <;> first | (left; intro α k z; rfl) | skip
    rename_i m fs
    cases h : ev n f x <;> first | (left; intro α k z; rfl) | skip
    rename_i cs
    obtain ⟨Fs, inf, hu, hi, hm, hall, rfl⟩ := tdOf_agg (hs.symm.trans hs')
    rcases nthK_cases (α' := Unit) (Fs.toList.map fun f => (f.offset, P.cellsOf f.type, aggOf P f.type)) i with ⟨q, hq, hk⟩ | hk
    · rw [List.getElem?_map] at hq
      obtain ⟨fd, hfd, rfl⟩ := Option.map_eq_some_iff.1 hq
      have hmem : fd ∈ Fs.toList := List.mem_of_getElem? hfd
      have hfd' : Fs[i]? = some fd := by rw [← Array.getElem?_toList]; exact hfd
      have h3 := hall fd hmem
      cases hag : aggOf P fd.type
      · cases hc : cs[fd.offset]? with
        | none => left; intro α k z; simp only [hk, partK, hag, hc]
        | some v =>
          right
          refine ⟨v, fun w => ?_, fun k z => by simp only [hk, partK, hag, hc]⟩
          simp [Instr.field, asAgg, underlying, hu, hfd', part, run_isAgg h3.2.1, hag, hc]
      · right
        refine ⟨.agg (cs.extract fd.offset (fd.offset + P.cellsOf fd.type)), fun w => ?_, fun k z => by simp only [hk, partK, hag]⟩
        simp [Instr.field, asAgg, underlying, hu, hfd', part, run_isAgg h3.2.1, hag, run_sizeOf' h3.1]
    · left; intro α k z; simp only [hk]
  case extract x i =>
    unfold PvSays
    simp only [pvK, evK_eq, execOp]
    cases h : ev n f x <;> first | (left; intro α k z; rfl) | skip
    rename_i vs
    cases hv : vs[i]? with
    | none => left; intro α k z; simp only [hv]
    | some v => right; exact ⟨v, fun w => by simp [Instr.extract, hv], fun k z => by simp only [hv]⟩
  case makeFunc fn a b => right; exact ⟨_, fun w => rfl, fun k z => rfl⟩
  case makeInterface t x =>
    unfold PvSays
    simp only [pvK, evK_eq, execOp]
    rcases hT t with hs | hs
    · left; intro α k z; rw [hs]
    have key : tl L t ≠ .non → tl L t ≠ .ifc → ∀ w, ((do pure (Next.value (← Instr.makeInterface t (ev n f x))) : Sem Next)).run P w = .ok (.value (.iface t (ev n f x))) w := by
      intro h1 h2 w
      rw [hs] at h1 h2
      have : ∃ d, P.underlying t = some d ∧ ∀ ms, d ≠ .interface ms := by
        unfold tdOf at h1 h2
        cases hu : P.underlying t with
        | none => simp [hu] at h1
        | some d =>
          refine ⟨d, rfl, fun ms e => ?_⟩
          subst e
          rw [hu] at h1 h2
          cases hi : P.info? t with
          | none => rw [hi] at h1; exact h1 rfl
          | some i =>
            rw [hi] at h1 h2
            simp only at h1 h2
            split at h2
            · exact h2 rfl
            · rename_i h; simp [h] at h1
      obtain ⟨d, hd, hne⟩ := this
      unfold Instr.makeInterface
      cases d <;> simp [underlying, hd] <;> exact hne _ rfl
    cases htd : tl L t <;> first
      | (left; intro α k z; rfl)
      | (right; exact ⟨_, key (by rw [htd]; simp) (by rw [htd]; simp), fun k z => rfl⟩)
  case call c =>
    obtain ⟨callee, args, argTypes⟩ := c
    obtain ⟨args⟩ := args
    obtain ⟨argTypes⟩ := argTypes
    cases callee <;> first | (left; intro α k z; rfl) | skip
    rename_i b
    have hres : ∀ w, (execOp (ev n f) ⟨dst, .call ⟨.builtin b, ⟨args⟩, ⟨argTypes⟩⟩, ty, pos, after, guard⟩).run P w = (builtin b ⟨argTypes⟩ ty ((⟨args⟩ : Array Operand).map fun | .const _ => true | _ => false) ((⟨args⟩ : Array Operand).map (ev n f))).run P w := by
      intro w
      simp [execOp, resolve, invoke]
      rfl
    unfold PvSays
    simp only [hres]
    cases b <;> first | (left; intro α k z; rfl) | skip
    case len =>
      match args, argTypes with
      | [x], [t] =>
        simp only [pvK, evK_eq, builtin]
        rcases hT t with hs | hs
        · left; intro α k z; rw [hs]
        cases hs' : tl L t <;> first | (left; intro α k z; rfl) | skip
        case str =>
          cases h : ev n f x <;> first | (left; intro α k z; rfl) | skip
          right
          have h1 := tdOf_str (hs.symm.trans hs')
          exact ⟨_, fun w => by simp [Builtin.len_, underlying, h1, h, goInt], fun k z => rfl⟩
        case sl e m =>
          cases h : ev n f x <;> first | (left; intro α k z; rfl) | skip
          right
          have h1 := (tdOf_sl (hs.symm.trans hs')).1
          exact ⟨_, fun w => by simp [Builtin.len_, underlying, h1, h, goInt], fun k z => rfl⟩
      | [], _ => left; intro α k z; rfl
      | [x], [] => left; intro α k z; rfl
      | [x], _ :: _ :: _ => left; intro α k z; rfl
      | _ :: _ :: _, _ => left; intro α k z; rfl
    case cap =>
      match args, argTypes with
      | [x], [t] =>
        simp only [pvK, evK_eq, builtin]
        rcases hT t with hs | hs
        · left; intro α k z; rw [hs]
        cases hs' : tl L t <;> first | (left; intro α k z; rfl) | skip
        cases h : ev n f x <;> first | (left; intro α k z; rfl) | skip
        right
        have h1 := (tdOf_sl (hs.symm.trans hs')).1
        exact ⟨_, fun w => by simp [Builtin.cap_, underlying, h1, h, goInt], fun k z => rfl⟩
      | [], _ => left; intro α k z; rfl
      | [x], [] => left; intro α k z; rfl
      | [x], _ :: _ :: _ => left; intro α k z; rfl
      | _ :: _ :: _, _ => left; intro α k z; rfl
    case max =>
      match args with
      | [x, y] =>
        simp only [pvK, evK_eq, builtin]
        cases h : ev n f x <;> first | (left; intro α k z; rfl) | skip
        cases h' : ev n f y <;> first | (left; intro α k z; rfl) | skip
        right
        exact ⟨_, fun w => by simp [Builtin.max_, Builtin.max2, h, h'], fun k z => rfl⟩
      | [] => left; intro α k z; rfl
      | [x] => left; intro α k z; rfl
      | _ :: _ :: _ :: _ => left; intro α k z; rfl
    case min =>
      match args with
      | [x, y] =>
        simp only [pvK, evK_eq, builtin]
        cases h : ev n f x <;> first | (left; intro α k z; rfl) | skip
        cases h' : ev n f y <;> first | (left; intro α k z; rfl) | skip
        right
        exact ⟨_, fun w => by simp [Builtin.min_, Builtin.min2, h, h'], fun k z => rfl⟩
      | [] => left; intro α k z; rfl
      | [x] => left; intro α k z; rfl
      | _ :: _ :: _ :: _ => left; intro α k z; rfl
theorem pvD_says {P : Program} {L : List TD} (hT : TOk P L) (dec : List Nat) (n : Nat) (f : Env) (o : Oper) :
    (∀ {α : Type} (k : Value → α) (z : α), pvD dec L n f o.op k z = z) ∨
    ∃ v, (∀ w, (execOp (ev n f) o).run P w = .ok (.value v) w) ∧ ∀ {α : Type} (k : Value → α) (z : α), pvD dec L n f o.op k z = k v := by
  have plain : (∀ {α : Type} (k : Value → α) (z : α), pvD dec L n f o.op k z = pvK L n f o.op k z) → ((∀ {α : Type} (k : Value → α) (z : α), pvD dec L n f o.op k z = z) ∨
    ∃ v, (∀ w, (execOp (ev n f) o).run P w = .ok (.value v) w) ∧ ∀ {α : Type} (k : Value → α) (z : α), pvD dec L n f o.op k z = k v) := fun h => by
    rcases pv_says (P := P) hT n f o with hz | ⟨v, hv, hk⟩
    · exact Or.inl (b := ∃ v, (∀ w, (execOp (ev n f) o).run P w = .ok (.value v) w) ∧ ∀ {α : Type} (k : Value → α) (z : α), pvD dec L n f o.op k z = k v) fun {α} k z => by rw [h]; exact hz k z
    · exact .inr ⟨v, hv, fun {α} k z => by rw [h]; exact hk k z⟩
  obtain ⟨dst, op, ty, pos, after, guard⟩ := o
  cases op <;> first | (refine plain fun {α} k z => rfl) | skip
  rename_i c x y
  cases c <;> first | (left; intro α k z; rfl) | skip
  rename_i c
  simp only [pvD, evK_eq]
  cases memK dec c
  · left; intro α k z; rfl
  · cases hv : ev n f (.tmp c) <;> first | (left; intro α k z; rfl) | skip
    rename_i b
    cases b
    · right; exact ⟨ev n f y, fun w => by simp [execOp, hv, asBool], fun k z => rfl⟩
    · right; exact ⟨ev n f x, fun w => by simp [execOp, hv, asBool], fun k z => rfl⟩
structure Ex where
  b : Bool
  at_ : Option (Nat × Nat × Array Bool)
abbrev Dr := Option ((World → Prop) × Ex)
def InW (D : Dr) (w w' : World) : Prop := match D with | none => w' = w | some S => S.1 w'
def Keep (D : Dr) (fin : Bool) (w : World) : Prop := match D with | none => True | some S => (S.2.b && fin) = true ∨ S.1 w
def Step (P : Program) (D : Dr) (Q : Exit → Act → World → Prop) (o : Oper) (al fin : Bool) (K : Act → World → Prop) (a : Act) (w : World) : Prop :=
  (∃ v, (∀ w', InW D w w' → (execOp a.eval o).run P w' = .ok (.value v) w') ∧ K (a.put o.dst v) w) ∨
  (al = true ∧ (o.wp P a w (fun a' w' => Keep D fin w' ∧ K a' w') Q ∨ (o.asks P a w ∧ LetsOut Q)))
def wpAnyJ (P : Program) (md : Region.Mode) (ops : Array Oper) (Q : Exit → Act → World → Prop) (S : World → Prop) (x : Nat) : Nat → Array Bool → Act → World → Prop
  | 0, listed, a, w => Region.ready md ops listed = [] ∧ Q .normal a w
  | q + 1, listed, a, w =>
    (Region.ready md ops listed = [] → Q .normal a w) ∧
    ∀ i ∈ Region.ready md ops listed, wpOp P ops Q i (fun a' w' => (i = x ∨ listed.getD x false = true ∨ S w') ∧ wpAnyJ P md ops Q S x q (listed.setIfInBounds i true) a' w') a w
def direct (md : Region.Mode) (ops : Array Oper) (x i : Nat) : Bool := ((ops[x]?).map fun o => o.after.any fun e => Region.binds md e && e.on == i).getD false
def ClosedL (md : Region.Mode) (ops : Array Oper) (listed : Array Bool) : Prop := ∀ k i, listed.getD k false = true → direct md ops k i = true → listed.getD i false = true
def fin (P : Program) (D : Dr) (all : Array Oper) (Q : Exit → Act → World → Prop) (a : Act) (w : World) : Prop := match D with
  | none => Q .normal a w
  | some S => match S.2.at_ with
    | none => Q .normal a w
    | some t => ClosedL .any all t.2.2 → wpAnyJ P .any all Q S.1 t.1 t.2.1 t.2.2 a w
def OR (P : Program) (D : Dr) (all : Array Oper) (Q : Exit → Act → World → Prop) : List (Oper × Bool) → Act → World → Prop
  | [], a, w => fin P D all Q a w
  | (o, al) :: os, a, w =>
    if Region.wanted o (yielded all a.tmps) then Step P D Q o al os.isEmpty (OR P D all Q os) a w else OR P D all Q os (a.put o.dst undef) w
theorem OR_plain {P : Program} {all : Array Oper} {Q : Exit → Act → World → Prop} : ∀ (l : List (Oper × Bool)) (a : Act) (w : World), OR P none all Q l a w → wpList P all Q (l.map (·.1)) a w
  | [], a, w, h => h
  | (o, al) :: os, a, w, h => by
    unfold OR at h
    simp only [List.map_cons, wpList]
    split
    · rename_i hw
      rw [if_pos hw] at h
      rcases h with ⟨v, hv, hk⟩ | ⟨_, h | h⟩
      · left
        unfold Oper.wp
        rw [hv w rfl]
        exact OR_plain os _ _ hk
      · left
        exact Oper.wp_mono (fun a' w' h' => OR_plain os a' w' h'.2) h
      · right; exact h
    · rename_i hw
      rw [if_neg hw] at h
      exact OR_plain os _ _ h
theorem wp_region_OR {P : Program} {id : Nat} {ops : Array Oper} {Q : Exit → Act → World → Prop} {a : Act} {w : World}
    (h : OR P none ops Q (ops.toList.map fun o => (o, true)) a w) : (Code.region id ops false).wp P Q a w := by
  refine wp_region_list ?_
  have := OR_plain _ a w h
  simpa [List.map_map, Function.comp_def] using this
def ordC (all : Array Oper) (listed : Array Bool) (i : Nat) (al : Bool) : Bool := match al with
  | true => Region.ready .any all listed == [i]
  | false => (Region.ready .any all listed).contains i && Region.free .any all listed i
def ordTo (all : Array Oper) : Array Bool → List (Nat × Bool) → Option (Array Bool)
  | listed, [] => some listed
  | listed, (i, al) :: r => match ordC all listed i al with
    | true => ordTo all (listed.setIfInBounds i true) r
    | false => none
def ordOk (all : Array Oper) (listed : Array Bool) (r : List (Nat × Bool)) : Bool := match ordTo all listed r with | some l => (Region.ready .any all l).isEmpty | none => false
theorem ordTo_cons {all : Array Oper} {listed l : Array Bool} {i : Nat} {al : Bool} {r : List (Nat × Bool)} (h : ordTo all listed ((i, al) :: r) = some l) :
    ordC all listed i al = true ∧ ordTo all (listed.setIfInBounds i true) r = some l := by
  unfold ordTo at h
  split at h
  · rename_i h1; exact ⟨h1, h⟩
  · cases h
def selK (ops : List Oper) : List (Nat × Bool) → List (Oper × Bool)
  | [] => []
  | (i, al) :: r => nthK ops i (fun o => (o, al) :: selK ops r) []
theorem wpAny_of_J {P : Program} {md : Region.Mode} {ops : Array Oper} {Q : Exit → Act → World → Prop} {S : World → Prop} {x : Nat} : ∀ (q : Nat) (listed : Array Bool) (a : Act) (w : World), wpAnyJ P md ops Q S x q listed a w → wpAny P md ops Q q listed a w
  | 0, _, _, _, h => h
  | q + 1, _, _, _, h => ⟨h.1, fun i hi => wpOp_mono (fun a' w' h' => wpAny_of_J q _ a' w' h'.2) (h.2 i hi)⟩
theorem direct_spec {md : Region.Mode} {ops : Array Oper} {x i : Nat} (h : direct md ops x i = true) : ∃ o, ops[x]? = some o ∧ ∃ e ∈ o.after, Region.binds md e = true ∧ e.on = i := by
  unfold direct at h
  cases ho : ops[x]? with
  | none => rw [ho] at h; simp at h
  | some o =>
    rw [ho] at h
    simp only [Option.map_some, Option.getD_some, Array.any_eq_true'] at h
    obtain ⟨e, he, hb⟩ := h
    simp only [Bool.and_eq_true, beq_iff_eq] at hb
    exact ⟨o, rfl, e, he, hb.1, hb.2⟩
theorem ready_direct {md : Region.Mode} {ops : Array Oper} {listed : Array Bool} {j i : Nat} (hj : j ∈ Region.ready md ops listed) (h : direct md ops j i = true) : listed.getD i false = true := by
  obtain ⟨_, o, ho, hall⟩ := mem_ready.1 hj
  obtain ⟨o', ho', e, he, hb, rfl⟩ := direct_spec h
  rw [ho] at ho'
  cases ho'
  exact hall e he hb
theorem ClosedL.step {md : Region.Mode} {ops : Array Oper} {listed : Array Bool} {j : Nat} (hc : ClosedL md ops listed) (hj : j ∈ Region.ready md ops listed) : ClosedL md ops (listed.setIfInBounds j true) := by
  intro k i hk hd
  have keep : ∀ i, listed.getD i false = true → (listed.setIfInBounds j true).getD i false = true := by
    intro i h
    by_cases hij : i = j
    · subst hij
      rcases Nat.lt_or_ge i listed.size with h' | h'
      · simp [h']
      · simp [Array.getElem?_eq_none h'] at h
    · simpa [Array.getElem?_setIfInBounds_ne (Ne.symm hij)] using h
  by_cases hkj : k = j
  · subst hkj; exact keep i (ready_direct hj hd)
  · exact keep i (hc k i (by simpa [Array.getElem?_setIfInBounds_ne (Ne.symm hkj)] using hk) hd)
def edgesOf (md : Region.Mode) (ops : Array Oper) (i : Nat) : List Nat := match ops[i]? with
  | some o => (o.after.toList.filter fun e => Region.binds md e).map (·.on)
  | none => []
inductive Up (md : Region.Mode) (ops : Array Oper) (x : Nat) : Nat → Prop
  | one {i : Nat} (h : direct md ops x i = true) : Up md ops x i
  | more {k i : Nat} (h : Up md ops x k) (h2 : direct md ops k i = true) : Up md ops x i
theorem edge_direct {md : Region.Mode} {ops : Array Oper} {i j : Nat} (h : j ∈ edgesOf md ops i) : direct md ops i j = true := by
  unfold edgesOf at h
  split at h
  · rename_i o ho
    simp only [List.mem_map, List.mem_filter, Array.mem_toList_iff] at h
    obtain ⟨e, ⟨he, hb⟩, rfl⟩ := h
    unfold direct
    rw [ho]
    simp only [Option.map_some, Option.getD_some, Array.any_eq_true']
    exact ⟨e, he, by simp [hb]⟩
  · cases h
def upF (md : Region.Mode) (ops : Array Oper) : Nat → List Nat → List Nat → List Nat
  | 0, _, seen => seen
  | _ + 1, [], seen => seen
  | n + 1, i :: todo, seen => match seen.contains i with
    | true => upF md ops n todo seen
    | false => upF md ops n (edgesOf md ops i ++ todo) (i :: seen)
theorem upF_sound {md : Region.Mode} {ops : Array Oper} {x : Nat} : ∀ (n : Nat) (todo seen : List Nat), (∀ i ∈ todo, Up md ops x i) → (∀ i ∈ seen, Up md ops x i) → ∀ i ∈ upF md ops n todo seen, Up md ops x i
  | 0, _, _, _, h2, i, hi => h2 i hi
  | _ + 1, [], _, _, h2, i, hi => h2 i hi
  | n + 1, k :: todo, seen, h1, h2, i, hi => by
    unfold upF at hi
    have hk := h1 k (by simp)
    have ht : ∀ i ∈ todo, Up md ops x i := fun i h => h1 i (by simp [h])
    split at hi
    · exact upF_sound n todo seen ht h2 i hi
    · refine upF_sound n _ _ (fun j hj => ?_) (fun j hj => ?_) i hi
      · rcases List.mem_append.1 hj with hj | hj
        · exact .more hk (edge_direct hj)
        · exact ht j hj
      · rcases List.mem_cons.1 hj with rfl | hj
        · exact hk
        · exact h2 j hj
def ups (md : Region.Mode) (ops : Array Oper) (x : Nat) : List Nat := upF md ops 4000 (edgesOf md ops x) []
theorem ups_sound {md : Region.Mode} {ops : Array Oper} {x i : Nat} (h : (ups md ops x).contains i = true) : Up md ops x i :=
  upF_sound 4000 (edgesOf md ops x) [] (fun j hj => .one (edge_direct hj)) (fun j hj => absurd hj (by simp)) i (by unfold ups at h; simpa using h)
theorem Up.listed {md : Region.Mode} {ops : Array Oper} {listed : Array Bool} {x i : Nat} (hcl : ClosedL md ops listed) (hx : x ∈ Region.ready md ops listed) (h : Up md ops x i) : listed.getD i false = true := by
  induction h with
  | one h => exact ready_direct hx h
  | more _ h2 ih => exact hcl _ _ ih h2
def waitsAll (md : Region.Mode) (ops : Array Oper) (x : Nat) : Bool :=
  let u := ups md ops x
  (List.range ops.size).all fun i => i == x || u.contains i || (ups md ops i).contains x
theorem getD_stay {listed : Array Bool} {x j : Nat} (h : listed.getD x false = true) : (listed.setIfInBounds j true).getD x false = true := by
  by_cases hij : x = j
  · subst hij
    rcases Nat.lt_or_ge x listed.size with h' | h'
    · simp [h']
    · simp [Array.getElem?_eq_none h'] at h
  · simpa [Array.getElem?_setIfInBounds_ne (Ne.symm hij)] using h
theorem getD_other {listed : Array Bool} {x j : Nat} (h : j ≠ x) : (listed.setIfInBounds j true).getD x false = listed.getD x false := by
  simp [Array.getElem?_setIfInBounds_ne h]
theorem ready_unlisted {md : Region.Mode} {ops : Array Oper} {listed : Array Bool} {i : Nat} (h : i ∈ Region.ready md ops listed) : listed.getD i false = false := by
  have hiun := (mem_ready.1 h).1
  rcases Nat.lt_or_ge i listed.size with h' | h'
  · simpa [h'] using hiun
  · simp [Array.getElem?_eq_none h']
theorem ready_not_x {md : Region.Mode} {ops : Array Oper} {x i j : Nat} {listed : Array Bool} (hx : x < ops.size → waitsAll md ops x = true) (hcl : ClosedL md ops listed) (hr : i ∈ Region.ready md ops listed) (hj : j ∈ Region.ready md ops listed) (hji : j ≠ i) : j ≠ x := fun e => by
  subst e
  obtain ⟨_, oj, hoj, _⟩ := mem_ready.1 hj
  obtain ⟨_, oi, hoi, _⟩ := mem_ready.1 hr
  have hjs : j < ops.size := (Array.getElem?_eq_some_iff.1 hoj).1
  have his : i < ops.size := (Array.getElem?_eq_some_iff.1 hoi).1
  have hw := hx hjs
  unfold waitsAll at hw
  simp only [] at hw
  rw [List.all_eq_true] at hw
  have hw := hw i (List.mem_range.2 his)
  have bad : listed.getD i false = true → False := fun h => by rw [ready_unlisted hr] at h; cases h
  have bad2 : listed.getD j false = true → False := fun h => by rw [ready_unlisted hj] at h; cases h
  simp only [Bool.or_eq_true, beq_iff_eq] at hw
  rcases hw with (hw | hw) | hw
  · exact hji hw.symm
  · exact bad ((ups_sound hw).listed hcl hj)
  · exact bad2 ((ups_sound hw).listed hcl hr)
theorem wpAnyJ_first {P : Program} {md : Region.Mode} {ops : Array Oper} {Q : Exit → Act → World → Prop} {S : World → Prop} {x i : Nat} {oi : Oper} {v : Value} (hx : x < ops.size → waitsAll md ops x = true) (hi : ops[i]? = some oi) (hsel : ∀ (j : Nat) (o : Oper) cs b, ops[j]? = some o → o.op ≠ .select cs b)
    (hQ : ∀ c a w, Q (.panic c) (a.put oi.dst v) w → Q (.panic c) a w) :
    ∀ (q : Nat) (listed : Array Bool) (a : Act) (w : World),
      (∀ j oj, ops[j]? = some oj → j ≠ i → listed.getD j true = false → (∀ e ∈ oj.after, Region.binds md e = true → e.on ≠ i) → oi.apart ops oj = true) →
      ClosedL md ops listed → i ∈ Region.ready md ops listed → listed.getD x false = false → YieldsIf P ops S oi v a → S w →
      wpAnyJ P md ops Q S x q (listed.setIfInBounds i true) (a.put oi.dst v) w → wpAnyJ P md ops Q S x (q + 1) listed a w := by
  intro q
  induction q with
  | zero =>
    intro listed a w _ hcl hr hxl hy hS H
    refine ⟨fun h => (by rw [h] at hr; cases hr), fun j hj => ?_⟩
    by_cases hji : j = i
    · subst hji; exact hy.wpOp hi hS ⟨.inr (.inr hS), H⟩
    · have := ready_mono hj hji
      rw [H.1] at this
      cases this
  | succ q ih =>
    intro listed a w hfree hcl hr hxl hy hS H
    refine ⟨fun h => (by rw [h] at hr; cases hr), fun j hj => ?_⟩
    by_cases hji : j = i
    · subst hji; exact hy.wpOp hi hS ⟨.inr (.inr hS), H⟩
    · have h1 := H.2 j (ready_mono hj hji)
      obtain ⟨hjun, oj, hoj, hall⟩ := mem_ready.1 hj
      have hiun := (mem_ready.1 hr).1
      have hnot : ∀ e ∈ oj.after, Region.binds md e = true → e.on ≠ i := fun e he hb heq => by
        have h1 := hall e he hb
        rw [heq] at h1
        rcases Nat.lt_or_ge i listed.size with h' | h'
        · simp [h'] at hiun h1; rw [hiun] at h1; cases h1
        · simp [Array.getElem?_eq_none h'] at h1
      have hjx : j ≠ x := ready_not_x hx hcl hr hj hji
      have hix : i ≠ x := ready_not_x hx hcl hj hr (Ne.symm hji)
      have h2 := wpOp_putIf hoj (hfree j oj hoj hji hjun hnot) (fun cs b => hsel i oi cs b hi) (fun cs b => hsel j oj cs b hoj) hQ hy h1
      have hfree' : ∀ k ok, ops[k]? = some ok → k ≠ i → (listed.setIfInBounds j true).getD k true = false →
          (∀ e ∈ ok.after, Region.binds md e = true → e.on ≠ i) → oi.apart ops ok = true := fun k ok hk hki hun hno => by
        refine hfree k ok hk hki ?_ hno
        by_cases hjk : j = k
        · subst hjk; exact hjun
        · rw [getD_set_ne true hjk] at hun; exact hun
      have hS3 : ∀ {w' : World}, (j = x ∨ (listed.setIfInBounds i true).getD x false = true ∨ S w') → S w' := fun h => by
        rcases h with h | h | h
        · exact absurd h hjx
        · rw [getD_other hix, hxl] at h; cases h
        · exact h
      refine wpOp_mono (fun a' w' h3 => ⟨.inr (.inr (hS3 h3.2.1)), ih (listed.setIfInBounds j true) a' w' hfree' (hcl.step hj) (ready_mono hr (Ne.symm hji)) (by rw [getD_other hjx, hxl]) h3.1 (hS3 h3.2.1) ?_⟩) h2
      rw [Array.setIfInBounds_comm _ _ hji]
      exact h3.2.2
theorem wpAnyJ_take {P : Program} {md : Region.Mode} {ops : Array Oper} {Q : Exit → Act → World → Prop} {S : World → Prop} {x i : Nat} {oi : Oper} {v : Value} {q : Nat} {listed : Array Bool} {a : Act} {w : World} (hx : x < ops.size → waitsAll md ops x = true) (hcl : ClosedL md ops listed) (hi : ops[i]? = some oi)
    (hs : Region.noSelect ops = true) (hf : Region.free md ops listed i = true) (hr : (Region.ready md ops listed).contains i = true) (hxl : listed.getD x false = false)
    (hQ : ∀ c a w, Q (.panic c) (a.put oi.dst v) w → Q (.panic c) a w) (hy : YieldsIf P ops S oi v a) (hS : S w)
    (h : wpAnyJ P md ops Q S x q (listed.setIfInBounds i true) (a.put oi.dst v) w) : wpAnyJ P md ops Q S x (q + 1) listed a w :=
  wpAnyJ_first hx hi (Region.noSelect_spec hs) hQ q listed a w (Region.free_spec hi hf) hcl (by simpa using hr) hxl hy hS h
theorem wpAnyJ_all {P : Program} {md : Region.Mode} {ops : Array Oper} {Q : Exit → Act → World → Prop} {S : World → Prop} {x : Nat} {rs : List Nat} {q : Nat} {listed : Array Bool} {a : Act} {w : World} (hr : Region.ready md ops listed = rs) (hne : rs ≠ [])
    (h : ∀ i ∈ rs, wpOp P ops Q i (fun a' w' => (i = x ∨ listed.getD x false = true ∨ S w') ∧ wpAnyJ P md ops Q S x q (listed.setIfInBounds i true) a' w') a w) : wpAnyJ P md ops Q S x (q + 1) listed a w :=
  ⟨fun h0 => absurd (hr ▸ h0) hne, hr ▸ h⟩
theorem wpAnyJ_done {P : Program} {md : Region.Mode} {ops : Array Oper} {Q : Exit → Act → World → Prop} {S : World → Prop} {x : Nat} {listed : Array Bool} {a : Act} {w : World} (hr : Region.ready md ops listed = []) (h : Q .normal a w) :
    ∀ q, wpAnyJ P md ops Q S x q listed a w
  | 0 => ⟨hr, h⟩
  | _ + 1 => ⟨fun _ => h, by rw [hr]; simp⟩
theorem wpAnyJ_free {P : Program} {md : Region.Mode} {ops : Array Oper} {Q : Exit → Act → World → Prop} {S S' : World → Prop} {x x' : Nat} : ∀ (q : Nat) (listed : Array Bool) (a : Act) (w : World), listed.getD x false = true → wpAnyJ P md ops Q S' x' q listed a w → wpAnyJ P md ops Q S x q listed a w
  | 0, _, _, _, _, h => h
  | q + 1, listed, _, _, hx, h => ⟨h.1, fun i hi => wpOp_mono (fun a' w' h' => ⟨.inr (.inl hx), wpAnyJ_free q _ a' w' (getD_stay hx) h'.2⟩) (h.2 i hi)⟩
def lastI : List (Nat × Bool) → Nat
  | [] => 0
  | [(i, _)] => i
  | _ :: r => lastI r
theorem nthK_some {all : Array Oper} {i : Nat} {o : Oper} (h : all[i]? = some o) {α : Type} (k : Oper → α) (z : α) : nthK all.toList i k z = k o := by
  rcases nthK_cases (α' := Unit) all.toList i with ⟨b, hb, hk⟩ | hk
  · rw [Array.getElem?_toList, h] at hb
    cases hb
    exact hk k z
  · exfalso
    have h1 := hk (α := Nat) (fun _ => 1) 0
    have : ∀ (l : List Oper) (i : Nat), l[i]? = some o → nthK l i (fun _ => 1) 0 = 1 := by
      intro l
      induction l with
      | nil => intro i h; simp at h
      | cons b l ih => intro i h; cases i with
        | zero => rfl
        | succ i => simp [nthK]; exact ih i (by simpa using h)
    have h2 := this all.toList i (by rw [Array.getElem?_toList]; exact h)
    omega
theorem selK_nil {all : Array Oper} {r : List (Nat × Bool)} {listed l : Array Bool} (ho : ordTo all listed r = some l) (h : (selK all.toList r).isEmpty = true) : r = [] := by
  cases r with
  | nil => rfl
  | cons x r =>
    exfalso
    obtain ⟨i, al⟩ := x
    obtain ⟨h1, _⟩ := ordTo_cons ho
    unfold ordC at h1
    have hr : i ∈ Region.ready .any all listed := by
      cases al
      · simp at h1; exact h1.1
      · simp at h1; rw [h1]; simp
    obtain ⟨_, o, hio, _⟩ := mem_ready.1 hr
    unfold selK at h
    rw [nthK_some hio] at h
    simp at h
theorem OR_step {P : Program} {S : World → Prop} {ex : Ex} {x i : Nat} {o : Oper} {al : Bool} {all : Array Oper} {Q : Exit → Act → World → Prop} {r : List (Nat × Bool)} {a : Act} {w : World} (hio : all[i]? = some o)
    (hlast : ex.b = true → r = [] → i = x) (hne : (selK all.toList r).isEmpty = true → r = []) (hSw : S w) (h : OR P (some (S, ex)) all Q ((o, al) :: selK all.toList r) a w) :
    wpOp P all Q i (fun a' w' => (i = x ∨ S w') ∧ (r ≠ [] → S w') ∧ OR P (some (S, ex)) all Q (selK all.toList r) a' w') a w := by
  unfold OR at h
  by_cases hw : Region.wanted o (yielded all a.tmps) = true
  · rw [if_pos hw] at h
    rcases h with ⟨v, hv, hn⟩ | ⟨rfl, h⟩
    · exact (show YieldsIf P all S o v a from .inl ⟨hw, hv⟩).wpOp hio hSw ⟨.inr hSw, fun _ => hSw, hn⟩
    · unfold wpOp
      rw [hio]
      simp only [hw, if_true]
      refine h.imp (Oper.wp_mono fun a' w' h' => ?_) id
      have hkeep : (i = x ∧ r = []) ∨ S w' := by
        rcases h'.1 with he | he
        · simp only [Bool.and_eq_true] at he
          exact .inl ⟨hlast he.1 (hne he.2), hne he.2⟩
        · exact .inr he
      exact ⟨hkeep.imp (·.1) id, fun hr => hkeep.elim (fun h => absurd h.2 hr) id, h'.2⟩
  · rw [if_neg hw] at h
    exact (show YieldsIf P all S o undef a from .inr ⟨by simpa using hw, rfl⟩).wpOp hio hSw ⟨.inr hSw, fun _ => hSw, h⟩
theorem OR_drawn {P : Program} {S : World → Prop} {ex : Ex} {x q : Nat} {all : Array Oper} {Q : Exit → Act → World → Prop} {l : Array Bool} (hx : x < all.size → waitsAll .any all x = true) (hs : Region.noSelect all = true)
    (hQ : ∀ c (a : Act) d v w, Q (.panic c) (a.put d v) w → Q (.panic c) a w) (hbase : ∀ a w, ClosedL .any all l → fin P (some (S, ex)) all Q a w → wpAnyJ P .any all Q S x q l a w) :
    ∀ (ord : List (Nat × Bool)) (listed : Array Bool) (a : Act) (w : World), (ex.b = true → ord ≠ [] → lastI ord = x) → (ord ≠ [] → listed.getD x false = false) → (∀ t ∈ ord.dropLast, t.1 ≠ x) → ClosedL .any all listed → ordTo all listed ord = some l → (ord ≠ [] → S w) → OR P (some (S, ex)) all Q (selK all.toList ord) a w →
      wpAnyJ P .any all Q S x (ord.length + q) listed a w
  | [], listed, a, w, hl, hxl, hdl, hcl, ho, hS, h => by
    cases ho
    rw [List.length_nil, Nat.zero_add]
    exact hbase a w hcl h
  | (i, al) :: r, listed, a, w, hl, hxl, hdl, hcl, ho, hS, h => by
    have hSw := hS (by simp)
    have hxu := hxl (by simp)
    have hix : r ≠ [] → i ≠ x := fun hr => hdl (i, al) (by cases r with | nil => exact absurd rfl hr | cons y r => simp)
    have hxl' : r ≠ [] → (listed.setIfInBounds i true).getD x false = false := fun hr => by rw [getD_other (hix hr), hxu]
    have hdl' : ∀ t ∈ r.dropLast, t.1 ≠ x := fun t ht => hdl t (by cases r with | nil => simp at ht | cons y r => simp [ht])
    obtain ⟨h1, h2⟩ := ordTo_cons ho
    unfold ordC at h1
    unfold selK at h
    have hri : i ∈ Region.ready .any all listed := by
      cases al
      · simp at h1; exact h1.1
      · simp at h1; rw [h1]; simp
    obtain ⟨_, o, hio, _⟩ := mem_ready.1 hri
    rw [nthK_some hio] at h
    have hl' : ex.b = true → r ≠ [] → lastI r = x := fun he hr => by
      have := hl he (by simp)
      cases r with
      | nil => exact absurd rfl hr
      | cons y r => simpa [lastI] using this
    rw [show ((i, al) :: r).length + q = (r.length + q) + 1 by rw [List.length_cons]; omega]
    cases al
    · unfold OR at h
      have first : ∀ v, YieldsIf P all S o v a → OR P (some (S, ex)) all Q (selK all.toList r) (a.put o.dst v) w → wpAnyJ P .any all Q S x (r.length + q + 1) listed a w := by
        intro v hy hn
        have next := OR_drawn hx hs hQ hbase r (listed.setIfInBounds i true) (a.put o.dst v) w hl' hxl' hdl' (hcl.step hri) h2 (fun _ => hSw) hn
        simp only [Bool.and_eq_true] at h1
        exact wpAnyJ_take hx hcl hio hs h1.2 h1.1 hxu (fun c a w => hQ c a o.dst v w) hy hSw next
      by_cases hw : Region.wanted o (yielded all a.tmps) = true
      · rw [if_pos hw] at h
        rcases h with ⟨v, hv, hn⟩ | ⟨hf, h⟩
        · exact first v (.inl ⟨hw, hv⟩) hn
        · cases hf
      · rw [if_neg hw] at h
        exact first undef (.inr ⟨by simpa using hw, rfl⟩) h
    · refine wpAnyJ_all (rs := [i]) (by simpa using h1) (by simp) fun j hj => ?_
      simp at hj
      subst hj
      refine wpOp_mono (fun a' w' h' => ⟨h'.1.imp id .inr, OR_drawn hx hs hQ hbase r _ a' w' hl' hxl' hdl' (hcl.step hri) h2 h'.2.1 h'.2.2⟩) (OR_step hio (fun he hr => ?_) (fun he => selK_nil h2 he) hSw h)
      have := hl he (by simp)
      subst hr
      simpa [lastI] using this
def altEx (all : Array Oper) (x q : Nat) (listed : Array Bool) (t : List (Nat × Bool) × Bool) : Ex := match t.2 with
  | true => ⟨Nat.blt x all.size, none⟩
  | false => ⟨false, some (x, q - t.1.length, (ordTo all (listed.setIfInBounds ((t.1.head?.map (·.1)).getD 0) true) t.1.tail).getD #[])⟩
def xOk (x : Nat) (ord : List (Nat × Bool)) : Bool := ord.dropLast.all fun t => !(Nat.beq t.1 x)
theorem xOk_spec {x : Nat} {ord : List (Nat × Bool)} (h : xOk x ord = true) : ∀ t ∈ ord.dropLast, t.1 ≠ x := fun t ht e => by
  have := List.all_eq_true.1 h t ht
  rw [e] at this
  simp at this
def altOk (all : Array Oper) (x q : Nat) (listed : Array Bool) (t : List (Nat × Bool) × Bool) : Bool := xOk x t.1 && match t.1 with
  | [] => false
  | (i, _) :: r => match ordTo all (listed.setIfInBounds i true) r with
    | none => false
    | some l => match t.2 with
      | true => (Region.ready .any all l).isEmpty && Nat.beq (r.length + 1) q && (!(Nat.blt x all.size) || Nat.beq (lastI t.1) x)
      | false => Nat.ble (r.length + 1) q
def altsOk (all : Array Oper) (x q : Nat) (listed : Array Bool) (ts : List (List (Nat × Bool) × Bool)) : Bool :=
  ts.all (altOk all x q listed) && (Region.ready .any all listed == ts.map fun t => (t.1.head?.map (·.1)).getD 0) && !ts.isEmpty && Region.noSelect all && !(listed.getD x false) && (!(Nat.blt x all.size) || waitsAll .any all x)
theorem OR_alt {P : Program} {S : World → Prop} {x q : Nat} {all : Array Oper} {Q : Exit → Act → World → Prop} {listed : Array Bool} {ts : List (List (Nat × Bool) × Bool)} (ho : altsOk all x q listed ts = true)
    (hQ : ∀ c (a : Act) d v w, Q (.panic c) (a.put d v) w → Q (.panic c) a w) (hcl : ClosedL .any all listed) {a : Act} {w : World} (hS : S w) (h : ∀ t ∈ ts, OR P (some (S, altEx all x q listed t)) all Q (selK all.toList t.1) a w) :
    wpAnyJ P .any all Q S x q listed a w := by
  unfold altsOk at ho
  simp only [Bool.and_eq_true, List.all_eq_true, beq_iff_eq, Bool.or_eq_true, Bool.not_eq_true'] at ho
  obtain ⟨⟨⟨⟨⟨h1, h2⟩, h3⟩, h4⟩, h6⟩, h5⟩ := ho
  have hx : x < all.size → waitsAll .any all x = true := fun hlt => by
    rcases h5 with h5 | h5
    · rw [show Nat.blt x all.size = true by simpa [Nat.blt_eq] using hlt] at h5; cases h5
    · exact h5
  obtain ⟨q', rfl⟩ : ∃ q', q = q' + 1 := by
    cases ts with
    | nil => simp at h3
    | cons t ts =>
      have := h1 t (by simp)
      unfold altOk at this
      have := (Bool.and_eq_true_iff.1 this).2
      split at this
      · cases this
      · split at this
        · cases this
        · split at this
          · simp only [Bool.and_eq_true] at this; have := Nat.eq_of_beq_eq_true this.1.2; exact ⟨q - 1, by omega⟩
          · have := Nat.le_of_ble_eq_true this; exact ⟨q - 1, by omega⟩
  refine wpAnyJ_all rfl (by rw [h2]; cases ts <;> simp_all) fun i hi => ?_
  have hi' := hi
  rw [h2, List.mem_map] at hi'
  obtain ⟨t, ht, hti⟩ := hi'
  have hok := h1 t ht
  have hor := h t ht
  obtain ⟨ord, fl⟩ := t
  cases ord with
  | nil => unfold altOk at hok; simp at hok
  | cons y r =>
    obtain ⟨i', al⟩ := y
    simp at hti
    subst hti
    obtain ⟨_, o, hio, _⟩ := mem_ready.1 hi
    unfold altOk at hok
    obtain ⟨hxo, hok⟩ := Bool.and_eq_true_iff.1 hok
    have hdl := xOk_spec hxo
    have hix : r ≠ [] → i' ≠ x := fun hr => hdl (i', al) (by cases r with | nil => exact absurd rfl hr | cons y r => simp)
    have hxl' : r ≠ [] → (listed.setIfInBounds i' true).getD x false = false := fun hr => by rw [getD_other (hix hr), h6]
    have hdl' : ∀ t ∈ r.dropLast, t.1 ≠ x := fun t ht => hdl t (by cases r with | nil => simp at ht | cons y r => simp [ht])
    simp only at hok
    cases hto : ordTo all (listed.setIfInBounds i' true) r with
    | none => rw [hto] at hok; cases hok
    | some l =>
      rw [hto] at hok
      simp only at hok
      simp only [selK] at hor
      rw [nthK_some hio] at hor
      have hsel : (selK all.toList r).isEmpty = true → r = [] := fun he => selK_nil hto he
      cases fl with
      | true =>
        simp only [Bool.and_eq_true, Bool.or_eq_true, Bool.not_eq_true', List.isEmpty_iff] at hok
        obtain ⟨⟨k1, k2⟩, k3⟩ := hok
        have k2 := Nat.eq_of_beq_eq_true k2
        have hlast : ∀ hb : (altEx all x (q' + 1) listed ((i', al) :: r, true)).b = true, lastI ((i', al) :: r) = x := fun hb => by
          rcases k3 with k3 | k3
          · rw [show (altEx all x (q' + 1) listed ((i', al) :: r, true)).b = Nat.blt x all.size from rfl, k3] at hb; cases hb
          · exact Nat.eq_of_beq_eq_true k3
        refine wpOp_mono (fun a' w' h' => ⟨h'.1.imp id .inr, ?_⟩) (OR_step hio (fun hb hr => ?_) hsel hS hor)
        · have := OR_drawn (q := 0) (l := l) hx h4 hQ (fun a w _ hf => wpAnyJ_done k1 hf 0) r (listed.setIfInBounds i' true) a' w' (fun hb hr => ?_) hxl' hdl' (hcl.step hi) hto h'.2.1 h'.2.2
          · rw [show q' = r.length + 0 by omega]; exact this
          · have := hlast hb
            cases r with
            | nil => exact absurd rfl hr
            | cons y r => simpa [lastI] using this
        · have := hlast hb
          subst hr
          simpa [lastI] using this
      | false =>
        have hle := Nat.le_of_ble_eq_true hok
        refine wpOp_mono (fun a' w' h' => ⟨h'.1.imp id .inr, ?_⟩) (OR_step hio (fun hb hr => ?_) hsel hS hor)
        · have := OR_drawn (q := q' - r.length) (l := l) hx h4 hQ (fun a w hc hf => ?_) r (listed.setIfInBounds i' true) a' w' (fun hb hr => ?_) hxl' hdl' (hcl.step hi) hto h'.2.1 h'.2.2
          · rw [show q' = r.length + (q' - r.length) by omega]; exact this
          · have he : (altEx all x (q' + 1) listed ((i', al) :: r, false)).at_ = some (x, q' - r.length, l) := by
              show some (x, q' + 1 - (r.length + 1), (ordTo all (listed.setIfInBounds i' true) r).getD #[]) = _
              rw [hto, show q' + 1 - (r.length + 1) = q' - r.length by omega]; rfl
            unfold fin at hf
            simp only [he] at hf
            exact hf hc
          · cases hb
        · cases hb
theorem rep_false (n x : Nat) : (Array.replicate n false).getD x false = false := by rw [Array.getD_eq_getD_getElem?, Array.getElem?_replicate]; split <;> rfl
theorem wp_region_drawn {P : Program} {S : World → Prop} {ex : Bool} {id : Nat} {ops : Array Oper} {Q : Exit → Act → World → Prop} {a : Act} {w : World} (ord : List (Nat × Bool)) (hm : P.follows .mixedOrders = true)
    (hn : ord.length = ops.size) (hs : Region.noSelect ops = true) (ho : ordOk ops (Array.replicate ops.size false) ord = true) (hex : ex = true → waitsAll .any ops (lastI ord) = true) (hxo : xOk (if ex then lastI ord else ops.size) ord = true)
    (hQ : ∀ c (a : Act) d v w, Q (.panic c) (a.put d v) w → Q (.panic c) a w) (hS : S w.drew)
    (h : OR P (some (S, ⟨ex, none⟩)) ops Q (selK ops.toList ord) a w.drew) : (Code.region id ops true).wp P Q a w := by
  refine wp_region_any hm (wpAny_of_J (S := S) (x := if ex then lastI ord else ops.size) _ _ _ _ ?_)
  rw [← hn]
  unfold ordOk at ho
  cases hto : ordTo ops (Array.replicate ops.size false) ord with
  | none => rw [hto] at ho; cases ho
  | some l =>
    rw [hto] at ho
    have := OR_drawn (P := P) (S := S) (Q := Q) (ex := ⟨ex, none⟩) (q := 0) (l := l) (x := if ex then lastI ord else ord.length) (all := ops) ?_ hs hQ (fun a w _ hf => wpAnyJ_done (by simpa using ho) hf 0) ord _ a w.drew (fun he _ => by rw [show ex = true from he]; rfl) (fun _ => rep_false _ _) (xOk_spec (by rw [hn]; exact hxo)) (fun k i hk _ => by rw [Array.getD_eq_getD_getElem?, Array.getElem?_replicate] at hk; split at hk <;> simp at hk) hto (fun _ => hS) h
    · rw [hn] at this ⊢; exact this
    · intro hlt
      cases ex
      · simp [hn] at hlt
      · exact hex rfl
theorem wp_region_tree {P : Program} {S : World → Prop} {x : Nat} {id : Nat} {ops : Array Oper} {Q : Exit → Act → World → Prop} {a : Act} {w : World} (ord : List (Nat × Bool)) (hm : P.follows .mixedOrders = true)
    (hn : ord.length ≤ ops.size) (hs : Region.noSelect ops = true) (ho : (ordTo ops (Array.replicate ops.size false) ord).isSome = true) (hx : x < ops.size → waitsAll .any ops x = true) (hxo : xOk x ord = true)
    (hQ : ∀ c (a : Act) d v w, Q (.panic c) (a.put d v) w → Q (.panic c) a w) (hS : S w.drew) (b : Bool) (hb : b = true → ord ≠ [] → lastI ord = x)
    (h : OR P (some (S, ⟨b, some (x, ops.size - ord.length, (ordTo ops (Array.replicate ops.size false) ord).getD #[])⟩)) ops Q (selK ops.toList ord) a w.drew) : (Code.region id ops true).wp P Q a w := by
  refine wp_region_any hm (wpAny_of_J (S := S) (x := x) _ _ _ _ ?_)
  obtain ⟨l, hto⟩ := Option.isSome_iff_exists.1 ho
  rw [hto] at h
  have := OR_drawn (P := P) (S := S) (Q := Q) (ex := ⟨b, some (x, ops.size - ord.length, l)⟩) (q := ops.size - ord.length) (l := l) (x := x) (all := ops) hx hs hQ (fun a w hc hf => (show ClosedL .any ops l → _ from hf) hc) ord _ a w.drew hb (fun _ => rep_false _ _) (xOk_spec hxo) (fun k i hk _ => by rw [Array.getD_eq_getD_getElem?, Array.getElem?_replicate] at hk; split at hk <;> simp at hk) hto (fun _ => hS) h
  rw [show ops.size = ord.length + (ops.size - ord.length) by omega]
  rw [show ops.size - ord.length = ops.size - ord.length from rfl] at this
  have e : Array.replicate (ord.length + (ops.size - ord.length)) false = Array.replicate ops.size false := by rw [show ord.length + (ops.size - ord.length) = ops.size by omega]
  rw [e]
  exact this
theorem OR_rest {P : Program} {S : World → Prop} {x q : Nat} {all : Array Oper} {Q : Exit → Act → World → Prop} {listed : Array Bool} {ord : List (Nat × Bool)} (hn : Nat.beq ord.length q = true) (hs : Region.noSelect all = true) (ho : ordOk all listed ord = true) (hxl : listed.getD x false = true) (hsz : Nat.beq listed.size all.size = true) (hxo : xOk all.size ord = true)
    (hQ : ∀ c (a : Act) d v w, Q (.panic c) (a.put d v) w → Q (.panic c) a w) (hcl : ClosedL .any all listed) {a : Act} {w : World} (h : OR P (some (fun _ => True, ⟨false, none⟩)) all Q (selK all.toList ord) a w) :
    wpAnyJ P .any all Q S x q listed a w := by
  have hn' := Nat.eq_of_beq_eq_true hn
  have hsz' := Nat.eq_of_beq_eq_true hsz
  subst hn'
  unfold ordOk at ho
  cases hto : ordTo all listed ord with
  | none => rw [hto] at ho; cases ho
  | some l =>
    rw [hto] at ho
    exact wpAnyJ_free _ _ _ _ hxl (OR_drawn (P := P) (S := fun _ => True) (Q := Q) (ex := ⟨false, none⟩) (q := 0) (l := l) (x := all.size) (all := all) (fun h => absurd h (Nat.lt_irrefl _)) hs hQ (fun a w _ hf => wpAnyJ_done (by simpa using ho) hf 0) ord listed a w (fun he _ => by cases he)
      (fun _ => by rw [Array.getD_eq_getD_getElem?, Array.getElem?_eq_none (by omega)]; rfl) (xOk_spec hxo) hcl hto (fun _ => trivial) h)
inductive Kt where
  | seq (c : Code)
  | blk (id : Nat)
  | inv (R : Act → World → Prop)
def post (P : Program) (Q : Exit → Act → World → Prop) : List Kt → Exit → Act → World → Prop
  | [] => Q
  | .seq c :: κ => Exit.then (c.wp P (post P Q κ)) (post P Q κ)
  | .blk id :: κ => Exit.inBlock id (post P Q κ)
  | .inv R :: κ => Exit.then R (post P Q κ)
theorem post_panic {P : Program} {Q : Exit → Act → World → Prop} : ∀ (κ : List Kt) (c : List PanicEntry) (a : Act) (w : World), post P Q κ (.panic c) a w = Q (.panic c) a w
  | [], _, _, _ => rfl
  | .seq c :: κ, _, _, _ => post_panic κ _ _ _
  | .blk id :: κ, _, _, _ => post_panic κ _ _ _
  | .inv R :: κ, _, _, _ => post_panic κ _ _ _
theorem post_ret {P : Program} {Q : Exit → Act → World → Prop} : ∀ (κ : List Kt) (a : Act) (w : World), post P Q κ .ret a w = Q .ret a w
  | [], _, _ => rfl
  | .seq c :: κ, _, _ => post_ret κ _ _
  | .blk id :: κ, _, _ => post_ret κ _ _
  | .inv R :: κ, _, _ => post_ret κ _ _
inductive MS where
  | code (κ : List Kt) (c : Code)
  | ops (D : Dr) (κ : List Kt) (all : Array Oper) (dec : List Nat) (rest : List (Oper × Bool))
  | nrm (κ : List Kt)
inductive Out where
  | st (s : MS) (f : Env)
  | op (D : Dr) (κ : List Kt) (all : Array Oper) (dec : List Nat) (o : Oper) (al : Bool) (rest : List (Oper × Bool)) (f : Env)
  | grd (D : Dr) (κ : List Kt) (all : Array Oper) (dec : List Nat) (d : Nat) (b : Bool) (o : Oper) (al : Bool) (rest : List (Oper × Bool)) (f : Env)
  | br (κ : List Kt) (b : Bool) (x y : Code) (f : Env)
  | ret (κ : List Kt) (f : Env)
  | nrm (κ : List Kt) (f : Env)
  | loop (κ : List Kt) (c : Code) (f : Env)
  | draw (κ : List Kt) (id : Nat) (ops : Array Oper) (f : Env)
def DenS0 (P : Program) (n : Nat) (Q : Exit → Act → World → Prop) : MS → Env → World → Prop
  | .code κ c, f, w => c.wp P (post P Q κ) (act n f) w
  | .ops D κ all _ rest, f, w => OR P D all (post P Q κ) rest (act n f) w
  | .nrm κ, f, w => post P Q κ .normal (act n f) w
def Den (P : Program) (n : Nat) (Q : Exit → Act → World → Prop) : Out → World → Prop
  | .st s f, w => DenS0 P n Q s f w
  | .op D κ all _ o al rest f, w => Step P D (post P Q κ) o al rest.isEmpty (OR P D all (post P Q κ) rest) (act n f) w
  | .grd D κ all _ _ _ o al rest f, w => OR P D all (post P Q κ) ((o, al) :: rest) (act n f) w
  | .br κ b x y f, w => (if b then x else y).wp P (post P Q κ) (act n f) w
  | .ret κ f, w => post P Q κ .ret (act n f) w
  | .nrm κ f, w => post P Q κ .normal (act n f) w
  | .loop κ c f, w => (Code.loop c).wp P (post P Q κ) (act n f) w
  | .draw κ id ops f, w => (Code.region id ops true).wp P (post P Q κ) (act n f) w
def unwK {α : Type} : List Kt → Nat → (List Kt → α) → α → α
  | [], _, _, z => z
  | .seq _ :: κ, id, k, z => unwK κ id k z
  | .inv _ :: κ, id, k, z => unwK κ id k z
  | .blk j :: κ, id, k, z => match Nat.beq j id with | true => k κ | false => unwK κ id k z
def mach (L : List TD) (n : Nat) : Nat → MS → Env → Out
  | 0, s, f => .st s f
  | q + 1, .nrm κ, f => match κ with
    | [] => .nrm [] f
    | .seq c :: κ => mach L n q (.code κ c) f
    | .blk _ :: κ => mach L n q (.nrm κ) f
    | .inv R :: κ => .nrm (.inv R :: κ) f
  | q + 1, .code κ c, f => match c with
    | .skip => mach L n q (.nrm κ) f
    | .seq a b => mach L n q (.code (.seq b :: κ) a) f
    | .block id c => mach L n q (.code (.blk id :: κ) c) f
    | .cond x a b => evK n f x fun v => match v with | .bool t => .br κ t a b f | _ => .st (.code κ (.cond x a b)) f
    | .region id ops draw => match draw with
      | false => mach L n q (.ops none κ ops [] (ops.toList.map fun o => (o, true))) f
      | true => .draw κ id ops f
    | .exit id => unwK κ id (fun κ' => mach L n q (.nrm κ') f) (.st (.code κ (.exit id)) f)
    | .ret => .ret κ f
    | .loop c => .loop κ c f
    | c => .st (.code κ c) f
  | q + 1, .ops D κ all dec rest, f => match rest with
    | [] => match D with
      | none => mach L n q (.nrm κ) f
      | some S => match S.2.at_ with
        | none => mach L n q (.nrm κ) f
        | some t => .st (.ops (some (S.1, ⟨S.2.b, some t⟩)) κ all dec []) f
    | (o, al) :: rest => match o.guard with
      | none => pvD dec L n f o.op (fun v => putK f o.dst v fun f => mach L n q (.ops D κ all dec rest) f) (.op D κ all dec o al rest f)
      | some (j, want) => nthK all.toList j (fun g => match g.dst with
          | none => .st (.ops D κ all dec ((o, al) :: rest)) f
          | some d => evK n f (.tmp d) fun v => match memK dec d, v with
            | true, .bool b => (match b, want with
              | true, true | false, false => pvD dec L n f o.op (fun v => putK f o.dst v fun f => mach L n q (.ops D κ all dec rest) f) (.op D κ all dec o al rest f)
              | true, false | false, true => (match o.dst with | some e => mach L n q (.ops D κ all (e :: dec) rest) ((e, undef) :: f) | none => mach L n q (.ops D κ all dec rest) f))
            | false, .bool b => .grd D κ all dec d b o al rest f
            | _, .tuple _ => (match o.dst with | some e => mach L n q (.ops D κ all (e :: dec) rest) ((e, undef) :: f) | none => mach L n q (.ops D κ all dec rest) f)
            | _, _ => .st (.ops D κ all dec ((o, al) :: rest)) f) (.st (.ops D κ all dec ((o, al) :: rest)) f)
theorem post_skip_to {P : Program} {Q : Exit → Act → World → Prop} {id : Nat} : ∀ (κ : List Kt), (∃ κ', (∀ {α : Type} (k : List Kt → α) (z : α), unwK κ id k z = k κ') ∧ ∀ a w, post P Q κ' .normal a w → post P Q κ (.exit id) a w) ∨ (∀ {α : Type} (k : List Kt → α) (z : α), unwK κ id k z = z)
  | [] => .inr fun k z => rfl
  | .seq c :: κ => by
    rcases post_skip_to (id := id) κ with ⟨κ', h1, h2⟩ | h
    · exact .inl ⟨κ', fun k z => h1 k z, h2⟩
    · exact .inr fun k z => h k z
  | .inv R :: κ => by
    rcases post_skip_to (id := id) κ with ⟨κ', h1, h2⟩ | h
    · exact .inl ⟨κ', fun k z => h1 k z, h2⟩
    · exact .inr fun k z => h k z
  | .blk j :: κ => by
    cases hj : Nat.beq j id
    · have hne : id ≠ j := fun e => by subst e; simp at hj
      rcases post_skip_to (id := id) κ with ⟨κ', h1, h2⟩ | h
      · refine .inl ⟨κ', fun k z => by simp only [unwK, hj]; exact h1 k z, fun a w h => ?_⟩
        simp only [post, Exit.inBlock, hne, if_false]
        exact h2 a w h
      · exact .inr fun k z => by simp only [unwK, hj]; exact h k z
    · have he : j = id := Nat.eq_of_beq_eq_true hj
      subst he
      exact .inl ⟨κ, fun k z => by simp only [unwK, hj], fun a w h => by simp only [post, Exit.inBlock, if_true]; exact h⟩
theorem wanted_of {n : Nat} {all : Array Oper} {f : Env} {o g : Oper} {j d : Nat} {want : Bool} (hg : o.guard = some (j, want)) (hj : all.toList[j]? = some g) (hd : g.dst = some d) (hn : d < n) :
    Region.wanted o (yielded all (act n f).tmps) = (match get f d with | .bool b => (b == want) | _ => false) := by
  rw [Array.getElem?_toList] at hj
  simp only [Region.wanted, hg, yielded, hj, Option.bind_some, hd, act_tmps n f d hn]
  cases get f d <;> simp
theorem mach_sound {P : Program} {L : List TD} (hT : TOk P L) {n : Nat} {Q : Exit → Act → World → Prop} : ∀ (q : Nat) (s : MS) (f : Env) (w : World), Den P n Q (mach L n q s f) w → DenS0 P n Q s f w
  | 0, s, f, w, h => h
  | q + 1, .nrm κ, f, w, h => by
    cases κ with
    | nil => exact h
    | cons k κ =>
      cases k with
      | seq c => exact mach_sound hT q (.code κ c) f w h
      | blk id =>
        have := mach_sound hT q (.nrm κ) f w h
        exact this
      | inv R => exact h
  | q + 1, .code κ c, f, w, h => by
    cases c with
    | skip => exact wp_skip (mach_sound hT q (.nrm κ) f w h)
    | seq a b => exact wp_seq (mach_sound hT q (.code (.seq b :: κ) a) f w h)
    | block id c => exact wp_block (mach_sound hT q (.code (.blk id :: κ) c) f w h)
    | cond x a b =>
      simp only [mach, evK_eq] at h
      cases hv : ev n f x with
      | bool t =>
        rw [hv] at h
        exact wp_cond (t := t) (by rw [act_eval, hv]) h
      | _ => rw [hv] at h; exact h
    | region id ops draw =>
      cases draw
      · exact wp_region_OR (mach_sound hT q (.ops none κ ops [] _) f w h)
      · exact h
    | exit id =>
      simp only [mach] at h
      rcases post_skip_to (P := P) (Q := Q) (id := id) κ with ⟨κ', h1, h2⟩ | h1
      · rw [h1] at h
        exact wp_exit (h2 _ _ (mach_sound hT q (.nrm κ') f w h))
      · rw [h1] at h; exact h
    | ret => exact wp_ret h
    | loop c => exact h
    | _ => exact h
  | q + 1, .ops D κ all dec rest, f, w, h => by
    cases rest with
    | nil =>
      show fin P D all (post P Q κ) (act n f) w
      unfold fin
      simp only [mach] at h
      cases D with
      | none => exact mach_sound hT q (.nrm κ) f w h
      | some S =>
        obtain ⟨S, b, at_⟩ := S
        cases at_ with
        | none => exact mach_sound hT q (.nrm κ) f w h
        | some t => exact h
    | cons x rest =>
      obtain ⟨o, al⟩ := x
      have step : Den P n Q (pvD dec L n f o.op (fun v => putK f o.dst v fun f => mach L n q (.ops D κ all dec rest) f) (.op D κ all dec o al rest f)) w → Step P D (post P Q κ) o al rest.isEmpty (OR P D all (post P Q κ) rest) (act n f) w := by
        intro h
        rcases pvD_says (P := P) hT dec n f o with hz | ⟨v, hv, hk⟩
        · rw [hz] at h; exact h
        · rw [hk, putK_eq] at h
          refine .inl ⟨v, fun w' _ => ?_, ?_⟩
          · rw [show (act n f).eval = ev n f from funext (act_eval n f)]; exact hv w'
          · rw [act_put]; exact mach_sound hT q (.ops D κ all dec rest) _ w h
      show OR P D all (post P Q κ) ((o, al) :: rest) (act n f) w
      unfold OR
      simp only [mach] at h
      cases hg : o.guard with
      | none =>
        rw [hg] at h
        rw [if_pos (by simp [Region.wanted, hg])]
        exact step h
      | some jw =>
        obtain ⟨j, want⟩ := jw
        rw [hg] at h
        have back : OR P D all (post P Q κ) ((o, al) :: rest) (act n f) w → (if Region.wanted o (yielded all (act n f).tmps) = true then Step P D (post P Q κ) o al rest.isEmpty (OR P D all (post P Q κ) rest) (act n f) w else OR P D all (post P Q κ) rest ((act n f).put o.dst undef) w) := fun h => by
          unfold OR at h; exact h
        rcases nthK_cases (α' := Unit) all.toList j with ⟨g, hj, hk⟩ | hk
        case inr => simp only [hk] at h; exact back h
        simp only [hk] at h
        cases hd : g.dst with
        | none => rw [hd] at h; exact back h
        | some d =>
          rw [hd] at h
          simp only [evK_eq] at h
          by_cases hn : d < n
          · have hwt := wanted_of (f := f) hg hj hd hn
            have hev : ev n f (.tmp d) = get f d := by
              unfold ev
              simp only [evK]
              have : Nat.blt d n = true := by simpa [Nat.blt_eq] using hn
              rw [this]; simp only []; rw [getK_eq]; rfl
            rw [hev] at h
            have skip : Den P n Q (match o.dst with | some e => mach L n q (.ops D κ all (e :: dec) rest) ((e, undef) :: f) | none => mach L n q (.ops D κ all dec rest) f) w → OR P D all (post P Q κ) rest ((act n f).put o.dst undef) w := fun h => by
              rw [act_put]
              cases hdst : o.dst with
              | none => rw [hdst] at h; exact mach_sound hT q (.ops D κ all dec rest) _ w h
              | some e => rw [hdst] at h; exact mach_sound hT q (.ops D κ all (e :: dec) rest) _ w h
            rw [hwt]
            cases hm : memK dec d
            · rw [hm] at h
              cases hv : get f d with
              | bool b =>
                rw [hv] at h
                have h' := back h
                rw [hwt, hv] at h'
                exact h'
              | tuple vs =>
                rw [hv] at h
                rw [if_neg (by simp)]
                exact skip h
              | _ =>
                rw [hv] at h
                have h' := back h
                rw [hwt, hv] at h'
                exact h'
            · rw [hm] at h
              cases hv : get f d with
              | bool b =>
                rw [hv] at h
                cases b <;> cases want
                · rw [if_pos (by rfl)]; exact step h
                · rw [if_neg (by simp)]; exact skip h
                · rw [if_neg (by simp)]; exact skip h
                · rw [if_pos (by rfl)]; exact step h
              | tuple vs =>
                rw [hv] at h
                rw [if_neg (by simp)]
                exact skip h
              | _ =>
                rw [hv] at h
                have h' := back h
                rw [hwt, hv] at h'
                exact h'
          · have hev : ev n f (.tmp d) = undef := by
              unfold ev
              simp only [evK]
              have : Nat.blt d n = false := by
                cases hb : Nat.blt d n
                · rfl
                · exact absurd (by simpa [Nat.blt_eq] using hb) hn
              rw [this]; rfl
            have hwt : Region.wanted o (yielded all (act n f).tmps) = false := by
              rw [Array.getElem?_toList] at hj
              simp [Region.wanted, hg, yielded, hj, hd, act, hn]
            rw [hev] at h
            rw [hwt, if_neg (by simp), act_put]
            have h' : Den P n Q (match o.dst with | some e => mach L n q (.ops D κ all (e :: dec) rest) ((e, undef) :: f) | none => mach L n q (.ops D κ all dec rest) f) w := by
              cases hm : memK dec d <;> rw [hm] at h <;> exact h
            cases hdst : o.dst with
            | none => rw [hdst] at h'; exact mach_sound hT q (.ops D κ all dec rest) _ w h'
            | some e => rw [hdst] at h'; exact mach_sound hT q (.ops D κ all (e :: dec) rest) _ w h'
structure DenS (P : Program) (n : Nat) (Q : Exit → Act → World → Prop) (s : MS) (f : Env) (w : World) : Prop where
  out : DenS0 P n Q s f w
end Go.Proofs.YtjcolfogmmjaoaaGreatDoor.V
end
