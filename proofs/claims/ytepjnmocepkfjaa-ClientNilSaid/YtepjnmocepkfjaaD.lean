/- The machine over what is known, its states, and that it is sound. It holds of any program. -/
import Derived.Test.YtepjnmocepkfjaaC
set_option linter.unusedVariables false
set_option linter.unusedSimpArgs false
namespace Go.Proofs.Ytepjnmocepkfjaa.A
open V

/-- rest: behind an operation that all wait for, or that waits for all; plain: as the text stands; reg: in a drawn region, σp is left alone, pre: nothing has happened yet; last: the region's last operation. -/
inductive Mode where
  | plain
  | reg (pre : Bool) (σp : Store) (ex : Ex)
  | last (ex : Ex)
  | rest
inductive AMS where
  | code (κ : List Kt) (c : Code)
  | ops (m : Mode) (κ : List Kt) (all : Array Oper) (dec : List Nat) (rest : List (Oper × Bool))
  | nrm (κ : List Kt)
inductive AOut where
  | st (s : AMS)
  | op (m : Mode) (κ : List Kt) (all : Array Oper) (dec : List Nat) (o : Oper) (al : Bool) (rest : List (Oper × Bool))
  | grd (m : Mode) (κ : List Kt) (all : Array Oper) (dec : List Nat) (d : Nat) (b : Bool) (o : Oper) (al : Bool) (rest : List (Oper × Bool))
  | br (κ : List Kt) (b : Bool) (x y : Code)
  | ret (κ : List Kt)
  | nrm (κ : List Kt)
  | loop (κ : List Kt) (c : Code)
  | draw (κ : List Kt) (id : Nat) (ops : Array Oper)
structure ARes where
  out : AOut
  f : AEnv
  σ : Store
  ob : Obs
def appK {α : Type} : Store → Store → (Store → α) → α
  | [], τ, k => k τ
  | p :: σ, τ, k => appK σ τ fun r => k (p :: r)
theorem appK_eq {α : Type} : ∀ (σ τ : Store) (k : Store → α), appK σ τ k = k (σ ++ τ)
  | [], τ, k => rfl
  | p :: σ, τ, k => by unfold appK; rw [appK_eq]; rfl
def obK {α : Type} : Obs → Obs → (Obs → α) → α
  | [], t, k => k t
  | p :: s, t, k => obK s t fun r => k (p :: r)
theorem obK_eq {α : Type} : ∀ (σ τ : Obs) (k : Obs → α), obK σ τ k = k (σ ++ τ)
  | [], τ, k => rfl
  | p :: σ, τ, k => by unfold obK; rw [obK_eq]; rfl
def rpOf (m : Mode) (al : Bool) : Bool := true
def rdOf (m : Mode) (al : Bool) : Bool := match m with | .plain => true | .last _ => true | .rest => al | .reg pre _ _ => match pre with | true => true | false => al
def rsOf (m : Mode) (al : Bool) : Bool := match m with | .plain => al | .last _ => true | .rest => al | .reg _ _ _ => al
def spOf (m : Mode) : Store := match m with | .reg _ σp _ => σp | _ => []
/-- Behind something that happened. -/
def Mode.hap : Mode → Bool → Mode
  | .reg _ σp ex, true => .reg false σp ex
  | m, _ => m
def opM (L : List TD) (n : Nat) (m : Mode) (dec : List Nat) (f : AEnv) (σ : Store) (ob : Obs) (o : Oper) (al : Bool) (k : Mode → AEnv → Store → Obs → ARes) (z : ARes) : ARes :=
  opA L n (rdOf m al) (rpOf m al) (rsOf m al) (spOf m) σ dec f o.op (fun b a σ' ob' => obK ob' ob fun ob => putAK f o.dst a fun f => k (m.hap b) f σ' ob) z
def machA (L : List TD) (n : Nat) : Nat → AMS → AEnv → Store → Obs → ARes
  | 0, s, f, σ, ob => ⟨.st s, f, σ, ob⟩
  | q + 1, .nrm κ, f, σ, ob => match κ with
    | [] => ⟨.nrm [], f, σ, ob⟩
    | .seq c :: κ => machA L n q (.code κ c) f σ ob
    | .blk _ :: κ => machA L n q (.nrm κ) f σ ob
    | .inv R :: κ => ⟨.nrm (.inv R :: κ), f, σ, ob⟩
  | q + 1, .code κ c, f, σ, ob => match c with
    | .skip => machA L n q (.nrm κ) f σ ob
    | .seq a b => machA L n q (.code (.seq b :: κ) a) f σ ob
    | .block id c => machA L n q (.code (.blk id :: κ) c) f σ ob
    | .cond x a b => evNK n f x fun v => match v with | .v (.bool t) _ => ⟨.br κ t a b, f, σ, ob⟩ | _ => ⟨.st (.code κ (.cond x a b)), f, σ, ob⟩
    | .region id ops draw => match draw with
      | false => machA L n q (.ops .plain κ ops [] (ops.toList.map fun o => (o, true))) f σ ob
      | true => ⟨.draw κ id ops, f, σ, ob⟩
    | .exit id => unwK κ id (fun κ' => machA L n q (.nrm κ') f σ ob) ⟨.st (.code κ (.exit id)), f, σ, ob⟩
    | .ret => ⟨.ret κ, f, σ, ob⟩
    | .loop c => ⟨.loop κ c, f, σ, ob⟩
    | c => ⟨.st (.code κ c), f, σ, ob⟩
  | q + 1, .ops m κ all dec rest, f, σ, ob => match rest with
    | [] => match m with
      | .plain => machA L n q (.nrm κ) f σ ob
      | .rest => machA L n q (.nrm κ) f σ ob
      | .last ex => match ex.at_ with
        | none => machA L n q (.nrm κ) f σ ob
        | some t => ⟨.st (.ops (.last ⟨ex.b, some t⟩) κ all dec []), f, σ, ob⟩
      | .reg pre σp ex => match ex.at_ with
        | none => appK σp σ fun σ => machA L n q (.nrm κ) f σ ob
        | some t => ⟨.st (.ops (.reg pre σp ⟨ex.b, some t⟩) κ all dec []), f, σ, ob⟩
    | (o, al) :: rest => match (match m, al, rest with | .reg _ σp ex, true, [] => (match ex.b with | true => some (σp, ex) | false => none) | _, _, _ => none) with
      | some (σp, ex) => appK σp σ fun σ => machA L n q (.ops (.last ex) κ all dec [(o, true)]) f σ ob
      | none => match o.guard with
        | none => opM L n m dec f σ ob o al (fun m f σ ob => machA L n q (.ops m κ all dec rest) f σ ob) ⟨.op m κ all dec o al rest, f, σ, ob⟩
        | some (j, want) => nthK all.toList j (fun g => match g.dst with
            | none => ⟨.st (.ops m κ all dec ((o, al) :: rest)), f, σ, ob⟩
            | some d => evAK n f (.tmp d) fun v => match memK dec d, v with
              | true, .v (.bool b) _ => (match b, want with
                | true, true | false, false => opM L n m dec f σ ob o al (fun m f σ ob => machA L n q (.ops m κ all dec rest) f σ ob) ⟨.op m κ all dec o al rest, f, σ, ob⟩
                | true, false | false, true => (match o.dst with | some e => machA L n q (.ops m κ all (e :: dec) rest) ((e, .v undef 0) :: f) σ ob | none => machA L n q (.ops m κ all dec rest) f σ ob))
              | false, .v (.bool b) _ => ⟨.grd m κ all dec d b o al rest, f, σ, ob⟩
              | _, .v (.tuple _) _ => (match o.dst with | some e => machA L n q (.ops m κ all (e :: dec) rest) ((e, .v undef 0) :: f) σ ob | none => machA L n q (.ops m κ all dec rest) f σ ob)
              | _, _ => ⟨.st (.ops m κ all dec ((o, al) :: rest)), f, σ, ob⟩) ⟨.st (.ops m κ all dec ((o, al) :: rest)), f, σ, ob⟩

/-! ### What the states say -/
/-- Where a call began: S: what it may turn; X: what others own. -/
structure Ctx where
  X : Nat → Prop
  S : Nat → Prop
  w : World
  dis : ∀ b, S b → ¬ X b
  old : ∀ b, X b → b < w.heap.size
structure Sat (c : Ctx) (w : World) (S : Nat → Prop) (f : AEnv) (fc : Env) : Prop where
  env : EnvRep (or2 S c.X) w f fc
  ev : Ev c.S c.w w
  sub : ∀ b, S b → c.S b ∨ c.w.heap.size ≤ b
def SgOf (ws : World) (U : Nat → Prop) : World → Prop := fun w' => ∀ b, b < ws.heap.size → ¬ U b → w'.heap[b]? = ws.heap[b]?
structure RSat (M : Nat → Prop) (S : Nat → Prop) (w : World) (pre : Bool) (σp σ : Store) (Sg : World → Prop) (ws : World) (U Sp Su : Nat → Prop) : Prop where
  sg : Sg = SgOf ws U
  now : Sg w
  size : ws.heap.size ≤ w.heap.size
  hp : Holds M w σp Sp
  hu : Holds M w σ Su
  all : ∀ b, S b ↔ Sp b ∨ Su b
  dis : ∀ b, Sp b → ¬ Su b
  un : ∀ b, Su b → U b ∨ ws.heap.size ≤ b
  kept : ∀ b, Sp b → ¬ U b ∧ b < ws.heap.size
  first : pre = true → w = ws ∧ ∀ b, U b → Su b
def HoldsM (m : Mode) (M S : Nat → Prop) (w : World) (σ : Store) (Sg : World → Prop) : Prop := match m with
  | .plain => Holds M w σ S
  | .last _ => Holds M w σ S
  | .rest => Holds M w σ S
  | .reg pre σp _ => ∃ ws U Sp Su, RSat M S w pre σp σ Sg ws U Sp Su
def conM (Sg : World → Prop) : Mode → Dr
  | .plain => none
  | .reg _ _ ex => some (Sg, ex)
  | .last ex => some (Sg, ex)
  | .rest => some (fun _ => True, ⟨false, none⟩)
def conS (Sg : World → Prop) : AMS → MS
  | .code κ c => .code κ c
  | .ops m κ all dec rest => .ops (conM Sg m) κ all dec rest
  | .nrm κ => .nrm κ
def conO (Sg : World → Prop) (fc : Env) : AOut → Out
  | .st s => .st (conS Sg s) fc
  | .op m κ all dec o al rest => .op (conM Sg m) κ all dec o al rest fc
  | .grd m κ all dec d b o al rest => .grd (conM Sg m) κ all dec d b o al rest fc
  | .br κ b x y => .br κ b x y fc
  | .ret κ => .ret κ fc
  | .nrm κ => .nrm κ fc
  | .loop κ c => .loop κ c fc
  | .draw κ id ops => .draw κ id ops fc
def AMS.mode : AMS → Mode
  | .ops m _ _ _ _ => m
  | _ => .plain
def AOut.mode : AOut → Mode
  | .st s => s.mode
  | .op m _ _ _ _ _ _ => m
  | .grd m _ _ _ _ _ _ _ _ => m
  | _ => .plain
/-- The last operation of a region stands alone. -/
def AMS.ok : AMS → Prop
  | .ops (.last ex) _ _ _ rest => ex.b = true ∧ ((∃ o, rest = [(o, true)]) ∨ rest = [])
  | _ => True
def AOut.ok : AOut → Prop
  | .st s => s.ok
  | .op (.last ex) _ _ _ _ al rest => ex.b = true ∧ al = true ∧ rest = []
  | .grd (.last ex) _ _ _ _ _ _ al rest => ex.b = true ∧ al = true ∧ rest = []
  | _ => True
def DenS0A (c : Ctx) (P : Program) (n : Nat) (Q : Exit → Act → World → Prop) (s : AMS) (f : AEnv) (σ : Store) : Prop :=
  s.ok → ∀ w S fc Sg, Sat c w S f fc → HoldsM s.mode (or2 S c.X) S w σ Sg → DenS0 P n Q (conS Sg s) fc w
def DenOA (c : Ctx) (P : Program) (n : Nat) (Q : Exit → Act → World → Prop) (r : ARes) : Prop :=
  r.out.ok → ∀ w S fc Sg, Sat c w S r.f fc → HoldsM r.out.mode (or2 S c.X) S w r.σ Sg → Den P n Q (conO Sg fc r.out) w
/-- What is to be shown where the machine stands; behind a name that nothing looks into. -/
structure DenA (c : Ctx) (P : Program) (n : Nat) (Q : Exit → Act → World → Prop) (s : AMS) (f : AEnv) (σ : Store) : Prop where
  out : DenS0A c P n Q s f σ

/-! ### One operation -/
theorem opA_says {P : Program} {L : List TD} (hT : TOk P L) (n : Nat) (rd rp rs : Bool) (σp σ : Store) (dec : List Nat) (f : AEnv) (o : Oper) :
    (∀ {α : Type} (k : Bool → AV → Store → Obs → α) (z : α), opA L n rd rp rs σp σ dec f o.op k z = z) ∨
    (∃ a ob, (∀ {α : Type} (k : Bool → AV → Store → Obs → α) (z : α), opA L n rd rp rs σp σ dec f o.op k z = k false a σ ob) ∧
      ∀ (M : Nat → Prop) (w : World) (Sp Su : Nat → Prop) (fc : Env) (W : World → Prop), OT ob → EnvRep M w f fc → Holds M w σp Sp → Holds M w σ Su → (rs = true → Stays w W Su) → (rp = true → Stays w W Sp) → (rd = true → Stays w W (fun b => b < w.heap.size ∧ ¬ M b)) →
        ∃ v, (∀ w', W w' → (execOp (ev n fc) o).run P w' = .ok (.value v) w') ∧ Rep M w a v) ∨
    (rs = true ∧ ∃ σ' ob, (∀ {α : Type} (k : Bool → AV → Store → Obs → α) (z : α), opA L n rd rp rs σp σ dec f o.op k z = k true (.v undef 0) σ' ob) ∧
      ∀ (M : Nat → Prop) (w : World) (Su : Nat → Prop) (fc : Env), OT ob → EnvRep M w f fc → Holds M w σ Su → (∀ b, Su b → M b) →
        ∃ w1, (execOp (ev n fc) o).run P w = .ok .skip w1 ∧ Ev Su w w1 ∧ Holds M w1 σ' Su) := by
  rcases pureA_says (P := P) (L := L) hT n dec f o with hp | ⟨a, hp, hs⟩
  · have hp : ∀ {α : Type} (k : AV → α) (z : α), pureA L n dec f o.op k z = z := hp
    rcases readA_says (P := P) (L := L) hT n rd rp rs σp σ f o with hr | ⟨a, ob, hr, hs⟩
    · cases rs
      · left; intro α k z; unfold opA; rw [hp, hr]
      · rcases storeA_says (P := P) (L := L) hT n σ f o with hst | ⟨σ', ob, hst, hs⟩
        · left; intro α k z; unfold opA; rw [hp, hr]; exact hst _ z
        · exact .inr (.inr ⟨rfl, σ', ob, fun k z => by unfold opA; rw [hp, hr]; exact hst _ z, hs⟩)
    · exact .inr (.inl ⟨a, ob, fun k z => by unfold opA; rw [hp, hr], hs⟩)
  · have hp : ∀ {α : Type} (k : AV → α) (z : α), pureA L n dec f o.op k z = k a := hp
    exact .inr (.inl ⟨a, [], fun k z => by unfold opA; rw [hp], fun M w Sp Su fc W _ henv _ _ _ _ _ => let ⟨v, hv, hr⟩ := hs M w fc henv; ⟨v, fun w' _ => hv w', hr⟩⟩)

theorem HoldsM.parts {m : Mode} {M S : Nat → Prop} {w : World} {σ : Store} {Sg : World → Prop} (h : HoldsM m M S w σ Sg) : ∃ Sp Su, Holds M w (spOf m) Sp ∧ Holds M w σ Su ∧ (∀ b, S b ↔ Sp b ∨ Su b) ∧ ∀ b, Sp b → ¬ Su b := by
  cases m with
  | plain => exact ⟨no, S, fun _ h => h, h, fun b => ⟨.inr, fun h => h.elim (fun h => h.elim) id⟩, fun _ h => h.elim⟩
  | rest => exact ⟨no, S, fun _ h => h, h, fun b => ⟨.inr, fun h => h.elim (fun h => h.elim) id⟩, fun _ h => h.elim⟩
  | last ex => exact ⟨no, S, fun _ h => h, h, fun b => ⟨.inr, fun h => h.elim (fun h => h.elim) id⟩, fun _ h => h.elim⟩
  | reg pre σp ex => obtain ⟨ws, U, Sp, Su, h⟩ := h; exact ⟨Sp, Su, h.hp, h.hu, h.all, h.dis⟩

theorem stepM {P : Program} {L : List TD} (hT : TOk P L) {c : Ctx} {n : Nat} {Q : Exit → Act → World → Prop} {m : Mode} {κ : List Kt} {all : Array Oper} {dec : List Nat} {o : Oper} {al : Bool} {rest : List (Oper × Bool)} {f : AEnv} {σ : Store} {ob : Obs} {k : Mode → AEnv → Store → Obs → ARes} {z : ARes}
    (hlast : ∀ ex, m = .last ex → ex.b = true ∧ al = true ∧ rest = [])
    (hob : OT (opM L n m dec f σ ob o al k z).ob) (hkob : ∀ m f σ ob, OT (k m f σ ob).ob → OT ob) (hk : ∀ m f σ ob, OT (k m f σ ob).ob → DenOA c P n Q (k m f σ ob) → DenS0A c P n Q (.ops m κ all dec rest) f σ) (hz : z = ⟨.op m κ all dec o al rest, f, σ, ob⟩)
    (hd : DenOA c P n Q (opM L n m dec f σ ob o al k z)) :
    ∀ w S fc Sg, Sat c w S f fc → HoldsM m (or2 S c.X) S w σ Sg → Step P (conM Sg m) (post P Q κ) o al rest.isEmpty (OR P (conM Sg m) all (post P Q κ) rest) (act n fc) w := by
  have haa : ∀ fc, (act n fc).eval = ev n fc := fun fc => funext (act_eval n fc)
  have hfin : ∀ ex, m = .last ex → (ex.b && rest.isEmpty) = true := fun ex e => by obtain ⟨h1, _, h3⟩ := hlast ex e; rw [h1, h3]; rfl
  rcases opA_says (P := P) (L := L) hT n (rdOf m al) (rpOf m al) (rsOf m al) (spOf m) σ dec f o with h | ⟨a, ob', h, hs⟩ | ⟨hrs, σ', ob', h, hs⟩
  · have e : opM L n m dec f σ ob o al k z = z := h _ _
    rw [e] at hob hd
    subst hz
    intro w S fc Sg hsat hh
    exact hd (by cases m <;> first | trivial | exact hlast _ rfl) w S fc Sg hsat hh
  · have e : opM L n m dec f σ ob o al k z = k m (putA f o.dst a) σ (ob' ++ ob) := by
      unfold opM
      rw [h, obK_eq, putAK_eq]
      cases m <;> rfl
    rw [e] at hob hd
    have hot := hkob m (putA f o.dst a) σ (ob' ++ ob) hob
    have hden := hk m (putA f o.dst a) σ (ob' ++ ob) hob hd
    intro w S fc Sg hsat hh
    have hob' : OT ob' := fun p hp => hot p (List.mem_append_left _ hp)
    have next : ∀ v, Rep (or2 S c.X) w a v → OR P (conM Sg m) all (post P Q κ) rest (act n (put fc o.dst v)) w := fun v hv => by
      refine hden ?_ w S (put fc o.dst v) Sg ⟨hsat.env.put o.dst hv, hsat.ev, hsat.sub⟩ hh
      cases m with
      | last ex => obtain ⟨h1, h2, h3⟩ := hlast ex rfl; exact ⟨h1, .inr h3⟩
      | _ => trivial
    obtain ⟨Sp, Su, hp, hu, hall, hdis⟩ := hh.parts
    cases m with
    | plain =>
      obtain ⟨v, hv, hr⟩ := hs (or2 S c.X) w Sp Su fc (fun w' => w' = w) hob' hsat.env hp hu (fun _ w' e b _ => by rw [e]) (fun _ w' e b _ => by rw [e]) (fun _ w' e b _ => by rw [e])
      exact .inl ⟨v, fun w' e => by rw [haa]; exact hv w' e, by rw [act_put]; exact next v hr⟩
    | rest =>
      cases al
      · obtain ⟨v, hv, hr⟩ := hs (or2 S c.X) w no S fc (fun _ => True) hob' hsat.env (fun _ h => h) hh (fun h => by cases h) (fun _ w' _ b hb => hb.elim) (fun h => by cases h)
        exact .inl ⟨v, fun w' _ => by rw [haa]; exact hv w' trivial, by rw [act_put]; exact next v hr⟩
      · obtain ⟨v, hv, hr⟩ := hs (or2 S c.X) w Sp Su fc (fun w' => w' = w) hob' hsat.env hp hu (fun _ w' e b _ => by rw [e]) (fun _ w' e b _ => by rw [e]) (fun _ w' e b _ => by rw [e])
        refine .inr ⟨rfl, .inl ?_⟩
        unfold Oper.wp
        rw [haa, hv w rfl]
        exact ⟨.inr trivial, by rw [act_put]; exact next v hr⟩
    | last ex =>
      obtain ⟨v, hv, hr⟩ := hs (or2 S c.X) w Sp Su fc (fun w' => w' = w) hob' hsat.env hp hu (fun _ w' e b _ => by rw [e]) (fun _ w' e b _ => by rw [e]) (fun _ w' e b _ => by rw [e])
      refine .inr ⟨(hlast ex rfl).2.1, .inl ?_⟩
      unfold Oper.wp
      rw [haa, hv w rfl]
      exact ⟨.inl (hfin ex rfl), by rw [act_put]; exact next v hr⟩
    | reg pre σp ex =>
      obtain ⟨ws, U, Sp, Su, hh⟩ := hh
      cases al
      · obtain ⟨v, hv, hr⟩ := hs (or2 S c.X) w Sp Su fc (fun w' => Sg w') hob' hsat.env hh.hp hh.hu (fun h => by cases h) (fun _ w' hw b hb => by
          have hsg := hh.sg
          have hnow := hh.now
          rw [hsg] at hw hnow
          rw [hw b (hh.kept b hb).2 (hh.kept b hb).1, hnow b (hh.kept b hb).2 (hh.kept b hb).1]) (fun h => by
          cases pre
          · cases h
          · obtain ⟨rfl, hU⟩ := hh.first rfl
            have hsg := hh.sg
            refine fun w' hw b hb => ?_
            rw [hsg] at hw; exact hw b hb.1 fun hu => hb.2 (.inl ((hh.all b).2 (.inr (hU b hu)))))
        exact .inl ⟨v, fun w' e => by rw [haa]; exact hv w' e, by rw [act_put]; exact next v hr⟩
      · obtain ⟨v, hv, hr⟩ := hs (or2 S c.X) w Sp Su fc (fun w' => w' = w) hob' hsat.env hh.hp hh.hu (fun _ w' e b _ => by rw [e]) (fun _ w' e b _ => by rw [e]) (fun _ w' e b _ => by rw [e])
        refine .inr ⟨rfl, .inl ?_⟩
        unfold Oper.wp
        rw [haa, hv w rfl]
        exact ⟨.inr hh.now, by rw [act_put]; exact next v hr⟩
  · have e : opM L n m dec f σ ob o al k z = k (m.hap true) (putA f o.dst (.v undef 0)) σ' (ob' ++ ob) := by
      unfold opM
      rw [h, obK_eq, putAK_eq]
    rw [e] at hob hd
    have hot := hkob (m.hap true) (putA f o.dst (.v undef 0)) σ' (ob' ++ ob) hob
    have hden := hk (m.hap true) (putA f o.dst (.v undef 0)) σ' (ob' ++ ob) hob hd
    intro w S fc Sg hsat hh
    have hob' : OT ob' := fun p hp => hot p (List.mem_append_left _ hp)
    have hcon : conM Sg (m.hap true) = conM Sg m := by cases m <;> rfl
    have hok : (AMS.ops (m.hap true) κ all dec rest).ok := by
      cases m with
      | last ex => obtain ⟨h1, h2, h3⟩ := hlast ex rfl; exact ⟨h1, .inr h3⟩
      | _ => trivial
    -- in the new world
    have go : ∀ Sp Su w1, Holds (or2 S c.X) w (spOf m) Sp → (∀ b, S b ↔ Sp b ∨ Su b) → (∀ b, Sp b → ¬ Su b) → Ev Su w w1 → Sat c w1 S (putA f o.dst (.v undef 0)) (put fc o.dst undef) := by
      intro Sp Su w1 hp hall hdis hev
      have hm : ∀ b, b < w.heap.size → Su b ∨ or2 S c.X b → or2 S c.X b := fun b _ h => h.elim (fun h => .inl ((hall b).2 (.inr h))) id
      refine ⟨EnvRep.put (hsat.env.pass hev hm) o.dst mk_v, hsat.ev.then hev fun b hb h => ?_, hsat.sub⟩
      rcases hsat.sub b ((hall b).2 (.inr h)) with h | h
      · exact h
      · omega
    have fin : ∀ w1, (execOp (ev n fc) o).run P w = .ok .skip w1 → Keep (conM Sg m) rest.isEmpty w1 → al = true → Sat c w1 S (putA f o.dst (.v undef 0)) (put fc o.dst undef) → HoldsM (m.hap true) (or2 S c.X) S w1 σ' Sg → Step P (conM Sg m) (post P Q κ) o al rest.isEmpty (OR P (conM Sg m) all (post P Q κ) rest) (act n fc) w := by
      intro w1 hrun hkeep hal hsat1 hh1
      subst hal
      refine .inr ⟨rfl, .inl ?_⟩
      unfold Oper.wp
      rw [haa, hrun]
      refine ⟨hkeep, ?_⟩
      rw [act_put]
      have := hden hok w1 S (put fc o.dst undef) Sg hsat1 hh1
      show OR P (conM Sg m) all (post P Q κ) rest (act n (put fc o.dst undef)) w1
      rw [← hcon]
      exact this
    cases m with
    | plain =>
      obtain ⟨w1, hrun, hev, hh1⟩ := hs (or2 S c.X) w S fc hob' hsat.env hh (fun b h => .inl h)
      have hsat1 := go no S w1 (fun _ h => h) (fun b => ⟨.inr, fun h => h.elim (fun h => h.elim) id⟩) (fun _ h => h.elim) hev
      exact fin w1 hrun trivial hrs hsat1 hh1
    | rest =>
      obtain ⟨w1, hrun, hev, hh1⟩ := hs (or2 S c.X) w S fc hob' hsat.env hh (fun b h => .inl h)
      exact fin w1 hrun (.inr trivial) hrs (go no S w1 (fun _ h => h) (fun b => ⟨.inr, fun h => h.elim (fun h => h.elim) id⟩) (fun _ h => h.elim) hev) hh1
    | last ex =>
      obtain ⟨w1, hrun, hev, hh1⟩ := hs (or2 S c.X) w S fc hob' hsat.env hh (fun b h => .inl h)
      exact fin w1 hrun (.inl (hfin ex rfl)) (hlast ex rfl).2.1 (go no S w1 (fun _ h => h) (fun b => ⟨.inr, fun h => h.elim (fun h => h.elim) id⟩) (fun _ h => h.elim) hev) hh1
    | reg pre σp ex =>
      obtain ⟨ws, U, Sp, Su, hh⟩ := hh
      obtain ⟨w1, hrun, hev, hh1⟩ := hs (or2 S c.X) w Su fc hob' hsat.env hh.hu (fun b h => .inl ((hh.all b).2 (.inr h)))
      have hm : ∀ b, b < w.heap.size → Su b ∨ or2 S c.X b → or2 S c.X b := fun b _ h => h.elim (fun h => .inl ((hh.all b).2 (.inr h))) id
      have hsg1 : Sg w1 := by
        have hnow := hh.now
        rw [hh.sg] at hnow ⊢
        intro b hb hU
        rw [← hnow b hb hU]
        exact hev.block b (Nat.lt_of_lt_of_le hb hh.size) fun h => by
          rcases hh.un b h with h | h
          · exact hU h
          · omega
      exact fin w1 hrun (.inr hsg1) hrs (go Sp Su w1 hh.hp hh.all hh.dis hev)
        ⟨ws, U, Sp, Su, hh.sg, hsg1, Nat.le_trans hh.size hev.size, hh.hp.ev hev hm (fun b hb h => hh.dis b hb h), hh1, hh.all, hh.dis, hh.un, hh.kept, fun h => by cases h⟩

theorem HoldsM.plain {m : Mode} {M S : Nat → Prop} {w : World} {σ : Store} {Sg : World → Prop} (h : HoldsM m M S w σ Sg) : Holds M w (spOf m ++ σ) S := by
  obtain ⟨Sp, Su, hp, hu, hall, hdis⟩ := h.parts
  exact hp.append hu hdis hall
theorem opM_cases {P : Program} {L : List TD} (hT : TOk P L) {n : Nat} {m : Mode} {dec : List Nat} {o : Oper} {al : Bool} {f : AEnv} {σ : Store} {ob : Obs} {k : Mode → AEnv → Store → Obs → ARes} {z : ARes} :
    opM L n m dec f σ ob o al k z = z ∨ ∃ m' f' σ' ob', opM L n m dec f σ ob o al k z = k m' f' σ' (ob' ++ ob) := by
  rcases opA_says (P := P) (L := L) hT n (rdOf m al) (rpOf m al) (rsOf m al) (spOf m) σ dec f o with h | ⟨a, ob', h, _⟩ | ⟨_, σ', ob', h, _⟩
  · exact .inl (h _ _)
  · right
    refine ⟨m.hap false, putA f o.dst a, σ, ob', ?_⟩
    unfold opM
    rw [h, obK_eq, putAK_eq]
  · right
    refine ⟨m.hap true, putA f o.dst (.v undef 0), σ', ob', ?_⟩
    unfold opM
    rw [h, obK_eq, putAK_eq]
/-- What a region's next operation is, if it is the last one. -/
def lastOf (m : Mode) (al : Bool) (rest : List (Oper × Bool)) : Option (Store × Ex) := match m, al, rest with | .reg _ σp ex, true, [] => (match ex.b with | true => some (σp, ex) | false => none) | _, _, _ => none
theorem lastOf_some {m : Mode} {al : Bool} {rest : List (Oper × Bool)} {σp : Store} {ex : Ex} (he : lastOf m al rest = some (σp, ex)) : (∃ pre, m = .reg pre σp ex) ∧ al = true ∧ rest = [] ∧ ex.b = true := by
  unfold lastOf at he
  cases m with
  | reg pre σp' ex' =>
    cases al <;> cases rest <;> try (simp at he)
    cases hb : ex'.b
    · rw [hb] at he; simp at he
    · rw [hb] at he
      simp at he
      obtain ⟨rfl, rfl⟩ := he
      exact ⟨⟨pre, rfl⟩, rfl, rfl, hb⟩
  | _ => simp at he
theorem mach_ops {L : List TD} {n q : Nat} {m : Mode} {κ : List Kt} {all : Array Oper} {dec : List Nat} {o : Oper} {al : Bool} {rest : List (Oper × Bool)} {f : AEnv} {σ : Store} {ob : Obs} :
    machA L n (q + 1) (.ops m κ all dec ((o, al) :: rest)) f σ ob = match lastOf m al rest with
      | some (σp, ex) => machA L n q (.ops (.last ex) κ all dec [(o, true)]) f (σp ++ σ) ob
      | none => match o.guard with
        | none => opM L n m dec f σ ob o al (fun m f σ ob => machA L n q (.ops m κ all dec rest) f σ ob) ⟨.op m κ all dec o al rest, f, σ, ob⟩
        | some (j, want) => match all.toList[j]? with
          | none => ⟨.st (.ops m κ all dec ((o, al) :: rest)), f, σ, ob⟩
          | some g => match g.dst with
            | none => ⟨.st (.ops m κ all dec ((o, al) :: rest)), f, σ, ob⟩
            | some d => match memK dec d, evA n f (.tmp d) with
              | true, .v (.bool b) _ => (match b, want with
                | true, true | false, false => opM L n m dec f σ ob o al (fun m f σ ob => machA L n q (.ops m κ all dec rest) f σ ob) ⟨.op m κ all dec o al rest, f, σ, ob⟩
                | true, false | false, true => (match o.dst with | some e => machA L n q (.ops m κ all (e :: dec) rest) ((e, .v undef 0) :: f) σ ob | none => machA L n q (.ops m κ all dec rest) f σ ob))
              | false, .v (.bool b) _ => ⟨.grd m κ all dec d b o al rest, f, σ, ob⟩
              | _, .v (.tuple _) _ => (match o.dst with | some e => machA L n q (.ops m κ all (e :: dec) rest) ((e, .v undef 0) :: f) σ ob | none => machA L n q (.ops m κ all dec rest) f σ ob)
              | _, _ => ⟨.st (.ops m κ all dec ((o, al) :: rest)), f, σ, ob⟩ := by
  show (match lastOf m al rest with | some (σp, ex) => appK σp σ fun σ => machA L n q (.ops (.last ex) κ all dec [(o, true)]) f σ ob | none => _) = _
  cases lastOf m al rest with
  | some p => obtain ⟨σp, ex⟩ := p; simp only [appK_eq]
  | none =>
    simp only
    cases o.guard with
    | none => rfl
    | some jw =>
      obtain ⟨j, want⟩ := jw
      simp only
      rcases nthA_cases all.toList j with ⟨g, hj, hk⟩ | hk
      · rw [hk, hj]
        simp only
        cases g.dst with
        | none => rfl
        | some d =>
          simp only [evAK_eq]
      · rw [hk]
        cases hj : all.toList[j]? with
        | none => rfl
        | some g =>
          exfalso
          have : ∀ (l : List Oper) (i : Nat), l[i]? = some g → nthK l i (fun _ => 1) 0 = 1 := by
            intro l
            induction l with
            | nil => intro i h; simp at h
            | cons b l ih => intro i h; cases i with
              | zero => rfl
              | succ i => simp [nthK]; exact ih i (by simpa using h)
          have h1 := hk (α := Nat) (fun _ => 1) 0
          rw [this _ _ hj] at h1
          cases h1
theorem mach_ob {P : Program} {L : List TD} (hT : TOk P L) {n : Nat} : ∀ (q : Nat) (s : AMS) (f : AEnv) (σ : Store) (ob : Obs), OT (machA L n q s f σ ob).ob → OT ob
  | 0, s, f, σ, ob, h => h
  | q + 1, .nrm κ, f, σ, ob, h => by
    cases κ with
    | nil => exact h
    | cons k κ => cases k <;> first | exact mach_ob hT q _ _ _ _ h | exact h
  | q + 1, .code κ c, f, σ, ob, h => by
    cases c with
    | cond x a b =>
      simp only [machA, evNK_eq] at h
      cases hv : evN n f x with
      | v t hh => rw [hv] at h; cases t <;> exact h
      | _ => rw [hv] at h; exact h
    | region id ops draw => cases draw <;> first | exact h | exact mach_ob hT q _ _ _ _ h
    | exit id =>
      simp only [machA] at h
      rcases post_skip_to (P := P) (Q := fun _ _ _ => True) (id := id) κ with ⟨κ', h1, _⟩ | h1
      · rw [h1] at h; exact mach_ob hT q _ _ _ _ h
      · rw [h1] at h; exact h
    | skip => exact mach_ob hT q _ _ _ _ h
    | seq a b => exact mach_ob hT q _ _ _ _ h
    | block id c => exact mach_ob hT q _ _ _ _ h
    | _ => exact h
  | q + 1, .ops m κ all dec rest, f, σ, ob, h => by
    cases rest with
    | nil =>
      cases m with
      | plain => exact mach_ob hT q _ _ _ _ h
      | rest => exact mach_ob hT q _ _ _ _ h
      | last ex => obtain ⟨eb, at_⟩ := ex; cases at_ <;> first | exact h | exact mach_ob hT q _ _ _ _ h
      | reg pre σp ex =>
        obtain ⟨eb, at_⟩ := ex
        cases at_
        · simp only [machA, appK_eq] at h; exact mach_ob hT q _ _ _ _ h
        · exact h
    | cons x rest =>
      obtain ⟨o, al⟩ := x
      rw [mach_ops] at h
      have hop : OT (opM L n m dec f σ ob o al (fun m f σ ob => machA L n q (.ops m κ all dec rest) f σ ob) ⟨.op m κ all dec o al rest, f, σ, ob⟩).ob → OT ob := fun h => by
        rcases opM_cases (P := P) (L := L) hT (n := n) (m := m) (dec := dec) (o := o) (al := al) (f := f) (σ := σ) (ob := ob) (k := fun m f σ ob => machA L n q (.ops m κ all dec rest) f σ ob) (z := ⟨.op m κ all dec o al rest, f, σ, ob⟩) with e | ⟨m', f', σ', ob', e⟩
        · rw [e] at h; exact h
        · rw [e] at h
          have := mach_ob hT q _ _ _ _ h
          exact fun p hp => this p (List.mem_append_right _ hp)
      have skip : OT (match o.dst with | some e => machA L n q (.ops m κ all (e :: dec) rest) ((e, .v undef 0) :: f) σ ob | none => machA L n q (.ops m κ all dec rest) f σ ob).ob → OT ob := fun h => by
        cases hd : o.dst with
        | none => rw [hd] at h; exact mach_ob hT q _ _ _ _ h
        | some e => rw [hd] at h; exact mach_ob hT q _ _ _ _ h
      split at h
      · exact mach_ob hT q _ _ _ _ h
      · split at h
        · exact hop h
        · split at h
          · exact h
          · split at h
            · exact h
            · split at h
              · split at h <;> first | exact hop h | exact skip h
              · exact h
              · exact skip h
              · exact h
theorem machA_sound {P : Program} {L : List TD} (hT : TOk P L) {c : Ctx} {n : Nat} {Q : Exit → Act → World → Prop} : ∀ (q : Nat) (s : AMS) (f : AEnv) (σ : Store) (ob : Obs), OT (machA L n q s f σ ob).ob → DenOA c P n Q (machA L n q s f σ ob) → DenS0A c P n Q s f σ
  | 0, s, f, σ, ob, hob, h => h
  | q + 1, .nrm κ, f, σ, ob, hob, h => by
    cases κ with
    | nil => exact h
    | cons k κ =>
      cases k with
      | seq c' => exact machA_sound hT q (.code κ c') f σ ob hob h
      | blk id => exact machA_sound hT q (.nrm κ) f σ ob hob h
      | inv R => exact h
  | q + 1, .code κ c', f, σ, ob, hob, h => by
    cases c' with
    | skip =>
      have := machA_sound hT q (.nrm κ) f σ ob hob h
      exact fun _ w S fc Sg a b => wp_skip (this trivial w S fc Sg a b)
    | seq a b =>
      have := machA_sound hT q (.code (.seq b :: κ) a) f σ ob hob h
      exact fun _ w S fc Sg a b => wp_seq (this trivial w S fc Sg a b)
    | block id c' =>
      have := machA_sound hT q (.code (.blk id :: κ) c') f σ ob hob h
      exact fun _ w S fc Sg a b => wp_block (this trivial w S fc Sg a b)
    | cond x a b =>
      simp only [machA, evNK_eq] at hob h
      cases hv : evN n f x with
      | v t hh =>
        cases t with
        | bool t =>
          rw [hv] at h
          refine fun _ w S fc Sg hs hh => ?_
          have hx := hs.env.evalN (n := n) x
          rw [hv] at hx
          exact wp_cond (t := t) (by rw [act_eval, rep_v hx]) (h trivial w S fc Sg hs hh)
        | _ => rw [hv] at h; exact h
      | _ => rw [hv] at h; exact h
    | region id ops draw =>
      cases draw
      · have := machA_sound hT q (.ops .plain κ ops [] (ops.toList.map fun o => (o, true))) f σ ob hob h
        exact fun _ w S fc Sg a b => wp_region_OR (this trivial w S fc Sg a b)
      · exact h
    | exit id =>
      simp only [machA] at hob h
      rcases post_skip_to (P := P) (Q := Q) (id := id) κ with ⟨κ', h1, h2⟩ | h1
      · rw [h1] at hob h
        have := machA_sound hT q (.nrm κ') f σ ob hob h
        exact fun _ w S fc Sg a b => wp_exit (h2 _ _ (this trivial w S fc Sg a b))
      · rw [h1] at h
        exact h
    | ret => exact fun _ w S fc Sg a b => wp_ret (h trivial w S fc Sg a b)
    | loop c' => exact h
    | _ => exact h
  | q + 1, .ops m κ all dec rest, f, σ, ob, hob, h => by
    cases rest with
    | nil =>
      cases m with
      | plain =>
        have := machA_sound hT q (.nrm κ) f σ ob hob h
        exact fun _ w S fc Sg a b => this trivial w S fc Sg a b
      | rest =>
        have := machA_sound hT q (.nrm κ) f σ ob hob h
        exact fun _ w S fc Sg a b => this trivial w S fc Sg a b
      | last ex =>
        obtain ⟨eb, at_⟩ := ex
        cases at_ with
        | none =>
          have := machA_sound hT q (.nrm κ) f σ ob hob h
          exact fun _ w S fc Sg a b => this trivial w S fc Sg a b
        | some t => exact h
      | reg pre σp ex =>
        obtain ⟨eb, at_⟩ := ex
        cases at_ with
        | none =>
          simp only [machA, appK_eq] at hob h
          have := machA_sound hT q (.nrm κ) f (σp ++ σ) ob hob h
          exact fun _ w S fc Sg a b => this trivial w S fc Sg a b.plain
        | some t => exact h
    | cons x rest =>
      obtain ⟨o, al⟩ := x
      rw [mach_ops] at hob h
      intro hok w S fc Sg hs hh
      have hlm : ∀ ex, m = .last ex → ex.b = true ∧ al = true ∧ rest = [] := by
        intro ex e
        subst e
        obtain ⟨h1, h2 | h2⟩ := hok
        · obtain ⟨o', h2⟩ := h2
          simp at h2
          exact ⟨h1, h2.1.2, h2.2⟩
        · cases h2
      have step : ∀ {z : ARes}, OT (opM L n m dec f σ ob o al (fun m f σ ob => machA L n q (.ops m κ all dec rest) f σ ob) ⟨.op m κ all dec o al rest, f, σ, ob⟩).ob → DenOA c P n Q (opM L n m dec f σ ob o al (fun m f σ ob => machA L n q (.ops m κ all dec rest) f σ ob) ⟨.op m κ all dec o al rest, f, σ, ob⟩) → Step P (conM Sg m) (post P Q κ) o al rest.isEmpty (OR P (conM Sg m) all (post P Q κ) rest) (act n fc) w := fun hob h =>
        stepM (P := P) (L := L) hT (dec := dec) hlm hob (fun m' f' σ' ob' h => mach_ob (P := P) hT q _ _ _ _ h) (fun m' f' σ' ob' hob h => machA_sound hT q (.ops m' κ all dec rest) f' σ' ob' hob h) rfl h w S fc Sg hs hh
      show OR P (conM Sg m) all (post P Q κ) ((o, al) :: rest) (act n fc) w
      cases hlast : lastOf m al rest with
      | some p =>
        obtain ⟨σp, ex⟩ := p
        obtain ⟨⟨pre, rfl⟩, rfl, rfl, hb⟩ := lastOf_some hlast
        rw [hlast] at hob h
        exact machA_sound hT q (.ops (.last ex) κ all dec [(o, true)]) f (σp ++ σ) ob hob h ⟨hb, .inl ⟨o, rfl⟩⟩ w S fc Sg hs hh.plain
      | none =>
        rw [hlast] at hob h
        simp only at hob h
        unfold OR
        cases hg : o.guard with
        | none =>
          rw [hg] at hob h
          rw [if_pos (by simp [Region.wanted, hg])]
          exact step (z := ⟨.st (.nrm []), f, σ, ob⟩) hob h
        | some jw =>
          obtain ⟨j, want⟩ := jw
          rw [hg] at hob h
          simp only at hob h
          have back : OR P (conM Sg m) all (post P Q κ) ((o, al) :: rest) (act n fc) w → (if Region.wanted o (yielded all (act n fc).tmps) = true then Step P (conM Sg m) (post P Q κ) o al rest.isEmpty (OR P (conM Sg m) all (post P Q κ) rest) (act n fc) w else OR P (conM Sg m) all (post P Q κ) rest ((act n fc).put o.dst undef) w) := fun h => by
            unfold OR at h; exact h
          have stop : DenOA c P n Q ⟨.st (.ops m κ all dec ((o, al) :: rest)), f, σ, ob⟩ → OR P (conM Sg m) all (post P Q κ) ((o, al) :: rest) (act n fc) w := fun h => h hok w S fc Sg hs hh
          cases hj : all.toList[j]? with
          | none => rw [hj] at h; exact back (stop h)
          | some g =>
            rw [hj] at hob h
            simp only at hob h
            cases hd : g.dst with
            | none => rw [hd] at h; exact back (stop h)
            | some d =>
              rw [hd] at hob h
              simp only at hob h
              have hx := hs.env.eval (n := n) (.tmp d)
              by_cases hn : d < n
              · have hwt := wanted_of (f := fc) hg hj hd hn
                have hev : ev n fc (.tmp d) = get fc d := by
                  unfold ev
                  simp only [evK]
                  have : Nat.blt d n = true := by simpa [Nat.blt_eq] using hn
                  rw [this]; simp only []; rw [getK_eq]; rfl
                rw [hev] at hx
                have skip : OT (match o.dst with | some e => machA L n q (.ops m κ all (e :: dec) rest) ((e, .v undef 0) :: f) σ ob | none => machA L n q (.ops m κ all dec rest) f σ ob).ob → DenOA c P n Q (match o.dst with | some e => machA L n q (.ops m κ all (e :: dec) rest) ((e, .v undef 0) :: f) σ ob | none => machA L n q (.ops m κ all dec rest) f σ ob) → OR P (conM Sg m) all (post P Q κ) rest ((act n fc).put o.dst undef) w := fun hob h => by
                  rw [act_put]
                  have hok' : ∀ dec', (AMS.ops m κ all dec' rest).ok := fun dec' => by
                    cases m with
                    | last ex => obtain ⟨h1, h2, h3⟩ := hlm ex rfl; exact ⟨h1, .inr h3⟩
                    | _ => trivial
                  cases hdst : o.dst with
                  | none => rw [hdst] at hob h; exact machA_sound hT q (.ops m κ all dec rest) _ σ ob hob h (hok' _) w S fc Sg hs hh
                  | some e =>
                    rw [hdst] at hob h
                    exact machA_sound hT q (.ops m κ all (e :: dec) rest) _ σ ob hob h (hok' _) w S ((e, undef) :: fc) Sg ⟨hs.env.put (some e) mk_v, hs.ev, hs.sub⟩ hh
                rw [hwt]
                cases hv : evA n f (.tmp d) with
                | v x hx' =>
                  rw [hv] at hx hob h
                  have hgx := rep_v hx
                  cases x with
                  | bool b =>
                    rw [hgx]
                    cases hm : memK dec d
                    · rw [hm] at h
                      have h' := back (h (by cases m <;> first | trivial | exact hlm _ rfl) w S fc Sg hs hh)
                      rw [hwt, hgx] at h'
                      exact h'
                    · rw [hm] at hob h
                      cases b <;> cases want
                      · rw [if_pos (by rfl)]; exact step (z := ⟨.st (.nrm []), f, σ, ob⟩) hob h
                      · rw [if_neg (by simp)]; exact skip hob h
                      · rw [if_neg (by simp)]; exact skip hob h
                      · rw [if_pos (by rfl)]; exact step (z := ⟨.st (.nrm []), f, σ, ob⟩) hob h
                  | tuple vs =>
                    rw [hgx]
                    rw [if_neg (by simp)]
                    cases hm : memK dec d <;> rw [hm] at hob h <;> exact skip hob h
                  | _ =>
                    have h' : OR P (conM Sg m) all (post P Q κ) ((o, al) :: rest) (act n fc) w := by
                      cases hm : memK dec d <;> rw [hm] at h <;> exact stop h
                    have h' := back h'
                    rw [hwt] at h'
                    exact h'
                | _ =>
                  rw [hv] at h
                  have h' : OR P (conM Sg m) all (post P Q κ) ((o, al) :: rest) (act n fc) w := by
                    cases hm : memK dec d <;> rw [hm] at h <;> exact stop h
                  have h' := back h'
                  rw [hwt] at h'
                  exact h'
              · -- a slot that there isn't
                have hev : evA n f (.tmp d) = .v undef 0 := by
                  unfold evA
                  simp only [evAK]
                  have : Nat.blt d n = false := by
                    cases hb : Nat.blt d n
                    · rfl
                    · exact absurd (by simpa [Nat.blt_eq] using hb) hn
                  rw [this]; rfl
                have hwt : Region.wanted o (yielded all (act n fc).tmps) = false := by
                  rw [Array.getElem?_toList] at hj
                  simp [Region.wanted, hg, yielded, hj, hd, act, hn]
                rw [hwt, if_neg (by simp), act_put]
                rw [hev] at hob h
                have hok' : ∀ dec', (AMS.ops m κ all dec' rest).ok := fun dec' => by
                  cases m with
                  | last ex => obtain ⟨h1, h2, h3⟩ := hlm ex rfl; exact ⟨h1, .inr h3⟩
                  | _ => trivial
                cases hm : memK dec d <;> rw [hm] at hob h <;> simp only [undef] at hob h
                all_goals
                  cases hdst : o.dst with
                  | none => rw [hdst] at hob h; exact machA_sound hT q (.ops m κ all dec rest) _ σ ob hob h (hok' _) w S fc Sg hs hh
                  | some e =>
                    rw [hdst] at hob h
                    exact machA_sound hT q (.ops m κ all (e :: dec) rest) _ σ ob hob h (hok' _) w S ((e, undef) :: fc) Sg ⟨hs.env.put (some e) mk_v, hs.ev, hs.sub⟩ hh

end Go.Proofs.Ytepjnmocepkfjaa.A
