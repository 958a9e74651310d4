import Derived.Test.YtdconcindpfmcaaQDedupReplays6
import Derived.RangeFuncCalls
import Derived.Test.YtdconcindpfmcaaQDedupReplays8
section
/- A range over a function: a round's region, walked by the machine. It holds of any program. -/
set_option linter.unusedVariables false
set_option linter.unusedSimpArgs false
namespace Go.Proofs.Ytdconcindpfmcaa.A
open V
theorem rows_in {P : Program} {row : String} {args : Array Value} {w : World} {R : Value → World → Prop} {l m : Nat} (h : Rows P row args w R) : RowsIn (Fence.wide.inRound l) m P row args w R :=
  fun c cs _ => let ⟨v, w', r, s⟩ := h c cs; ⟨v, w', r, stepsIn_wide.2 s⟩
theorem upon_in {P : Program} {o : Oper} {a : Act} {next next' : Act → World → Prop} {Q : Exit → Act → World → Prop} {l m : Nat} (hn : ∀ a w, next a w → next' a w) {r : Result Next} (h : o.upon P a next Q r) : o.uponIn (Fence.wide.inRound l) m P a next' Q r := by
  cases r with
  | ok x w =>
    cases x with
    | value v => exact hn _ _ h
    | skip => exact hn _ _ h
    | defer d => exact hn _ _ h
    | enter f args =>
      refine ⟨fun h => (by cases h), (CallsIn.inRound l (callsIn_wide.2 (Calls.mono h ?_)))⟩
      intro e w1 h1
      cases e with
      | returned v => exact hn _ _ h1
      | panicked c => exact h1
      | outgrown => exact h1
    | row r args => exact ⟨fun h => (by cases h), RowsIn.mono (rows_in h) fun v w1 h1 => hn _ _ h1⟩
    | _ => exact h.elim
  | halt s w =>
    cases s <;> first | exact h | exact h.elim
theorem list_in {P : Program} {ops : Array Oper} {Q : Exit → Act → World → Prop} {l m : Nat} (hQ : ¬ LetsOut Q) : ∀ {os : List Oper} {a : Act} {w : World}, (∀ o ∈ os, ∀ c, o.op ≠ .defer c) → wpList P ops Q os a w → wpListIn (Fence.wide.inRound l) m P ops Q os a w
  | [], a, w, _, h => h
  | o :: os, a, w, ho, h => by
    unfold wpList at h
    unfold wpListIn
    split
    · rename_i hw
      rw [if_pos hw] at h
      rcases h with h | ⟨_, h⟩
      · refine ⟨fun _ _ => trivial, ?_⟩
        rw [Oper.semAt_eq _ _ _ (ho o (by simp))]
        exact upon_in (fun a w h => list_in hQ (fun o' h' => ho o' (by simp [h'])) h) h
      · exact absurd h hQ
    · rename_i hw
      rw [if_neg hw] at h
      exact ⟨fun _ _ => trivial, list_in hQ (fun o' h' => ho o' (by simp [h'])) h⟩
def noQ : Exit → Act → World → Prop := fun _ _ _ => False
theorem noQ_out {R : Act → World → Prop} : ¬ LetsOut (Exit.then R noQ) := fun ⟨a, w, h⟩ => h
/-- A region of a round, by the machine. -/
theorem round_in {P : Program} {n : Nat} {c : Ctx} {f : AEnv} {σ : Store} {R : Act → World → Prop} {ops : Array Oper} {rid l m : Nat} (hd : ∀ o ∈ ops.toList, ∀ c, o.op ≠ .defer c) (h : DenA c P n noQ (.ops .plain [.inv R] ops [] (ops.toList.map fun o => (o, true))) f σ)
    {w : World} {S : Nat → Prop} {fc : Env} (hs : Sat c w S f fc) (hh : Holds (or2 S c.X) w σ S) : (Code.region rid ops false).wpIn (Fence.wide.inRound l) m P (Exit.then R noQ) (act n fc) w := by
  have h1 : OR P none ops (Exit.then R noQ) (ops.toList.map fun o => (o, true)) (act n fc) w := h.out trivial w S fc (fun _ => True) hs hh
  have h2 := OR_plain _ _ _ h1
  rw [List.map_map, show ((fun x : Oper × Bool => x.1) ∘ fun o : Oper => (o, true)) = id from rfl] at h2
  exact wpIn_region_list (list_in noQ_out hd (by simpa using h2))
end Go.Proofs.Ytdconcindpfmcaa.A
end

section
/- A range over a function: a round, by the machine. It holds of any program. -/
set_option linter.unusedVariables false
set_option linter.unusedSimpArgs false
namespace Go.Proofs.Ytdconcindpfmcaa.A
open V
/-- A block that is such an object. -/
def objA (r : Nat) (o : Obj) : Asrt where
  h := fun M S w => (∀ b, S b ↔ b = r) ∧ w.heap[r]? = some o
  ev := fun ⟨h1, h2⟩ he hN hm => ⟨h1, by rw [he.block _ (Array.getElem?_eq_some_iff.1 h2).1 (hN _ ((h1 _).2 rfl))]; exact h2⟩
  lt := fun ⟨h1, h2⟩ b hb => by rw [(h1 b).1 hb]; exact (Array.getElem?_eq_some_iff.1 h2).1
theorem obj_at {M S : Nat → Prop} {w : World} {σ : Store} {k r : Nat} {o : Obj} (hh : Holds M w σ S) (hl : look σ k = some (.ext (objA r o))) : w.heap[r]? = some o ∧ S r := by
  obtain ⟨S1, S2, hS, hd, hc, hr⟩ := hh.take hl
  have hc : (∀ b, S1 b ↔ b = r) ∧ w.heap[r]? = some o := hc
  exact ⟨hc.2, (hS r).2 (.inl ((hc.1 r).2 rfl))⟩
theorem obj_turn {c : Ctx} {w : World} {S : Nat → Prop} {f : AEnv} {fc : Env} {σ : Store} {k r : Nat} {o : Obj} (o' : Obj) (hs : Sat c w S f fc) (hh : Holds (or2 S c.X) w σ S) (hl : look σ k = some (.ext (objA r o))) :
    Sat c (w.putObj r o') S f fc ∧ Holds (or2 S c.X) (w.putObj r o') (upd σ k (.ext (objA r o'))) S := by
  obtain ⟨S1, S2, hS, hd, hc, hr⟩ := hh.take hl
  have hc : (∀ b, S1 b ↔ b = r) ∧ w.heap[r]? = some o := hc
  have hlt := (Array.getElem?_eq_some_iff.1 hc.2).1
  have hev : Ev (at1 r) w (w.putObj r o') := Ev.setB w r o'
  have hm : ∀ b, b < w.heap.size → at1 r b ∨ or2 S c.X b → or2 S c.X b := fun b _ h => h.elim (fun h => .inl ((hS b).2 (.inl ((hc.1 b).2 h)))) id
  refine ⟨⟨hs.env.pass hev hm, hs.ev.then hev fun b hb h => ?_, hs.sub⟩, ?_⟩
  · rcases hs.sub b ((hS b).2 (.inl ((hc.1 b).2 h))) with h | h
    · exact h
    · omega
  · exact (Holds.upd (S1 := S1) (T := S1) (c' := .ext (objA r o')) hev hm hh hl hr (fun b hb hg => hd b ((hc.1 b).2 hg) hb) hd (show (objA r o').h (or2 S c.X) S1 (w.putObj r o') from ⟨hc.1, setB_at hlt _⟩)).iff hS
section
variable {P : Program} {L : List TD} {n : Nat}
/-- A round: its left side is given what came, then its body. -/
theorem round_spec {l kl p i1 i2 bid : Nat} {ops1 ops2 : Array Oper} {r : Loop} {fcR : Env} {fR : AEnv} {u : Value} {A A' : Asrt} {V1 X1 X2 : Type} {σ0 : V1 → Store} {sl1 sl2 : List Nat} {vs1 : X1 → List AV} {vs2 : X2 → List AV} {sg1 : X1 → Store} {sg2 : X2 → Store} {φ1 : X1 → Prop} {φ2 : X2 → Prop}
    (hr1 : r.state = .ready) (hr2 : r.pending = none) (hr3 : r.tmps = (act n fcR).tmps) (hr4 : r.params = #[p]) (hr5 : r.assign = .region i1 ops1 false) (hr6 : r.body = .block bid (.region i2 ops2 false)) (hfR : ∀ M w, EnvRep M w fR fcR)
    (hd1 : ∀ o ∈ ops1.toList, ∀ c, o.op ≠ .defer c) (hd2 : ∀ o ∈ ops2.toList, ∀ c, o.op ≠ .defer c)
    (hA : ∀ M S w, A.h M S w → ∃ v, Holds M w (σ0 v) S)
    (D1 : ∀ c v, DenA c P n noQ (.ops .plain [.inv (InvA c n sl1 vs1 sg1 φ1)] ops1 [] (ops1.toList.map fun o => (o, true))) ((p, .v u 0) :: fR) (σ0 v))
    (hl1 : ∀ y, look (sg1 y) kl = some (.ext (objA l (.loop r))))
    (D2 : ∀ c y, φ1 y → DenA c P n noQ (.ops .plain [.inv (InvA c n sl2 vs2 sg2 φ2)] ops2 [] (ops2.toList.map fun o => (o, true))) (overA sl1 (vs1 y)) (upd (sg1 y) kl (.ext (objA l (.loop { r with state := .busy })))))
    (hl2 : ∀ z, look (sg2 z) kl = some (.ext (objA l (.loop { r with state := .busy }))))
    (hl0 : ∀ v, look (σ0 v) kl = some (.ext (objA l (.loop r))))
    (hA' : ∀ M S w z, φ2 z → Holds M w (upd (sg2 z) kl (.ext (objA l (.loop r)))) S → A'.h M S w) : YSpec P l [.v u 0] A A' := by
  intro m Y S w vs hd hY hrs hAw
  obtain ⟨x, t, rfl, hx, ht⟩ := by unfold Reps at hrs; exact hrs
  have ht : t = [] := by unfold Reps at ht; exact ht
  subst ht
  have hx : x = u := by unfold Rep at hx; exact hx
  subst hx
  obtain ⟨v, hh0⟩ := hA _ _ _ hAw
  obtain ⟨hheap, _⟩ := obj_at hh0 (hl0 v)
  have hy := run_yield (P := P) (args := #[x]) hheap (by rw [hr4]; rfl)
  refine ⟨_, _, _, _, hy, roundIn_of_wpIn trivial ?_⟩
  have hact : ({ tmps := (r.params.zip #[x]).foldl (fun tmps (t, a) => tmps.setIfInBounds t a) r.tmps, defers := [] } : Act) = act n (put fcR (some p) x) := by
    rw [← act_put, hr3, hr4]
    simp [Act.put, act]
  rw [hact, hr5, hr6]
  let c : Ctx := ⟨Y, S, w, hd, hY⟩
  have hs0 : Sat c w S ((p, .v x 0) :: fR) (put fcR (some p) x) := ⟨EnvRep.put (hfR _ _) (some p) mk_v, Ev.refl _ _, fun b hb => .inl hb⟩
  refine wpIn_mono (round_in hd1 (D1 c v) hs0 hh0) ?_
  intro e a1 w1 h1
  cases e with
  | normal =>
    obtain ⟨y, fc1, S1, rfl, hy1, hs1, hh1⟩ := h1
    obtain ⟨hp1, _⟩ := obj_at hh1 (hl1 y)
    refine ⟨_, run_beginRound hp1 hr1, ?_⟩
    obtain ⟨hs2, hh2⟩ := obj_turn (.loop { r with state := .busy }) hs1 hh1 (hl1 y)
    refine wpIn_block (wpIn_mono (round_in hd2 (D2 c y hy1) hs2 hh2) ?_)
    intro e a3 w3 h3
    cases e with
    | normal =>
      obtain ⟨z, fc3, S3, rfl, hz, hs3, hh3⟩ := h3
      obtain ⟨hp3, hS3⟩ := obj_at hh3 (hl2 z)
      refine ⟨_, _, run_endRound none hp3, rfl, ?_⟩
      have hrec : ({ { r with state := .busy } with state := if (none : Option Code).isNone then .ready else .done, pending := none } : Loop) = r := by
        obtain ⟨_, _, _, _, _, _, _, _⟩ := r
        simp only at hr1 hr2
        subst hr1 hr2
        rfl
      obtain ⟨hs4, hh4⟩ := obj_turn (.loop r) hs3 hh3 (hl2 z)
      rw [hrec]
      exact ⟨S3, hA' _ _ _ z hz hh4, hs4.ev, hs4.sub⟩
    | _ => exact h3.elim
  | _ => exact h1.elim
end
end Go.Proofs.Ytdconcindpfmcaa.A
end
