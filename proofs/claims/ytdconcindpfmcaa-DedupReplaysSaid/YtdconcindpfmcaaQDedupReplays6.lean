import Derived.Test.YtdconcindpfmcaaQDedupReplays5
import Derived.RangeFuncIn
import Derived.RangeFuncRecord
import Derived.RangeFuncSeq
import Derived.TacticsIn
section
/- A range over a function: what a round does; the region in which an iterator calls yield. It holds of any program. -/
set_option linter.unusedVariables false
set_option linter.unusedSimpArgs false
namespace Go.Proofs.Ytdconcindpfmcaa.A
open V
/-- A round of the loop l, called with args where A stands: it hands back true and leaves A'. -/
def YSpec (P : Program) (l : Nat) (args : List AV) (A A' : Asrt) : Prop :=
  ∀ (m : Nat) (Y S : Nat → Prop) (w : World) (vs : List Value), (∀ b, S b → ¬ Y b) → (∀ b, Y b → b < w.heap.size) → Reps (or2 S Y) w args vs → A.h (or2 S Y) S w →
    YieldAt Fence.wide m P l vs.toArray w fun e w1 => e = .returned (.bool true) ∧ ∃ S1, A'.h (or2 S1 Y) S1 w1 ∧ Ev S w w1 ∧ ∀ b, S1 b → S b ∨ w.heap.size ≤ b
section
variable {P : Program} {L : List TD} {n : Nat} {Q : Exit → Act → World → Prop} {c : Ctx}
variable {s : AMS} {f f' : AEnv} {σ σ' : Store} {ob : Obs} {κ : List Kt}
theorem pure_run (hT : TOk P L) {o : Oper} {f : AEnv} {a : AV} (h : pureA L n [] f o.op some none = some a) {M : Nat → Prop} {w : World} {fc : Env} (he : EnvRep M w f fc) : ∃ v, (∀ w', (execOp (ev n fc) o).run P w' = .ok (.value v) w') ∧ Rep M w a v := by
  rcases pureA_says (P := P) (L := L) hT n [] f o with hp | ⟨a', hp, hs⟩
  · have hp : ∀ {α : Type} (k : AV → α) (z : α), pureA L n [] f o.op k z = z := hp
    rw [hp] at h
    cases h
  · have hp : ∀ {α : Type} (k : AV → α) (z : α), pureA L n [] f o.op k z = k a' := hp
    rw [hp] at h
    cases h
    exact hs M w fc he
theorem step_pure {ops : Array Oper} {rest : List Oper} {o : Oper} {K : Exit → Act → World → Prop} {fc : Env} {w : World} {v : Value} {m : Nat} (hg : o.guard = none) (hr : (execOp (ev n fc) o).run P w = .ok (.value v) w)
    (hk : wpListIn Fence.wide m P ops K rest (act n (put fc o.dst v)) w) : wpListIn Fence.wide m P ops K (o :: rest) (act n fc) w := by
  have haa : (act n fc).eval = ev n fc := funext (act_eval n fc)
  unfold wpListIn
  rw [if_pos (by unfold Region.wanted; rw [hg])]
  refine ⟨fun _ _ => trivial, ?_⟩
  rw [show (Fence.wide).round = none from rfl, Oper.semAt_none, haa, hr]
  show wpListIn Fence.wide m P ops K rest ((act n fc).put o.dst v) w
  rw [act_put]
  exact hk
theorem yield_run {o : Oper} {fc : Env} {w w' : World} {yv ya : Operand} {ts : Array TypeId} {l : Nat} {x : Next} (ho : o.op = .call ⟨.value yv, #[ya], ts⟩) (hv : ev n fc yv = .func (.yield l) #[] #[]) (hy : (Instr.yield l #[ev n fc ya]).run P w = .ok x w') : (execOp (ev n fc) o).run P w = .ok x w' := by
  simp [execOp, ho, resolve, invoke, hv, Deferred.ofValue, hy]
theorem y_after {Y Su : Nat → Prop} {w : World} {l kA m : Nat} {A A' : Asrt} {σr : Store} {args : List AV} {xs : List Value} (hy : YSpec P l args A A') (hY : ∀ b, Y b → b < w.heap.size) (hd : ∀ b, Su b → ¬ Y b)
    (hh : Holds (or2 Su Y) w σ' Su) (ht : takes σ' [kA] = some ([.ext A], σr)) (hr : Reps (or2 Su Y) w args xs) :
    YieldAt Fence.wide m P l xs.toArray w fun e w1 => e = .returned (.bool true) ∧ After Y Su w (fun a σ1 => a = .v (.bool true) 0 ∧ σ1 = (kA, .ext A') :: σr) (.bool true) w1 := by
  obtain ⟨S1, S2, h1, h2, hS, hdis⟩ := hh.takes ht
  obtain ⟨T1, T2, hT, hTd, hc, h0⟩ := h1
  have h0 : ∀ b, ¬ T2 b := h0
  have hc : A.h (or2 Su Y) T1 w := hc
  have hTS : ∀ b, S1 b ↔ T1 b := fun b => (hT b).trans ⟨fun h => h.elim id fun h => (h0 b h).elim, .inl⟩
  have hM : ∀ b, or2 T1 (or2 S2 Y) b → or2 Su Y b := fun b h => h.elim (fun h => .inl ((hS b).2 (.inl ((hTS b).2 h)))) fun h => h.elim (fun h => .inl ((hS b).2 (.inr h))) .inr
  have hA : A.h (or2 T1 (or2 S2 Y)) T1 w := A.ev hc (Ev.refl no w) (fun b _ h => h) fun b _ h => h.elim (fun h => h.elim) (hM b)
  obtain ⟨fn, tmps, assign, body, hrun, hR⟩ := hy m (or2 S2 Y) T1 w xs (fun b hb h => h.elim (hdis b ((hTS b).2 hb)) (hd b ((hS b).2 (.inl ((hTS b).2 hb))))) (fun b h => h.elim (h2.lt b) (hY b)) (hr.of fun b _ h => hM b h) hA
  refine ⟨fn, tmps, assign, body, hrun, hR.mono ?_⟩
  rintro e w1 ⟨rfl, S', hA', hev, hsub⟩
  refine ⟨rfl, .v (.bool true) 0, _, or2 S' S2, ⟨rfl, rfl⟩, mk_v, ?_, hev.mono fun b _ h => (hS b).2 (.inl ((hTS b).2 h)), fun b hb => ?_⟩
  · have hM2 : ∀ b, or2 (or2 S' S2) Y b → or2 S' (or2 S2 Y) b := fun b h => h.elim (fun h => h.elim .inl fun h => .inr (.inl h)) fun h => .inr (.inr h)
    have hm : ∀ b, b < w.heap.size → T1 b ∨ or2 (or2 S' S2) Y b → or2 Su Y b := fun b hb h => by
      rcases h with h | (h | h) | h
      · exact hM b (.inl h)
      · rcases hsub b h with h | h
        · exact hM b (.inl h)
        · omega
      · exact .inl ((hS b).2 (.inr h))
      · exact .inr h
    exact ⟨S', S2, fun b => Iff.rfl, fun b hb h => by
      rcases hsub b hb with h' | h'
      · exact hdis b ((hTS b).2 h') h
      · have := h2.lt b h; omega, A'.ev hA' (Ev.refl no w1) (fun b _ h => h) (fun b _ h => h.elim (fun h => h.elim) (hM2 b)), h2.ev hev hm fun b hb h => hdis b ((hTS b).2 h) hb⟩
  · rcases hb with h | h
    · exact (hsub b h).imp (fun h => (hS b).2 (.inl ((hTS b).2 h))) id
    · exact .inl ((hS b).2 (.inr h))
/-- The region in which an iterator calls yield: two steps ahead, one behind. -/
theorem a_yieldR (hT : TOk P L) {id : Nat} {o1 o2 o3 o4 : Oper} {a1 a2 a4 : AV} {yv ya : Operand} {ts : Array TypeId} {l hh kA : Nat} {A A' : Asrt} {σr : Store} (q : Nat)
    (h : machA L n q s f σ [] = ⟨.st (.code κ (.region id #[o1, o2, o3, o4] false)), f', σ', ob⟩) (hob : ob.map (·.1) = ob.map (·.2)) (g1 : o1.guard = none) (g2 : o2.guard = none) (g3 : o3.guard = none) (g4 : o4.guard = none)
    (h1 : pureA L n [] f' o1.op some none = some a1) (h2 : pureA L n [] (putA f' o1.dst a1) o2.op some none = some a2) (ho : o3.op = .call ⟨.value yv, #[ya], ts⟩) (hv : evA n (putA (putA f' o1.dst a1) o2.dst a2) yv = .v (.func (.yield l) #[] #[]) hh)
    (h4 : pureA L n [] (putA (putA (putA f' o1.dst a1) o2.dst a2) o3.dst (.v (.bool true) 0)) o4.op some none = some a4)
    (ht : takes σ' [kA] = some ([.ext A], σr)) (hy : YSpec P l [evA n (putA (putA f' o1.dst a1) o2.dst a2) ya] A A')
    (hk : DenA c P n Q (.nrm κ) (putA (putA (putA (putA f' o1.dst a1) o2.dst a2) o3.dst (.v (.bool true) 0)) o4.dst a4) ((kA, .ext A') :: σr)) : DenA c P n Q s f σ := by
  refine a_run hT q h hob ⟨fun hok w S fc Sg hs hh2 => ?_⟩
  have hh2 : Holds (or2 S c.X) w σ' S := hh2
  show (Code.region id #[o1, o2, o3, o4] false).wp P (post P Q κ) (act n fc) w
  refine wpIn_wide (n := 5) |>.1 (wpIn_region_list ?_)
  show wpListIn Fence.wide 5 P _ _ [o1, o2, o3, o4] (act n fc) w
  obtain ⟨v1, r1, k1⟩ := pure_run hT h1 hs.env
  refine step_pure g1 (r1 w) ?_
  have he1 := hs.env.put o1.dst k1
  obtain ⟨v2, r2, k2⟩ := pure_run hT h2 he1
  refine step_pure g2 (r2 w) ?_
  have he2 := he1.put o2.dst k2
  have hdX : ∀ b, S b → ¬ c.X b := fun b hb hx => (hs.sub b hb).elim (fun h => c.dis b h hx) fun h => Nat.lt_irrefl _ (Nat.lt_of_le_of_lt h (c.old b hx))
  have hXl : ∀ b, c.X b → b < w.heap.size := fun b hb => Nat.lt_of_lt_of_le (c.old b hb) hs.ev.size
  obtain ⟨fn, tmps, assign, body, hrun, hR⟩ := y_after (m := 4) hy hXl hdX hh2 ht (Reps.cons (he2.eval ya) Reps.nil)
  have hvv := he2.eval (n := n) yv
  rw [hv] at hvv
  unfold Rep at hvv
  have haa : (act n (put (put fc o1.dst v1) o2.dst v2)).eval = ev n (put (put fc o1.dst v1) o2.dst v2) := funext (act_eval n _)
  unfold wpListIn
  rw [if_pos (by unfold Region.wanted; rw [g3])]
  refine ⟨fun _ _ => trivial, ?_⟩
  rw [show (Fence.wide).round = none from rfl, Oper.semAt_none, haa, yield_run ho hvv hrun]
  refine ⟨fun h => (by cases h), hR.mono ?_⟩
  rintro e w1 ⟨rfl, a, σ1, Su', ⟨rfl, rfl⟩, hrep, hh1, hev, hsub⟩
  show wpListIn Fence.wide 5 P _ _ [o4] ((act n (put (put fc o1.dst v1) o2.dst v2)).put o3.dst (.bool true)) w1
  rw [act_put]
  have hm : ∀ b, b < w.heap.size → S b ∨ or2 Su' c.X b → or2 S c.X b := fun b hb h => by
    rcases h with h | h | h
    · exact .inl h
    · rcases hsub b h with h | h
      · exact .inl h
      · omega
    · exact .inr h
  have he3 := EnvRep.put (he2.pass hev hm) o3.dst hrep
  obtain ⟨v4, r4, k4⟩ := pure_run hT h4 he3
  refine step_pure g4 (r4 w1) ?_
  show post P Q κ .normal (act n (put (put (put (put fc o1.dst v1) o2.dst v2) o3.dst (.bool true)) o4.dst v4)) w1
  refine hk.out trivial w1 Su' _ (fun _ => True) ⟨he3.put o4.dst k4, hs.ev.then hev fun b hb h => ?_, fun b hb => ?_⟩ hh1
  · rcases hs.sub b h with h | h
    · exact h
    · omega
  · rcases hsub b hb with h | h
    · exact hs.sub b h
    · exact .inr (Nat.le_trans hs.ev.size h)
end
end Go.Proofs.Ytdconcindpfmcaa.A
end
