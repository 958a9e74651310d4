import Derived.Test.YtdconcindpfmcaaQDedupReplays9
import Derived.RangeFuncLeaves
import Derived.Test.YtdconcindpfmcaaQDedupReplays8
import Derived.Test.YtdconcindpfmcaaQDedupReplays7
import Derived.Test.YtdconcindpfmcaaQDedupReplays5
import Derived.Test.YtdconcindpfmcaaQDedupReplays4
section
/- A range over a function: the statement. It holds of any program. -/
set_option linter.unusedVariables false
set_option linter.unusedSimpArgs false
namespace Go.Proofs.Ytdconcindpfmcaa.A
open V
theorem obj_new {c : Ctx} {w : World} {S : Nat → Prop} {f : AEnv} {fc : Env} {σ : Store} (k : Nat) (o : Obj) (hs : Sat c w S f fc) (hh : Holds (or2 S c.X) w σ S) :
    ∃ S', Sat c (w.alloc o) S' f fc ∧ Holds (or2 S' c.X) (w.alloc o) ((k, .ext (objA w.heap.size o)) :: σ) S' := by
  have hev := Ev.alloc w o
  have hdX : ∀ b, c.X b → b < w.heap.size := fun b hb => Nat.lt_of_lt_of_le (c.old b hb) hs.ev.size
  have hm : ∀ b, b < w.heap.size → no b ∨ or2 (or2 (at1 w.heap.size) S) c.X b → or2 S c.X b := fun b hb h => by
    rcases h with h | (h | h) | h
    · exact h.elim
    · have h : b = w.heap.size := h; omega
    · exact .inl h
    · exact .inr h
  refine ⟨or2 (at1 w.heap.size) S, ⟨hs.env.pass hev hm, hs.ev.to hev, fun b hb => ?_⟩, at1 w.heap.size, S, fun b => Iff.rfl, fun b hb h => ?_, ?_, hh.ev hev hm fun b _ h => h⟩
  · rcases hb with h | h
    · have h : b = w.heap.size := h
      exact .inr (by rw [h]; exact hs.ev.size)
    · exact hs.sub b h
  · have hb : b = w.heap.size := hb
    have := hh.lt b h
    omega
  · exact ⟨fun b => Iff.rfl, World.alloc_heap_new w o⟩
theorem ent_holds {M S : Nat → Prop} {w : World} {σ σr : Store} {ks : List Nat} {cs cs' : List Chunk} (ks' : List Nat) (hh : Holds M w σ S) (ht : takes σ ks = some (cs, σr)) (he : Ent cs cs') : Holds M w (zipk ks' cs' ++ σr) S := by
  obtain ⟨S1, S2, h1, h2, hS, hdis⟩ := hh.takes ht
  exact ((he _ _ _ h1).zip ks').append h2 hdis hS
def mark (D : Nat) : Deferred := { target := .collected D, args := #[] }
def loopR (n : Nat) (fc : Env) (fn : FuncId) (ps : Array Tmp) (asg body : Code) (D : Nat) : Loop := { state := .ready, pending := none, fn, tmps := (act n fc).tmps, params := ps, assign := asg, body, defers := D }
/-- What stands between two rounds. -/
def jA {V E : Type} (Kc : V → List E → List Chunk) (l D : Nat) (r : Loop) (pre : List E) : Asrt := exA (fun _ : V => True) fun v => Kc v pre ++ [.ext (objA l (.loop r)), .ext (objA D (.deferred (some [])))]
section
variable {P : Program} {L : List TD} {n : Nat}
theorem range_in {V E : Type} {gx : Operand} {ps : Array Tmp} {asg body : Code} {Q : Exit → Act → World → Prop} {fc : Env} {w : World} {c : Ctx} {S : Nat → Prop} {f : AEnv} {σ σr : Store} {m gf N kB : Nat} {caps : List AV} {B : Asrt} {T : List E → Prop} {enc : E → Value} {Kc : V → List E → List Chunk} {v0 : V} {ks : List Nat}
    (hs : Sat c w S f fc) (hh : Holds (or2 S c.X) w σ S) (hg : evA n f gx = .fn gf caps) (hb : callOk P gf = true) (ht : takes σ ks = some (Kc v0 [], σr)) (ht2 : takes σr [kB] = some ([.ext B], []))
    (hJ : ∀ fn l D pre x, pre.length < N → YSpec P l [.v (enc x) 0] (jA Kc l D (loopR n fc fn ps asg body D) pre) (jA Kc l D (loopR n fc fn ps asg body D) (pre ++ [x])))
    (hit : ∀ l (J : List E → Asrt), (∀ pre x, pre.length < N → YSpec P l [.v (enc x) 0] (J pre) (J (pre ++ [x]))) → FSpec P gf (.v (.func (.yield l) #[] #[]) 0 :: caps) [.ext B, .ext (J [])] fun _ cs' => ∃ ys, T ys ∧ cs' = [.ext B, .ext (J ys)])
    (hk : ∀ D w' S' ys v, T ys → Sat c w' S' f fc → Holds (or2 S' c.X) w' ((kB, .ext B) :: (0, .ext (objA D (.deferred (some [])))) :: (Kc v ys).map fun c => (0, c)) S' → Q .normal { act n fc with defers := [mark D] } w') :
    (Code.rangeFunc gx ps asg body).wpIn Fence.wide m P Q (act n fc) w := by
  refine wpIn_rangeFunc ?_
  intro fn _
  obtain ⟨S1, hs1, hh1⟩ := obj_new 1 (.deferred (some [])) hs hh
  obtain ⟨S2, hs2, hh2⟩ := obj_new 2 (.loop (loopR n fc fn ps asg body w.heap.size)) hs1 hh1
  have hz : (w.alloc (.deferred (some []))).heap.size = w.heap.size + 1 := by simp
  rw [hz] at hh2
  have hv := hs2.env.eval (n := n) gx
  rw [hg] at hv
  unfold Rep at hv
  obtain ⟨ys, hv, hrc⟩ := hv
  have haa : (act n fc).eval = ev n fc := funext (act_eval n fc)
  obtain ⟨W2, hW2⟩ : ∃ W2, (w.alloc (.deferred (some []))).alloc (.loop (loopR n fc fn ps asg body w.heap.size)) = W2 := ⟨_, rfl⟩
  rw [hW2] at hs2 hh2 hrc
  refine ⟨w.heap.size + 1, [mark w.heap.size], W2, { target := .fn (.func gf) ys.toArray, args := #[.func (.yield (w.heap.size + 1)) #[] #[]] }, W2, gf, #[.func (.yield (w.heap.size + 1)) #[] #[]] ++ ys.toArray, W2, by rw [← hW2]; exact run_enterLoop_outer _ _ _ _ _, ?_, fun _ _ => trivial, ?_, fun h => (by cases h), ?_⟩
  · rw [haa]
    simp [resolve, hv, Deferred.ofValue, show ∀ v, ev n fc (.const v) = v from fun _ => rfl]
  · simp [invoke, run_callFunc hb]
  · -- the iterator
    have hdX : ∀ b, S2 b → ¬ c.X b := fun b hb hx => (hs2.sub b hb).elim (fun h => c.dis b h hx) fun h => Nat.lt_irrefl _ (Nat.lt_of_le_of_lt h (c.old b hx))
    have hXl : ∀ b, c.X b → b < W2.heap.size := fun b hb => Nat.lt_of_lt_of_le (c.old b hb) hs2.ev.size
    obtain ⟨U1, U2, eU, dU, c1, V1, V2, eV, dV, c2, hσ⟩ := hh2
    obtain ⟨A1, A2, a1, a2, eA, dA⟩ := hσ.takes ht
    obtain ⟨B1, B2, b1, b2, eB, dB⟩ := a2.takes ht2
    have hLD : HoldsL (or2 S2 c.X) W2 [.ext (objA (w.heap.size + 1) (.loop (loopR n fc fn ps asg body w.heap.size))), .ext (objA w.heap.size (.deferred (some [])))] (fun b => U1 b ∨ V1 b) :=
      ⟨U1, V1, fun b => Iff.rfl, fun b hb h => dU b hb ((eV b).2 (.inl h)), c1, V1, no, fun b => ⟨.inl, fun h => h.elim id fun h => h.elim⟩, fun b _ h => h, c2, fun b h => h⟩
    have hK : HoldsL (or2 S2 c.X) W2 (Kc v0 [] ++ [.ext (objA (w.heap.size + 1) (.loop (loopR n fc fn ps asg body w.heap.size))), .ext (objA w.heap.size (.deferred (some [])))]) (fun b => A1 b ∨ (U1 b ∨ V1 b)) := by
      unfold HoldsL
      rw [List.map_append]
      refine Holds.append a1 hLD (fun b hb h => ?_) fun b => Iff.rfl
      rcases h with h | h
      · exact dU b h ((eV b).2 (.inr ((eA b).2 (.inl hb))))
      · exact dV b h ((eA b).2 (.inl hb))
    have hKB : Holds (or2 S2 c.X) W2 [(3, .ext B), (4, .ext (jA Kc (w.heap.size + 1) w.heap.size (loopR n fc fn ps asg body w.heap.size) []))] S2 := by
      have h1 := (ent_pack (φ := fun _ : V => True) (f := fun v => Kc v [] ++ [.ext (objA (w.heap.size + 1) (.loop (loopR n fc fn ps asg body w.heap.size))), .ext (objA w.heap.size (.deferred (some [])))]) v0 trivial) _ _ _ hK
      have h2 := Holds.append (U := S2) (b1.zip [3]) (h1.zip [4]) (fun b hb h => ?_) fun b => ?_
      · exact h2
      · have hb' : A2 b := (eB b).2 (.inl hb)
        rcases h with h | h | h
        · exact dA b h hb'
        · exact dU b h ((eV b).2 (.inr ((eA b).2 (.inr hb'))))
        · exact dV b h ((eA b).2 (.inr hb'))
      · have hB2 : ∀ b, ¬ B2 b := b2
        rw [eU b, eV b, eA b, eB b]
        have := hB2 b
        constructor
        · rintro (h | h | h | h | h)
          · exact .inr (.inr (.inl h))
          · exact .inr (.inr (.inr h))
          · exact .inr (.inl h)
          · exact .inl h
          · exact absurd h this
        · rintro (h | h | h | h)
          · exact .inr (.inr (.inr (.inl h)))
          · exact .inr (.inr (.inl h))
          · exact .inl h
          · exact .inr (.inl h)
    have hcall := call_does (ks := [3, 4]) (ks' := [3, 4]) (hit (w.heap.size + 1) (jA Kc (w.heap.size + 1) w.heap.size (loopR n fc fn ps asg body w.heap.size)) (fun pre x hl => hJ fn _ _ pre x hl)) hXl hdX hKB rfl (show Reps _ _ (.v (.func (.yield (w.heap.size + 1)) #[] #[]) 0 :: caps) (.func (.yield (w.heap.size + 1)) #[] #[] :: ys) from Reps.cons mk_v hrc)
    rw [show (#[.func (.yield (w.heap.size + 1)) #[] #[]] ++ ys.toArray : Array Value) = ((.func (.yield (w.heap.size + 1)) #[] #[] : Value) :: ys).toArray by simp]
    refine (callsIn_wide.2 hcall).mono ?_
    rintro e w3 ⟨v, rfl, a, σ1, S3, ⟨cs', ⟨zs, hT1, rfl⟩, rfl⟩, hrep, hh3, hev, hsub⟩
    have hm : ∀ b, b < W2.heap.size → S2 b ∨ or2 S3 c.X b → or2 S2 c.X b := fun b hb h => by
      rcases h with h | h | h
      · exact .inl h
      · rcases hsub b h with h | h
        · exact .inl h
        · omega
      · exact .inr h
    have hs3 : Sat c w3 S3 f fc := ⟨hs2.env.pass hev hm, hs2.ev.then hev fun b hb h => (hs2.sub b h).elim id fun h => by omega, fun b hb => (hsub b hb).elim (fun h => hs2.sub b h) fun h => .inr (Nat.le_trans hs2.ev.size h)⟩
    obtain ⟨P1, P2, eP, dP, cB, J1, J2, eJ, dJ, cJ, hno⟩ := hh3
    have hno : ∀ b, ¬ J2 b := hno
    obtain ⟨v, _, hv3⟩ := (show (jA Kc (w.heap.size + 1) w.heap.size (loopR n fc fn ps asg body w.heap.size) zs).h (or2 S3 c.X) J1 w3 from cJ)
    have hv4 := HoldsL.perm List.perm_append_comm hv3
    have hall : Holds (or2 S3 c.X) w3 ((2, .ext (objA (w.heap.size + 1) (.loop (loopR n fc fn ps asg body w.heap.size)))) :: ((kB, .ext B) :: (0, .ext (objA w.heap.size (.deferred (some [])))) :: (Kc v zs).map fun c => (0, c))) S3 := by
      have h1 : HoldsL (or2 S3 c.X) w3 (.ext B :: ([.ext (objA (w.heap.size + 1) (.loop (loopR n fc fn ps asg body w.heap.size))), .ext (objA w.heap.size (.deferred (some [])))] ++ Kc v zs)) S3 :=
        ⟨P1, J1, fun b => by rw [eP b, eJ b]; exact ⟨fun h => h.imp id fun h => h.elim id fun h => absurd h (hno b), fun h => h.imp id .inl⟩, fun b hb h => dP b hb ((eJ b).2 (.inl h)), cB, hv4⟩
      have h2 := HoldsL.perm (List.Perm.swap _ _ _) h1
      exact Holds.keys h2 (by simp)
    obtain ⟨hp3, _⟩ := obj_at (k := 2) hall rfl
    obtain ⟨hs4, hh4⟩ := obj_turn (k := 2) (.loop { loopR n fc fn ps asg body w.heap.size with state := .exhausted }) hs3 hall rfl
    refine ⟨_, _, run_endLoop hp3 (by simp [loopR]), ?_⟩
    obtain ⟨R1, R2, eR, dR, cR, hR2⟩ := hh4
    have hmR : ∀ b, or2 R2 c.X b → or2 S3 c.X b := fun b h => h.elim (fun h => .inl ((eR b).2 (.inr h))) .inr
    exact hk w.heap.size _ R2 zs v hT1 ⟨hs4.env.of fun b _ h => hmR b h, hs4.ev, fun b hb => hs4.sub b ((eR b).2 (.inr hb))⟩ (hR2.of fun b _ h => hmR b h)
end
end Go.Proofs.Ytdconcindpfmcaa.A
end

section
/- slices.AppendSeq of numbers, at nil, against any iterator. -/
set_option linter.unusedVariables false
set_option linter.unusedSimpArgs false
set_option maxRecDepth 100000
namespace Go.Proofs.Ytdconcindpfmcaa.A
open V
theorem act_en {n : Nat} {args : List Value} (ha' : args.length ≤ n) : ({ tmps := args.toArray ++ Array.replicate (n - args.toArray.size) undef, defers := [] } : Act) = act n (en 0 args) := by
  unfold act
  congr 1
  apply Array.ext_getElem?
  intro i
  rw [Array.getElem?_ofFn]
  by_cases h : i < n
  · rw [dif_pos h, get_en]
    rw [Array.getElem?_append]
    by_cases h2 : i < args.length
    · simp [h2]
    · simp [h2, show i - args.length < n - args.length by omega]
  · rw [dif_neg h]
    rw [Array.getElem?_append]
    have h2 : ¬ i < args.length := by omega
    simp [h2]; omega
section
variable {P : Program} {L : List TD} {n : Nat}
theorem step_val {ops : Array Oper} {rest : List Oper} {o : Oper} {K : Exit → Act → World → Prop} {fc : Env} {w : World} {v : Value} {m : Nat} {ds : List Deferred} (hg : o.guard = none) (hr : (execOp (ev n fc) o).run P w = .ok (.value v) w)
    (hk : wpListIn Fence.wide m P ops K rest { act n (put fc o.dst v) with defers := ds } w) : wpListIn Fence.wide m P ops K (o :: rest) { act n fc with defers := ds } w := by
  have haa : ({ act n fc with defers := ds } : Act).eval = ev n fc := funext (act_eval n fc)
  unfold wpListIn
  rw [if_pos (by unfold Region.wanted; rw [hg])]
  refine ⟨fun _ _ => trivial, ?_⟩
  rw [show (Fence.wide).round = none from rfl, Oper.semAt_none, haa, hr]
  show wpListIn Fence.wide m P ops K rest (({ act n fc with defers := ds } : Act).put o.dst v) w
  have hp : ({ act n fc with defers := ds } : Act).put o.dst v = { (act n fc).put o.dst v with defers := ds } := by cases o.dst <;> rfl
  rw [hp, act_put]
  exact hk
theorem code_in {c : Ctx} {cd : Code} {R : Act → World → Prop} {f : AEnv} {σ : Store} {fc : Env} {w : World} {S : Nat → Prop} {m : Nat} (h : DenA c P n noQ (.code [.inv R] cd) f σ) (hs : Sat c w S f fc) (hh : Holds (or2 S c.X) w σ S) : cd.wpIn Fence.wide m P (Exit.then R noQ) (act n fc) w :=
  wpIn_wide.2 (h.out trivial w S fc (fun _ => True) hs hh)
theorem read_run (hT : TOk P L) {o : Oper} {f : AEnv} {a : AV} {σ : Store} {ob : Obs} (h : opA L n true true true [] σ [] f o.op (fun b a _ ob => some (b, a, ob)) none = some (false, a, ob)) (hob : OT ob) {M : Nat → Prop} {w : World} {fc : Env} {Su : Nat → Prop} (he : EnvRep M w f fc) (hh : Holds M w σ Su) :
    ∃ v, (execOp (ev n fc) o).run P w = .ok (.value v) w ∧ Rep M w a v := by
  rcases opA_says (P := P) (L := L) hT n true true true [] σ [] f o with h1 | ⟨a', ob', h1, hs⟩ | ⟨_, σ', ob', h1, hs⟩
  · rw [h1] at h; cases h
  · rw [h1] at h
    cases h
    obtain ⟨v, hv, hr⟩ := hs M w no Su fc (fun w' => w' = w) hob he (fun _ h => h) hh (fun _ w' e b _ => by rw [e]) (fun _ w' e b _ => by rw [e]) (fun _ w' e b _ => by rw [e])
    exact ⟨v, hv w rfl, hr⟩
  · rw [h1] at h; cases h
theorem tail_in (hT : TOk P L) {ops : Array Oper} {o1 o2 : Oper} {K : Exit → Act → World → Prop} {fc : Env} {w : World} {m : Nat} {ds : List Deferred} {f : AEnv} {σ : Store} {a1 a2 : AV} {ob : Obs} {M Su : Nat → Prop} (g1 : o1.guard = none) (g2 : o2.guard = none)
    (h1 : opA L n true true true [] σ [] f o1.op (fun b a _ ob => some (b, a, ob)) none = some (false, a1, ob)) (hob : OT ob) (h2 : pureA L n [] (putA f o1.dst a1) o2.op some none = some a2) (he : EnvRep M w f fc) (hh : Holds M w σ Su)
    (hk : ∀ fc', EnvRep M w (putA (putA f o1.dst a1) o2.dst a2) fc' → K .normal { act n fc' with defers := ds } w) : wpListIn Fence.wide m P ops K [o1, o2] { act n fc with defers := ds } w := by
  obtain ⟨v1, r1, k1⟩ := read_run hT h1 hob he hh
  refine step_val g1 r1 ?_
  have he1 := he.put o1.dst k1
  obtain ⟨v2, r2, k2⟩ := pure_run hT h2 he1
  refine step_val g2 (r2 w) ?_
  exact hk _ (he1.put o2.dst k2)
end
end Go.Proofs.Ytdconcindpfmcaa.A
namespace Go.Proofs.Ytdconcindpfmcaa
open V A
abbrev boxU (g : Nat) (v : Value) : Chunk := .blk g 59 [.row v 30]
abbrev rowL (v : Value) (l : List Int) : Chunk := .row v 43 1 (l.map eU)
theorem appendSeq_spec {gf N h : Nat} {caps : List AV} {B : Asrt} {T : List Int → Prop} (hN : N ≤ 1000000) (hb : callOk Try.prog gf = true)
    (hit : ∀ l (J : List Int → Asrt), (∀ pre x, pre.length < N → YSpec Try.prog l [.v (kU x) 0] (J pre) (J (pre ++ [x]))) → FSpec Try.prog gf (.v (.func (.yield l) #[] #[]) 0 :: caps) [.ext B, .ext (J [])] fun _ cs' => ∃ ys, T ys ∧ cs' = [.ext B, .ext (J ys)]) :
    FSpec Try.prog 89 [.v (.slice none 0 0) h, .fn gf caps] [.ext B] fun a cs' => ∃ v ys, T ys ∧ a = .row v 1 ∧ cs' = [.ext B, rowL v ys] := by
  refine ⟨fun X S w xs h1 h2 h3 h4 => ?_⟩
  have hlen := h4.len
  refine (callsIn_wide (n := 6)).1 (callsIn_of_wp_marks Try.func89 rfl trivial ?_ rfl)
  have hact := act_en (n := 13) (args := xs) (by rw [hlen]; show 2 ≤ 13; decide)
  refine (show _ = _ from hact) ▸ ?_
  let c : Ctx := ⟨X, S, w, h1, h2⟩
  have hs0 : Sat c w S (enA 0 [.v (.slice none 0 0) h, .fn gf caps]) (en 0 xs) := ⟨enA_rep 0 h4, Ev.refl _ _, fun b hb => .inl hb⟩
  have hh0 : Holds (or2 S c.X) w [(50, .ext B)] S := h3.zip [50]
  refine wpIn_seq (wpIn_mono (code_in (n := 13) (R := InvA c 13 [1, 2] (fun g : Nat => [.fn gf caps, .v (.pointer (some ⟨g, 0, none⟩)) 31]) (fun g => [(31, boxU g (.slice none 0 0)), (30, rowL (.slice none 0 0) []), (50, .ext B)]) (fun _ => True)) ?D0 hs0 hh0) ?_)
  case D0 =>
    refine a_nilrow 0 30 43 1 rfl rfl ?_
    refine a_box hT 31 rfl rfl rfl rfl fun g => ?_
    exact a_next hT g [31, 30, 50] rfl rfl trivial ⟨⟨rfl, Fits.refl _⟩, rfl, trivial⟩ rfl ⟨⟨rfl, rfl, ⟨rfl, trivial⟩⟩, ⟨rfl, rfl, rfl, rfl⟩, rfl, trivial⟩
  intro e a1 w1 hx
  cases e with
  | normal =>
    obtain ⟨g, fc1, S1, rfl, _, hs1, hh1⟩ := hx
    refine wpIn_seq (wpIn_seq (wpIn_mono (code_in (n := 13) (R := InvA c 13 [2, 6] (fun _ : Unit => [.v (.pointer (some ⟨g, 0, none⟩)) 31, .fn gf caps]) (fun _ => [(31, boxU g (.slice none 0 0)), (30, rowL (.slice none 0 0) []), (50, .ext B)]) (fun _ => True)) ?D1 hs1 hh1) ?_))
    case D1 =>
      exact a_next hT () [31, 30, 50] rfl rfl trivial ⟨rfl, ⟨rfl, Fits.refl _⟩, trivial⟩ rfl ⟨⟨rfl, rfl, ⟨rfl, trivial⟩⟩, ⟨rfl, rfl, rfl, rfl⟩, rfl, trivial⟩
    intro e a2 w2 hx
    cases e with
    | normal =>
      obtain ⟨_, fc2, S2, rfl, _, hs2, hh2⟩ := hx
      refine wpIn_block (range_in (Kc := fun v pre => [boxU g v, rowL v pre]) (v0 := .slice none 0 0) (enc := kU) (N := N) (T := T) (ks := [31, 30]) (kB := 50) hs2 hh2 rfl hb rfl rfl ?J hit ?K)
      case J =>
        intro fn l D pre x hl
        generalize hr0 : loopR 13 fc2 fn #[7] _ _ D = r0
        have e1 : r0.state = _ := (congrArg Loop.state hr0).symm
        have e2 : r0.pending = _ := (congrArg Loop.pending hr0).symm
        have e3 : r0.tmps = _ := (congrArg Loop.tmps hr0).symm
        have e4 : r0.params = _ := (congrArg Loop.params hr0).symm
        have e5 : r0.assign = _ := (congrArg Loop.assign hr0).symm
        have e6 : r0.body = _ := (congrArg Loop.body hr0).symm
        clear hr0
        refine round_spec (P := Try.prog) (r := r0) (l := l) (n := 13) (kl := 60) (p := 7) (fcR := fc2) (fR := [(2, .v (.pointer (some ⟨g, 0, none⟩)) 31)]) (σ0 := fun v : Value => [(31, boxU g v), (30, rowL v pre), (60, .ext (objA l (.loop r0))), (61, .ext (objA D (.deferred (some []))))]) (sl1 := [2, 5]) (vs1 := fun _ : Value => [.v (.pointer (some ⟨g, 0, none⟩)) 31, .v (kU x) 0]) (sg1 := fun v : Value => [(31, boxU g v), (30, rowL v pre), (60, .ext (objA l (.loop r0))), (61, .ext (objA D (.deferred (some []))))]) (φ1 := fun _ => True) (sl2 := []) (vs2 := fun _ : Value => []) (sg2 := fun v : Value => [(31, boxU g v), (30, rowL v (pre ++ [x])), (60, .ext (objA l (.loop { r0 with state := .busy }))), (61, .ext (objA D (.deferred (some []))))]) (φ2 := fun _ => True) e1 e2 e3 e4 e5 e6 ?R1 (by simp) (by simp) ?R2 ?R3 (fun _ => rfl) ?R4 (fun _ => rfl) (fun _ => rfl) ?R5
        case R1 =>
          intro M w' t
          have h2 := hs2.env 2
          rw [show getA (overA [2, 6] [.v (.pointer (some ⟨g, 0, none⟩)) 31, .fn gf caps]) 2 = .v (.pointer (some ⟨g, 0, none⟩)) 31 from rfl] at h2
          rw [getA_cons]
          split
          · rename_i e
            subst e
            unfold Rep at h2 ⊢
            exact h2
          · show Rep M w' .any _
            unfold Rep
            trivial
        case R2 =>
          rintro M S' w' ⟨v, _, hv⟩
          exact ⟨v, hv.zip [31, 30, 60, 61]⟩
        case R3 =>
          intro c' v
          exact a_next hT v [31, 30, 60, 61] rfl rfl trivial ⟨rfl, rfl, trivial⟩ rfl ⟨⟨rfl, rfl, ⟨rfl, trivial⟩⟩, ⟨rfl, rfl, rfl, rfl⟩, rfl, rfl, trivial⟩
        case R4 =>
          intro c' v _
          refine a_lit hT 62 rfl rfl rfl rfl (by kernel_rfl) rfl rfl rfl rfl fun x62 => ?_
          refine a_app hT 30 ((pre ++ [x]).map eU) rfl rfl rfl rfl (by kernel_rfl) rfl rfl rfl rfl rfl (by rw [List.map_append]; rfl) (by simp; unfold lim; omega) fun v' => ?_
          exact a_next hT v' [31, 30, 60, 61] rfl rfl trivial trivial rfl ⟨⟨rfl, rfl, ⟨rfl, trivial⟩⟩, ⟨rfl, rfl, rfl, rfl⟩, rfl, rfl, trivial⟩
        case R5 =>
          intro M S' w' v _ hv
          exact ⟨v, trivial, Holds.keys hv rfl⟩
      case K =>
        intro D w' S' ys v hT' hs' hh'
        refine (show Code.wpIn _ _ _ _ _ _ _ from wpIn_seq (wpIn_region_list ?_))
        have hk' : Holds (or2 S' c.X) w' [(50, .ext B), (0, .ext (objA D (.deferred (some [])))), (31, boxU g v), (30, rowL v ys)] S' := Holds.keys hh' rfl
        refine tail_in (P := Try.prog) hT (n := 13) (a1 := .row v 30) (a2 := .row v 30) rfl rfl rfl ?_ rfl hs'.env hk' fun fc3 he3 => ?_
        · exact OT.of rfl
        refine wpIn_ret ?_
        obtain ⟨hD, _⟩ := obj_at (k := 0) hk' rfl
        refine ⟨by simp, .inl ⟨D, _, rfl, run_takeDeferred hD, ?_⟩⟩
        refine ⟨_, results_tmp rfl _ _ _, ?_⟩
        obtain ⟨hs5, hh5⟩ := obj_turn (k := 0) (.deferred none) hs' hk' rfl
        obtain ⟨R1, R2, eR, dR, cB, R3, R4, eR3, dR3, cD, R5, R6, eR5, dR5, cX, R7, R8, eR7, dR7, cV, hno⟩ := hh5
        have hno : ∀ b, ¬ R8 b := hno
        have hv := he3.eval (n := 13) (.tmp 4)
        have hv : Rep (or2 S' c.X) w' (.row v 30) (ev 13 fc3 (.tmp 4)) := hv
        rw [← act_eval] at hv
        have hm : ∀ b, or2 (or2 R1 R7) c.X b → or2 S' c.X b := fun b h => by
          rcases h with (h | h) | h
          · exact .inl ((eR b).2 (.inl h))
          · exact .inl ((eR b).2 (.inr ((eR3 b).2 (.inr ((eR5 b).2 (.inr ((eR7 b).2 (.inl h))))))))
          · exact .inr h
        refine ⟨_, .row v 1, [.ext B, rowL v ys], or2 R1 R7, rfl, ⟨v, ys, hT', rfl, rfl⟩, by unfold Rep at hv ⊢; exact hv, ?_, hs5.ev, fun b hb => ?_⟩
        · refine Holds.of (M := or2 S' c.X) ⟨R1, R7, fun b => Iff.rfl, fun b hb h => dR b hb ((eR3 b).2 (.inr ((eR5 b).2 (.inr ((eR7 b).2 (.inl h)))))), cB, R7, no, fun b => ⟨.inl, fun h => h.elim id fun h => h.elim⟩, fun b _ h => h, cV, fun b h => h⟩ fun b _ h => hm b h
        · rcases hb with h | h
          · exact hs5.sub b ((eR b).2 (.inl h))
          · exact hs5.sub b ((eR b).2 (.inr ((eR3 b).2 (.inr ((eR5 b).2 (.inr ((eR7 b).2 (.inl h))))))))
    | _ => exact hx.elim
  | _ => exact hx.elim
end Go.Proofs.Ytdconcindpfmcaa
end

section
/- slices.Sort of numbers: rows of numbers; Less; insertionSortOrdered. -/
set_option linter.unusedVariables false
set_option linter.unusedSimpArgs false
set_option maxRecDepth 100000
namespace Go.Proofs.Ytdconcindpfmcaa
open V A
theorem isNaN_spec {x : Int} {h : Nat} : FSpec Try.prog 109 [.v (kU x) h] [] fun a cs => a = bA false ∧ cs = [] := by
  refine a_enter hT [.v (kU x) 0] [] Try.func109 rfl rfl rfl ⟨rfl, trivial⟩ fun c => ?_
  refine a_ret hT [] rfl rfl rfl rfl rfl rfl ?_
  exact ⟨by show AV.v (.bool (x != x)) 0 = _; simp; rfl, rfl⟩
theorem uless_spec {x y : Int} {h h1 : Nat} : FSpec Try.prog 99 [.v (kU x) h, .v (kU y) h1] [] fun a cs => a = bA (decide (x < y)) ∧ cs = [] := by
  refine a_enter hT [.v (kU x) 0, .v (kU y) 0] [] Try.func99 rfl rfl rfl ⟨rfl, rfl, trivial⟩ fun c => ?_
  refine a_call hT rfl rfl rfl (by kernel_rfl) isNaN_spec [] [] rfl rfl ?_
  rintro _ _ ⟨rfl, rfl⟩
  refine a_gf hT rfl rfl rfl rfl ?_
  refine a_gf hT rfl rfl rfl rfl ?_
  refine a_ret hT [] rfl rfl rfl rfl rfl rfl ?_
  first | exact ⟨rfl, rfl⟩ | rfl
open Go.Sort in
theorem ins_spec {g cap a b : Nat} {d : Array Int} {h h1 h2 : Nat} (ha : a ≤ b) (hb : b ≤ d.size) (hd : d.size < 1000000) : FSpec Try.prog 93 [.row (slV g d cap) h, .v (kI a) h1, .v (kI b) h2] [rowU (slV g d cap) d] fun _ cs => cs = [rowU (slV g d cap) (insertionSort ltInt d a b)] := by
  refine a_enter hT [.row (slV g d cap) 30, .v (kI a) 0, .v (kI b) 0] [30] Try.func93 rfl rfl rfl ⟨rfl, rfl, rfl, trivial⟩ fun c => ?_
  have hw1 : IntKind.i64.wrap ((a : Int) + 1) = ((a + 1 : Nat) : Int) := by rw [w64 (by omega) (by omega)]; omega
  refine a_loop hT [0, 1, 2, 6] (fun x : Nat × Array Int => [.row (slV g d cap) 30, .v (kI a) 0, .v (kI b) 0, .v (kI x.1) 0]) (fun x => [(30, rowU (slV g d cap) x.2)]) (fun x => x.2.size = d.size ∧ insOuter ltInt a b x.1 x.2 = insertionSort ltInt d a b ∧ a + 1 ≤ x.1 ∧ x.1 ≤ 1000001) (fun x => 1000001 - x.1) (a + 1, d) [30] rfl rfl ⟨rfl, rfl, Nat.le_refl _, by show a + 1 ≤ 1000001; omega⟩ ⟨rfl, rfl, rfl, by rw [hw1]; rfl, trivial⟩ rfl ⟨⟨rfl, rfl, rfl, rfl⟩, trivial⟩ ?_
  rintro ⟨i, e⟩ ⟨hs, he, hi, hi2⟩
  dsimp only at hs he hi hi2 ⊢
  have hs : e.size = d.size := hs
  have he : insOuter ltInt a b i e = insertionSort ltInt d a b := he
  have hi : a + 1 ≤ i := hi
  have hi2 : i ≤ 1000001 := hi2
  refine a_if hT rfl rfl (fun h3 => ?_) (fun h3 => ?_)
  · have h3 := of_decide_eq_true h3
    have he2 : insOuter ltInt a b (i + 1) (insInner ltInt a i e) = insertionSort ltInt d a b := by rw [← he]; conv => rhs; unfold insOuter; rw [if_pos (by omega)]
    refine a_loop hT [0, 1, 2, 6, 7] (fun x : Nat × Array Int => [.row (slV g d cap) 30, .v (kI a) 0, .v (kI b) 0, .v (kI i) 0, .v (kI x.1) 0]) (fun x => [(30, rowU (slV g d cap) x.2)]) (fun x => x.2.size = d.size ∧ insInner ltInt a x.1 x.2 = insInner ltInt a i e ∧ a ≤ x.1 ∧ x.1 ≤ i) (fun x => x.1) (i, e) [30] rfl rfl ⟨hs, rfl, by show a ≤ i; omega, Nat.le_refl _⟩ ⟨rfl, rfl, rfl, rfl, rfl, trivial⟩ rfl ⟨⟨rfl, rfl, rfl, rfl⟩, trivial⟩ ?_
    rintro ⟨j, q⟩ ⟨hq, hqe, hj, hji⟩
    dsimp only at hq hqe hj hji ⊢
    have hq : q.size = d.size := hq
    have hqe : insInner ltInt a j q = insInner ltInt a i e := hqe
    have hj : a ≤ j := hj
    have hji : j ≤ i := hji
    have hw2 : IntKind.i64.wrap ((j : Int) - 1) = (j : Int) - 1 := w64 (by omega) (by omega)
    refine a_drawX hT [] 13 [(0, false), (1, false), (2, false), (3, false), (4, false), (5, false), (6, false), (7, false), (8, false), (9, false), (10, false), (11, false), (12, false), (13, true)] rfl rfl (by kernel_rfl) (by kernel_rfl) rfl ?_
    refine a_g hT rfl rfl rfl (fun h4 => ?_) (fun h4 => ?_)
    · have h4 := of_decide_eq_true h4
      refine a_rix hT (j) rfl rfl rfl rfl rfl rfl (by first | rfl | omega) (by omega) ?_
      refine a_uldP hT (j) (q) rfl rfl rfl rfl rfl rfl rfl (by first | omega | (simp only [Array.size_setIfInBounds, swp_size]; omega)) rfl ?_
      refine a_rix hT (j - 1) rfl rfl rfl rfl rfl rfl (by first | rfl | omega) (by omega) ?_
      refine a_uldP hT (j - 1) (q) rfl rfl rfl rfl rfl rfl rfl (by first | omega | (simp only [Array.size_setIfInBounds, swp_size]; omega)) rfl ?_
      refine a_callF hT rfl rfl rfl (by kernel_rfl) (uless_spec (h := 0) (h1 := 0)) [] [] ⟨rfl, rfl, trivial⟩ rfl trivial ?_
      rintro _ _ ⟨rfl, rfl⟩
      refine a_rest hT [(14, true)] rfl rfl (by kernel_rfl) ?_
      refine a_if hT rfl rfl (fun h5 => ?_) (fun h5 => ?_)
      · have h5 := of_decide_eq_true h5
        refine a_treeN hT [0, 1, 2, 6, 7] (fun _ : Unit => [.row (slV g d cap) 30, .v (kI ↑a) 0, .v (kI ↑b) 0, .v (kI ↑i) 0, .v (kI ↑j) 0]) (fun _ => [(30, rowU (slV g d cap) (swp q j (j - 1)))]) (fun _ => True) [30] 18 [(0, false), (1, false), (2, false), (3, false), (4, false), (5, false), (6, false), (7, false), (8, false), (10, false), (11, false), (12, false)] rfl rfl (by kernel_rfl) (by kernel_rfl) rfl ?_ fun _ _ => ?_
        · refine a_rix hT (j - 1) rfl rfl rfl rfl rfl rfl (by first | rfl | omega) (by omega) ?_
          refine a_rix hT (j) rfl rfl rfl rfl rfl rfl (by first | rfl | omega) (by omega) ?_
          refine a_alt hT [([(9, true), (13, true), (14, true), (15, true), (16, true), (17, true)], true), ([(13, true), (9, true), (14, true), (15, true), (16, true), (17, true)], true)] rfl rfl (by kernel_rfl) ⟨?_, ?_, trivial⟩
          · refine a_uld hT (j - 1) (q) rfl rfl rfl rfl rfl rfl rfl (by first | omega | (simp only [Array.size_setIfInBounds, swp_size]; omega)) rfl ?_
            refine a_uld hT (j) (q) rfl rfl rfl rfl rfl rfl rfl (by first | omega | (simp only [Array.size_setIfInBounds, swp_size]; omega)) rfl ?_
            refine a_rix hT (j) rfl rfl rfl rfl rfl rfl (by first | rfl | omega) (by omega) ?_
            refine a_ust hT (j) (q) _ rfl rfl rfl rfl rfl rfl rfl rfl (by first | omega | (simp only [Array.size_setIfInBounds, swp_size]; omega)) rfl ?_
            refine a_rix hT (j - 1) rfl rfl rfl rfl rfl rfl (by first | rfl | omega) (by omega) ?_
            refine a_ust hT (j - 1) (Array.setIfInBounds q j q[j - 1]!) _ rfl rfl rfl rfl rfl rfl rfl rfl (by first | omega | (simp only [Array.size_setIfInBounds, swp_size]; omega)) rfl ?_
            exact a_next hT () [30] rfl rfl trivial ⟨rfl, rfl, rfl, rfl, rfl, trivial⟩ rfl ⟨⟨rfl, rfl, rfl, rfl⟩, trivial⟩
          · refine a_uld hT (j) (q) rfl rfl rfl rfl rfl rfl rfl (by first | omega | (simp only [Array.size_setIfInBounds, swp_size]; omega)) rfl ?_
            refine a_uld hT (j - 1) (q) rfl rfl rfl rfl rfl rfl rfl (by first | omega | (simp only [Array.size_setIfInBounds, swp_size]; omega)) rfl ?_
            refine a_rix hT (j) rfl rfl rfl rfl rfl rfl (by first | rfl | omega) (by omega) ?_
            refine a_ust hT (j) (q) _ rfl rfl rfl rfl rfl rfl rfl rfl (by first | omega | (simp only [Array.size_setIfInBounds, swp_size]; omega)) rfl ?_
            refine a_rix hT (j - 1) rfl rfl rfl rfl rfl rfl (by first | rfl | omega) (by omega) ?_
            refine a_ust hT (j - 1) (Array.setIfInBounds q j q[j - 1]!) _ rfl rfl rfl rfl rfl rfl rfl rfl (by first | omega | (simp only [Array.size_setIfInBounds, swp_size]; omega)) rfl ?_
            exact a_next hT () [30] rfl rfl trivial ⟨rfl, rfl, rfl, rfl, rfl, trivial⟩ rfl ⟨⟨rfl, rfl, rfl, rfl⟩, trivial⟩
        · refine a_next hT (j - 1, swp q j (j - 1)) [30] rfl rfl ⟨⟨by rw [swp_size]; exact hq, ?_, by show a ≤ j - 1; omega, by show j - 1 ≤ i; omega⟩, by show j - 1 < j; omega⟩ ⟨rfl, rfl, rfl, rfl, by show Value.int .i64 _ = Value.int .i64 _; rw [hw2]; congr 1; show (j : Int) - 1 = ((j - 1 : Nat) : Int); omega, trivial⟩ rfl ⟨⟨rfl, rfl, rfl, rfl⟩, trivial⟩
          rw [← hqe]
          show insInner ltInt a (j - 1) (swp q j (j - 1)) = insInner ltInt a j q
          obtain ⟨j', rfl⟩ : ∃ j', j = j' + 1 := ⟨j - 1, by omega⟩
          conv => rhs; unfold insInner
          rw [if_pos (by simp only [Bool.and_eq_true, decide_eq_true_eq]; exact ⟨by omega, by unfold ltInt; exact decide_eq_true h5⟩)]
          rfl
      · have h5 := of_decide_eq_false h5
        refine a_next hT (i + 1, q) [30] rfl rfl ⟨⟨hq, ?_, by show a + 1 ≤ i + 1; omega, by show i + 1 ≤ 1000001; omega⟩, by show 1000001 - (i + 1) < 1000001 - i; omega⟩ ⟨rfl, rfl, rfl, by show Value.int .i64 _ = Value.int .i64 _; rw [w64 (by omega) (by omega)]; rfl, trivial⟩ rfl ⟨⟨rfl, rfl, rfl, rfl⟩, trivial⟩
        rw [← he2, ← hqe]
        show insOuter ltInt a b (i + 1) q = _
        obtain ⟨j', rfl⟩ : ∃ j', j = j' + 1 := ⟨j - 1, by omega⟩
        conv => rhs; unfold insInner
        rw [if_neg]
        simp only [Bool.and_eq_true, decide_eq_true_eq, not_and]
        exact fun _ h => h5 (of_decide_eq_true h)
    · have h4 := of_decide_eq_false h4
      refine a_rest hT [(14, true)] rfl rfl (by kernel_rfl) ?_
      refine a_f hT rfl rfl rfl ?_
      refine a_next hT (i + 1, q) [30] rfl rfl ⟨⟨hq, ?_, by show a + 1 ≤ i + 1; omega, by show i + 1 ≤ 1000001; omega⟩, by show 1000001 - (i + 1) < 1000001 - i; omega⟩ ⟨rfl, rfl, rfl, by show Value.int .i64 _ = Value.int .i64 _; rw [w64 (by omega) (by omega)]; rfl, trivial⟩ rfl ⟨⟨rfl, rfl, rfl, rfl⟩, trivial⟩
      rw [← he2, ← hqe]
      show insOuter ltInt a b (i + 1) q = _
      cases j with
      | zero => rfl
      | succ j' =>
        conv => rhs; unfold insInner
        rw [if_neg]
        simp only [Bool.and_eq_true, decide_eq_true_eq, not_and]
        intro h; omega
  · have h3 := of_decide_eq_false h3
    refine a_end hT [30] rfl rfl rfl rfl rfl rfl ?_
    show [rowU (slV g d cap) e] = _
    rw [← he]; unfold insOuter; rw [if_neg (by omega)]
end Go.Proofs.Ytdconcindpfmcaa
end

section
/- slices.Sort of numbers: the pivot's choice, reverseRangeOrdered. -/
set_option linter.unusedVariables false
set_option linter.unusedSimpArgs false
set_option maxRecDepth 100000
namespace Go.Proofs.Ytdconcindpfmcaa
open V A Go.Sort
abbrev swB (gs : Nat) (s : Int) : Chunk := .blk gs 3 [.v (kI s) 0]
theorem order2_spec {g cap gs : Nat} {d : Array Int} {a b s h h1 h2 h3 : Nat} (ha : a < d.size) (hb : b < d.size) (hd : d.size < 1000000) (hs : s < 1000) : FSpec Try.prog 110 [.row (slV g d cap) h, .v (kI a) h1, .v (kI b) h2, .v (.pointer (some ⟨gs, 0, none⟩)) h3] [rowU (slV g d cap) d, swB gs s]
    fun r cs => r = .tup [.v (kI (order2 ltInt d a b s).1) 0, .v (kI (order2 ltInt d a b s).2.1) 0] ∧ cs = [rowU (slV g d cap) d, swB gs (order2 ltInt d a b s).2.2] := by
  have hw : IntKind.i64.wrap ((s : Int) + 1) = ((s + 1 : Nat) : Int) := by rw [w64 (by omega) (by omega)]; omega
  refine a_enter hT [.row (slV g d cap) 30, .v (kI a) 0, .v (kI b) 0, .v (.pointer (some ⟨gs, 0, none⟩)) 31] [30, 31] Try.func110 rfl rfl rfl ⟨rfl, rfl, rfl, rfl, trivial⟩ fun c => ?_
  refine a_draw hT [] true [(0, false), (1, false), (2, false), (3, false), (4, false), (5, false), (6, false), (7, false), (8, true)] rfl rfl (by kernel_rfl) (by kernel_rfl) rfl ?_
  refine a_rix hT (b) rfl rfl rfl rfl rfl rfl (by first | rfl | omega) (by omega) ?_
  refine a_uldP hT (b) (d) rfl rfl rfl rfl rfl rfl rfl (by first | omega | (simp only [Array.size_setIfInBounds, swp_size]; omega)) rfl ?_
  refine a_rix hT (a) rfl rfl rfl rfl rfl rfl (by first | rfl | omega) (by omega) ?_
  refine a_uldP hT (a) (d) rfl rfl rfl rfl rfl rfl rfl (by first | omega | (simp only [Array.size_setIfInBounds, swp_size]; omega)) rfl ?_
  refine a_callF hT rfl rfl rfl (by kernel_rfl) (uless_spec (h := 0) (h1 := 0)) [] [] ⟨rfl, rfl, trivial⟩ rfl trivial ?_
  rintro _ _ ⟨rfl, rfl⟩
  refine a_if hT rfl rfl (fun h4 => ?_) (fun h4 => ?_)
  · have h4 := of_decide_eq_true h4
    refine a_ret hT [30, 31] rfl rfl rfl rfl rfl rfl ?_
    have e : order2 ltInt d a b s = (b, a, s + 1) := by unfold order2; rw [if_pos (by unfold ltInt; simpa using h4)]
    rw [e]
    exact ⟨rfl, by rw [hw]; rfl⟩
  · have h4 := of_decide_eq_false h4
    refine a_ret hT [30, 31] rfl rfl rfl rfl rfl rfl ?_
    have e : order2 ltInt d a b s = (a, b, s) := by unfold order2; rw [if_neg (by unfold ltInt; simpa using h4)]
    rw [e]
    exact ⟨rfl, rfl⟩
theorem order2_in {d : Array Int} {a b s n : Nat} (ha : a < n) (hb : b < n) : (order2 ltInt d a b s).1 < n ∧ (order2 ltInt d a b s).2.1 < n ∧ (order2 ltInt d a b s).2.2 ≤ s + 1 := by
  unfold order2; split <;> exact ⟨by assumption, by assumption, by simp⟩
theorem median_spec {g cap gs : Nat} {d : Array Int} {a b e s h h1 h2 h3 h4 : Nat} (ha : a < d.size) (hb : b < d.size) (he : e < d.size) (hd : d.size < 1000000) (hs : s < 900) : FSpec Try.prog 108 [.row (slV g d cap) h, .v (kI a) h1, .v (kI b) h2, .v (kI e) h3, .v (.pointer (some ⟨gs, 0, none⟩)) h4] [rowU (slV g d cap) d, swB gs s]
    fun r cs => r = .v (kI (median ltInt d a b e s).1) 0 ∧ cs = [rowU (slV g d cap) d, swB gs (median ltInt d a b e s).2] := by
  refine a_enter hT [.row (slV g d cap) 30, .v (kI a) 0, .v (kI b) 0, .v (kI e) 0, .v (.pointer (some ⟨gs, 0, none⟩)) 31] [30, 31] Try.func108 rfl rfl rfl ⟨rfl, rfl, rfl, rfl, rfl, trivial⟩ fun c => ?_
  have o1 := order2_in (d := d) (s := s) ha hb
  have o2 := order2_in (d := d) (s := (order2 ltInt d a b s).2.2) o1.2.1 he
  have o3 := order2_in (d := d) (s := (order2 ltInt d (order2 ltInt d a b s).2.1 e (order2 ltInt d a b s).2.2).2.2) o1.1 o2.1
  refine a_call hT rfl rfl rfl (by kernel_rfl) (order2_spec (a := a) (b := b) (s := s) (by first | assumption | rfl | decide | omega | (dsimp only; omega)) (by first | assumption | rfl | decide | omega | (dsimp only; omega)) (by first | assumption | rfl | decide | omega | (dsimp only; omega)) (by first | assumption | rfl | decide | omega | (dsimp only; omega))) [30, 31] [30, 31] rfl rfl ?_
  rintro _ _ ⟨rfl, rfl⟩
  refine a_call hT rfl rfl rfl (by kernel_rfl) (order2_spec (a := (order2 ltInt d a b s).2.1) (b := e) (s := (order2 ltInt d a b s).2.2) (by first | assumption | rfl | decide | omega | (dsimp only; omega)) (by first | assumption | rfl | decide | omega | (dsimp only; omega)) (by first | assumption | rfl | decide | omega | (dsimp only; omega)) (by first | assumption | rfl | decide | omega | (dsimp only; omega))) [30, 31] [30, 31] rfl rfl ?_
  rintro _ _ ⟨rfl, rfl⟩
  refine a_call hT rfl rfl rfl (by kernel_rfl) (order2_spec (a := (order2 ltInt d a b s).1) (by first | assumption | rfl | decide | omega | (dsimp only; omega)) (by first | assumption | rfl | decide | omega | (dsimp only; omega)) (by first | assumption | rfl | decide | omega | (dsimp only; omega)) (by first | assumption | rfl | decide | omega | (dsimp only; omega))) [30, 31] [30, 31] rfl rfl ?_
  rintro _ _ ⟨rfl, rfl⟩
  refine a_ret hT [30, 31] rfl rfl rfl rfl rfl rfl ?_
  first | exact ⟨rfl, rfl⟩ | rfl
theorem reverse_spec {g cap : Nat} {d : Array Int} {a b h h1 h2 : Nat} (ha : a < b) (hb : b ≤ d.size) (hd : d.size < 1000000) : FSpec Try.prog 97 [.row (slV g d cap) h, .v (kI a) h1, .v (kI b) h2] [rowU (slV g d cap) d]
    fun _ cs => cs = [rowU (slV g d cap) (reverseRange d a b)] := by
  refine a_enter hT [.row (slV g d cap) 30, .v (kI a) 0, .v (kI b) 0] [30] Try.func97 rfl rfl rfl ⟨rfl, rfl, rfl, trivial⟩ fun c => ?_
  have hwb : IntKind.i64.wrap ((b : Int) - 1) = ((b - 1 : Nat) : Int) := by rw [w64 (by omega) (by omega)]; omega
  refine a_loop hT [0, 6, 7] (fun x : Nat × Nat × Array Int => [.row (slV g d cap) 30, .v (kI x.1) 0, .v (kI x.2.1) 0]) (fun x => [(30, rowU (slV g d cap) x.2.2)]) (fun x => x.2.2.size = d.size ∧ reverseLoop x.1 x.2.1 x.2.2 = reverseRange d a b ∧ x.2.1 < b ∧ x.1 ≤ b) (fun x => x.2.1 - x.1) (a, b - 1, d) [30] rfl rfl ⟨rfl, rfl, by show b - 1 < b; omega, by show a ≤ b; omega⟩ ⟨rfl, rfl, by rw [hwb]; rfl, trivial⟩ rfl ⟨⟨rfl, rfl, rfl, rfl⟩, trivial⟩ ?_
  rintro ⟨i, j, e⟩ ⟨hs, he, hj, hi⟩
  dsimp only at hs he hj hi ⊢
  have hw1 : IntKind.i64.wrap ((i : Int) + 1) = ((i + 1 : Nat) : Int) := by rw [w64 (by omega) (by omega)]; omega
  refine a_if hT rfl rfl (fun h3 => ?_) (fun h3 => ?_)
  · have h3 := of_decide_eq_true h3
    have hw2 : IntKind.i64.wrap ((j : Int) - 1) = ((j - 1 : Nat) : Int) := by rw [w64 (by omega) (by omega)]; omega
    refine a_treeN hT [0, 6, 7] (fun _ : Unit => [.row (slV g d cap) 30, .v (kI i) 0, .v (kI j) 0]) (fun _ => [(30, rowU (slV g d cap) (swp e i j))]) (fun _ => True) [30] 16 [(0, false), (1, false), (2, false), (3, false), (4, false), (5, false), (6, false), (8, false), (9, false), (10, false)] rfl rfl (by kernel_rfl) (by kernel_rfl) rfl ?_ fun _ _ => ?_
    · refine a_rix hT (j) rfl rfl rfl rfl rfl rfl (by first | rfl | omega) (by omega) ?_
      refine a_rix hT (i) rfl rfl rfl rfl rfl rfl (by first | rfl | omega) (by omega) ?_
      refine a_alt hT [([(7, true), (11, true), (12, true), (13, true), (14, true), (15, true)], true), ([(11, true), (7, true), (12, true), (13, true), (14, true), (15, true)], true)] rfl rfl (by kernel_rfl) ⟨?_, ?_, trivial⟩
      · refine a_uld hT (j) (e) rfl rfl rfl rfl rfl rfl rfl (by first | omega | (simp only [Array.size_setIfInBounds, swp_size]; omega)) rfl ?_
        refine a_uld hT (i) (e) rfl rfl rfl rfl rfl rfl rfl (by first | omega | (simp only [Array.size_setIfInBounds, swp_size]; omega)) rfl ?_
        refine a_rix hT (i) rfl rfl rfl rfl rfl rfl (by first | rfl | omega) (by omega) ?_
        refine a_ust hT (i) (e) _ rfl rfl rfl rfl rfl rfl rfl rfl (by first | omega | (simp only [Array.size_setIfInBounds, swp_size]; omega)) rfl ?_
        refine a_rix hT (j) rfl rfl rfl rfl rfl rfl (by first | rfl | omega) (by omega) ?_
        refine a_ust hT (j) (Array.setIfInBounds e i e[j]!) _ rfl rfl rfl rfl rfl rfl rfl rfl (by first | omega | (simp only [Array.size_setIfInBounds, swp_size]; omega)) rfl ?_
        exact a_next hT () [30] rfl rfl trivial ⟨rfl, rfl, rfl, trivial⟩ rfl ⟨⟨rfl, rfl, rfl, rfl⟩, trivial⟩
      · refine a_uld hT (i) (e) rfl rfl rfl rfl rfl rfl rfl (by first | omega | (simp only [Array.size_setIfInBounds, swp_size]; omega)) rfl ?_
        refine a_uld hT (j) (e) rfl rfl rfl rfl rfl rfl rfl (by first | omega | (simp only [Array.size_setIfInBounds, swp_size]; omega)) rfl ?_
        refine a_rix hT (i) rfl rfl rfl rfl rfl rfl (by first | rfl | omega) (by omega) ?_
        refine a_ust hT (i) (e) _ rfl rfl rfl rfl rfl rfl rfl rfl (by first | omega | (simp only [Array.size_setIfInBounds, swp_size]; omega)) rfl ?_
        refine a_rix hT (j) rfl rfl rfl rfl rfl rfl (by first | rfl | omega) (by omega) ?_
        refine a_ust hT (j) (Array.setIfInBounds e i e[j]!) _ rfl rfl rfl rfl rfl rfl rfl rfl (by first | omega | (simp only [Array.size_setIfInBounds, swp_size]; omega)) rfl ?_
        exact a_next hT () [30] rfl rfl trivial ⟨rfl, rfl, rfl, trivial⟩ rfl ⟨⟨rfl, rfl, rfl, rfl⟩, trivial⟩
    · refine a_next hT (i + 1, j - 1, swp e i j) [30] rfl rfl ⟨⟨by rw [swp_size]; exact hs, ?_, by show j - 1 < b; omega, by show i + 1 ≤ b; omega⟩, by show j - 1 - (i + 1) < j - i; omega⟩ ⟨rfl, by show Value.int .i64 _ = Value.int .i64 _; rw [hw1], by show Value.int .i64 _ = Value.int .i64 _; rw [hw2], trivial⟩ rfl ⟨⟨rfl, rfl, rfl, rfl⟩, trivial⟩
      rw [← he]
      show _ = reverseLoop i j e
      conv => rhs; unfold reverseLoop
      rw [if_pos (by omega)]
  · have h3 := of_decide_eq_false h3
    have : e = reverseRange d a b := by rw [← he]; unfold reverseLoop; rw [if_neg (by omega)]
    refine a_end hT [30] rfl rfl rfl rfl rfl rfl ?_
    (show [rowU (slV g d cap) e] = _; rw [this])
theorem choose_eq {d : Array Int} {a b : Nat} (hl : 8 ≤ b - a) (hl2 : b - a < 50) : choosePivot ltInt d a b = ((median ltInt d (a + (b - a) / 4 * 1) (a + (b - a) / 4 * 2) (a + (b - a) / 4 * 3) 0).1, if (median ltInt d (a + (b - a) / 4 * 1) (a + (b - a) / 4 * 2) (a + (b - a) / 4 * 3) 0).2 = 0 then .increasing else if (median ltInt d (a + (b - a) / 4 * 1) (a + (b - a) / 4 * 2) (a + (b - a) / 4 * 3) 0).2 = 12 then .decreasing else .unknown) := by
  unfold choosePivot
  simp only [ge_iff_le, hl, if_true, show ¬ 50 ≤ b - a by omega, if_false]
theorem choose_spec {g cap : Nat} {d : Array Int} {a b h h1 h2 : Nat} (ha : a < b) (hb : b ≤ d.size) (hd : d.size < 1000000) (hl : 8 ≤ b - a) (hl2 : b - a < 50) : FSpec Try.prog 96 [.row (slV g d cap) h, .v (kI a) h1, .v (kI b) h2] [rowU (slV g d cap) d]
    fun r cs => (∃ hh : Int, r = .tup [.v (kI (choosePivot ltInt d a b).1) 0, .v (kI hh) 0] ∧ (hh = 1 ↔ (choosePivot ltInt d a b).2 = .increasing) ∧ (hh = 2 ↔ (choosePivot ltInt d a b).2 = .decreasing)) ∧ cs = [rowU (slV g d cap) d] := by
  refine a_enter hT [.row (slV g d cap) 30, .v (kI a) 0, .v (kI b) 0] [30] Try.func96 rfl rfl rfl ⟨rfl, rfl, rfl, trivial⟩ fun c => ?_
  have hwl : IntKind.i64.wrap ((b : Int) - a) = ((b - a : Nat) : Int) := by rw [w64 (by omega) (by omega)]; omega
  have ht : Int.tdiv ((b - a : Nat) : Int) 4 = (((b - a) / 4 : Nat) : Int) := rfl
  have hq : IntKind.i64.wrap (Int.tdiv (IntKind.i64.wrap ((b : Int) - a)) 4) = (((b - a) / 4 : Nat) : Int) := by rw [hwl, ht]; exact w64 (by omega) (by omega)
  have hi : IntKind.i64.wrap ((a : Int) + IntKind.i64.wrap (IntKind.i64.wrap (Int.tdiv (IntKind.i64.wrap ((b : Int) - a)) 4) * 1)) = ((a + (b - a) / 4 * 1 : Nat) : Int) := by rw [hq, w64 (x := (((b - a) / 4 : Nat) : Int) * 1) (by omega) (by omega), w64 (by omega) (by omega)]; omega
  have hj : IntKind.i64.wrap ((a : Int) + IntKind.i64.wrap (IntKind.i64.wrap (Int.tdiv (IntKind.i64.wrap ((b : Int) - a)) 4) * 2)) = ((a + (b - a) / 4 * 2 : Nat) : Int) := by rw [hq, w64 (x := (((b - a) / 4 : Nat) : Int) * 2) (by omega) (by omega), w64 (by omega) (by omega)]; omega
  have hk : IntKind.i64.wrap ((a : Int) + IntKind.i64.wrap (IntKind.i64.wrap (Int.tdiv (IntKind.i64.wrap ((b : Int) - a)) 4) * 3)) = ((a + (b - a) / 4 * 3 : Nat) : Int) := by rw [hq, w64 (x := (((b - a) / 4 : Nat) : Int) * 3) (by omega) (by omega), w64 (by omega) (by omega)]; omega
  refine a_new hT hZ 31 rfl rfl rfl rfl fun g1 => ?_
  refine a_bin hT _ rfl rfl rfl (by decide) rfl rfl (fun w => (bin_quo (by decide) w)) ?_
  refine a_bin hT _ rfl rfl rfl (by decide) rfl rfl (fun w => (bin_quo (by decide) w)) ?_
  refine a_bin hT _ rfl rfl rfl (by decide) rfl rfl (fun w => (bin_quo (by decide) w)) ?_
  refine a_if hT rfl rfl (fun h3 => ?_) (fun h3 => ?_)
  · have h3 := of_decide_eq_true h3
    refine a_if hT rfl rfl (fun h4 => ?_) (fun h4 => ?_)
    · have h4 := of_decide_eq_true h4
      (exfalso; first | omega | contradiction)
    · have h4 := of_decide_eq_false h4
      refine a_run hT 7 rfl rfl ?_
      rw [hi]
      rw [hj]
      rw [hk]
      refine a_call hT rfl rfl rfl (by kernel_rfl) (median_spec (s := 0) (by first | assumption | rfl | decide | omega | (dsimp only; omega)) (by first | assumption | rfl | decide | omega | (dsimp only; omega)) (by first | assumption | rfl | decide | omega | (dsimp only; omega)) (by first | assumption | rfl | decide | omega | (dsimp only; omega)) (by first | assumption | rfl | decide | omega | (dsimp only; omega))) [30, 31] [30, 31] rfl rfl ?_
      rintro _ _ ⟨rfl, rfl⟩
      refine a_if hT rfl rfl (fun h5 => ?_) (fun h5 => ?_)
      · have h5 := eq_of_beq h5
        refine a_ret hT [30] rfl rfl rfl rfl rfl rfl ?_
        have hz : (median ltInt d (a + (b - a) / 4 * 1) (a + (b - a) / 4 * 2) (a + (b - a) / 4 * 3) 0).2 = 0 := by omega
        rw [choose_eq hl hl2]
        rw [if_pos hz]
        exact ⟨⟨1, rfl, by simp, by simp⟩, rfl⟩
      · have h5 := ne_of_beq_false h5
        refine a_if hT rfl rfl (fun h6 => ?_) (fun h6 => ?_)
        · have h6 := eq_of_beq h6
          refine a_ret hT [30] rfl rfl rfl rfl rfl rfl ?_
          have hz : (median ltInt d (a + (b - a) / 4 * 1) (a + (b - a) / 4 * 2) (a + (b - a) / 4 * 3) 0).2 = 12 := by omega
          rw [choose_eq hl hl2]
          rw [hz, if_neg (by decide), if_pos rfl]
          exact ⟨⟨2, rfl, by simp, by simp⟩, rfl⟩
        · have h6 := ne_of_beq_false h6
          refine a_ret hT [30] rfl rfl rfl rfl rfl rfl ?_
          have hz : ¬ (median ltInt d (a + (b - a) / 4 * 1) (a + (b - a) / 4 * 2) (a + (b - a) / 4 * 3) 0).2 = 0 := by omega
          have hz2 : ¬ (median ltInt d (a + (b - a) / 4 * 1) (a + (b - a) / 4 * 2) (a + (b - a) / 4 * 3) 0).2 = 12 := by omega
          rw [choose_eq hl hl2]
          rw [if_neg hz, if_neg hz2]
          exact ⟨⟨0, rfl, by simp, by simp⟩, rfl⟩
  · have h3 := of_decide_eq_false h3
    (exfalso; first | omega | contradiction)
end Go.Proofs.Ytdconcindpfmcaa
end

section
/- slices.Sort of numbers: breakPatternsOrdered. -/
set_option linter.unusedVariables false
set_option linter.unusedSimpArgs false
set_option maxRecDepth 100000
set_option maxHeartbeats 4000000
namespace Go.Proofs.Ytdconcindpfmcaa
open V A Go.Sort
theorem wrapU_range (x : Int) : 0 ≤ IntKind.u64.wrap x ∧ IntKind.u64.wrap x < 18446744073709551616 := by
  unfold IntKind.wrap
  simp [IntKind.bits, IntKind.signed]
  omega
abbrev rndB (gs : Nat) (s : Int) : Chunk := .blk gs 169 [.v (kU s) 0]
theorem xnext_spec {gs h : Nat} {s : Int} : FSpec Try.prog 106 [.v (.pointer (some ⟨gs, 0, none⟩)) h] [rndB gs s]
    fun r cs => ∃ s' : Int, 0 ≤ s' ∧ s' < 18446744073709551616 ∧ r = .v (kU s') 0 ∧ cs = [rndB gs s'] := by
  refine a_enter hT [.v (.pointer (some ⟨gs, 0, none⟩)) 31] [31] Try.func106 rfl rfl rfl ⟨rfl, trivial⟩ fun c => ?_
  refine a_draw hT [] true [(0, false), (1, false), (2, false), (3, false), (4, false), (5, false), (6, false), (7, false), (8, false), (9, true)] rfl rfl (by kernel_rfl) (by kernel_rfl) rfl ?_
  refine a_bin hT _ rfl rfl rfl (by decide) rfl rfl (fun w => (bin_shl (by omega) w)) ?_
  refine a_bin hT _ rfl rfl rfl (by decide) rfl rfl (fun w => (bin_xor w)) ?_
  refine a_draw hT [] true [(0, false), (1, false), (2, false), (3, false), (4, false), (5, false), (6, false), (7, false), (8, false), (9, true)] rfl rfl (by kernel_rfl) (by kernel_rfl) rfl ?_
  refine a_bin hT _ rfl rfl rfl (by decide) rfl rfl (fun w => (bin_shr (by omega) w)) ?_
  refine a_bin hT _ rfl rfl rfl (by decide) rfl rfl (fun w => (bin_xor w)) ?_
  refine a_draw hT [] true [(0, false), (1, false), (2, false), (3, false), (4, false), (5, false), (6, false), (7, false), (8, false), (9, true)] rfl rfl (by kernel_rfl) (by kernel_rfl) rfl ?_
  refine a_bin hT _ rfl rfl rfl (by decide) rfl rfl (fun w => (bin_shl (by omega) w)) ?_
  refine a_bin hT _ rfl rfl rfl (by decide) rfl rfl (fun w => (bin_xor w)) ?_
  refine a_ret hT [31] rfl rfl rfl rfl rfl rfl ?_
  exact ⟨_, (wrapU_range _).1, (wrapU_range _).2, rfl, rfl⟩
theorem bitsLen_spec {n k h : Nat} (hn : n = 13 ∧ k = 4 ∨ n = 14 ∧ k = 4 ∨ n = 15 ∧ k = 4 ∨ n = 16 ∧ k = 5) : FSpec Try.prog 103 [.v (kU n) h] [] fun r cs => r = .v (kI k) 0 ∧ cs = [] := by
  rcases hn with ⟨rfl, rfl⟩ | ⟨rfl, rfl⟩ | ⟨rfl, rfl⟩ | ⟨rfl, rfl⟩
  · refine a_enter hT [.v (kU 13) 0] [] Try.func103 rfl rfl rfl ⟨rfl, trivial⟩ fun c => ?_
    refine a_f hT rfl rfl rfl ?_
    refine a_f hT rfl rfl rfl ?_
    refine a_f hT rfl rfl rfl ?_
    refine a_sx hT rfl rfl rfl rfl rfl rfl (by first | omega | decide) (by first | omega | decide) ?_
    refine a_ret hT [] rfl rfl rfl rfl rfl rfl ?_
    first | exact ⟨rfl, rfl⟩ | rfl
  · refine a_enter hT [.v (kU 14) 0] [] Try.func103 rfl rfl rfl ⟨rfl, trivial⟩ fun c => ?_
    refine a_f hT rfl rfl rfl ?_
    refine a_f hT rfl rfl rfl ?_
    refine a_f hT rfl rfl rfl ?_
    refine a_sx hT rfl rfl rfl rfl rfl rfl (by first | omega | decide) (by first | omega | decide) ?_
    refine a_ret hT [] rfl rfl rfl rfl rfl rfl ?_
    first | exact ⟨rfl, rfl⟩ | rfl
  · refine a_enter hT [.v (kU 15) 0] [] Try.func103 rfl rfl rfl ⟨rfl, trivial⟩ fun c => ?_
    refine a_f hT rfl rfl rfl ?_
    refine a_f hT rfl rfl rfl ?_
    refine a_f hT rfl rfl rfl ?_
    refine a_sx hT rfl rfl rfl rfl rfl rfl (by first | omega | decide) (by first | omega | decide) ?_
    refine a_ret hT [] rfl rfl rfl rfl rfl rfl ?_
    first | exact ⟨rfl, rfl⟩ | rfl
  · refine a_enter hT [.v (kU 16) 0] [] Try.func103 rfl rfl rfl ⟨rfl, trivial⟩ fun c => ?_
    refine a_f hT rfl rfl rfl ?_
    refine a_f hT rfl rfl rfl ?_
    refine a_f hT rfl rfl rfl ?_
    refine a_sx hT rfl rfl rfl rfl rfl rfl (by first | omega | decide) (by first | omega | decide) ?_
    refine a_ret hT [] rfl rfl rfl rfl rfl rfl ?_
    first | exact ⟨rfl, rfl⟩ | rfl
theorem len_spec' {n k h : Nat} (hn : n = 13 ∧ k = 4 ∨ n = 14 ∧ k = 4 ∨ n = 15 ∧ k = 4 ∨ n = 16 ∧ k = 5) : FSpec Try.prog 91 [.v (kU n) h] [] fun r cs => r = .v (kI k) 0 ∧ cs = [] := by
  refine a_enter hT [.v (kU n) 0] [] Try.func91 rfl rfl rfl ⟨rfl, trivial⟩ fun c => ?_
  refine a_f hT rfl rfl rfl ?_
  refine a_call hT rfl rfl rfl (by kernel_rfl) (bitsLen_spec hn) [] [] rfl rfl ?_
  rintro _ _ ⟨rfl, rfl⟩
  refine a_ret hT [] rfl rfl rfl rfl rfl rfl ?_
  first | exact ⟨rfl, rfl⟩ | rfl
theorem pow_spec {n k h : Nat} (hn : n = 13 ∧ k = 4 ∨ n = 14 ∧ k = 4 ∨ n = 15 ∧ k = 4 ∨ n = 16 ∧ k = 5) : FSpec Try.prog 105 [.v (kI n) h] [] fun r cs => r = .v (kU (2 ^ k : Nat)) 0 ∧ cs = [] := by
  have hw : IntKind.u64.wrap (n : Int) = n := wrapU (by omega) (by omega)
  refine a_enter hT [.v (kI n) 0] [] Try.func105 rfl rfl rfl ⟨rfl, trivial⟩ fun c => ?_
  refine a_run hT 9 rfl rfl ?_
  rw [hw]
  refine a_call hT rfl rfl rfl (by kernel_rfl) (len_spec' hn) [] [] rfl rfl ?_
  rintro _ _ ⟨rfl, rfl⟩
  refine a_bin hT _ rfl rfl rfl (by decide) rfl rfl (fun w => (bin_shl (by omega) w)) ?_
  refine a_ret hT [] rfl rfl rfl rfl rfl rfl ?_
  rcases hn with ⟨rfl, rfl⟩ | ⟨rfl, rfl⟩ | ⟨rfl, rfl⟩ | ⟨rfl, rfl⟩ <;> exact ⟨rfl, rfl⟩
theorem and_lt {x : Int} {m : Nat} (h1 : 1 ≤ m) (h2 : m ≤ 32) : ∃ o : Nat, IntKind.u64.wrap ((BitVec.ofInt IntKind.u64.bits x &&& BitVec.ofInt IntKind.u64.bits (IntKind.u64.wrap ((m : Int) - 1))).toNat : Int) = o ∧ o < m := by
  rw [wrapU (x := (m : Int) - 1) (by omega) (by omega)]
  have e : (BitVec.ofInt IntKind.u64.bits ((m : Int) - 1)).toNat = m - 1 := by
    rw [BitVec.toNat_ofInt]
    simp only [IntKind.bits]
    omega
  have hlt : (BitVec.ofInt IntKind.u64.bits x &&& BitVec.ofInt IntKind.u64.bits ((m : Int) - 1)).toNat < m := by
    rw [BitVec.toNat_and, e]
    have := Nat.and_le_right (n := (BitVec.ofInt IntKind.u64.bits x).toNat) (m := m - 1)
    omega
  exact ⟨_, wrapU (by omega) (by omega), hlt⟩
theorem break_spec {g cap : Nat} {d : Array Int} {a b h h1 h2 : Nat} (ha : a + 13 ≤ b) (hb2 : b ≤ a + 16) (hb : b ≤ d.size) (hd : d.size < 1000000) : FSpec Try.prog 95 [.row (slV g d cap) h, .v (kI a) h1, .v (kI b) h2] [rowU (slV g d cap) d]
    fun _ cs => ∃ d', PermIn a b d d' ∧ cs = [rowU (slV g d cap) d'] := by
  obtain ⟨k, hk5, hk⟩ : ∃ k, k ≤ 5 ∧ (b - a = 13 ∧ k = 4 ∨ b - a = 14 ∧ k = 4 ∨ b - a = 15 ∧ k = 4 ∨ b - a = 16 ∧ k = 5) := by
    rcases Nat.lt_or_ge (b - a) 16 with h | h
    · exact ⟨4, by decide, by omega⟩
    · exact ⟨5, by decide, by omega⟩
  have hk2 : 2 ^ k ≤ 2 * (b - a) ∧ 1 ≤ 2 ^ k ∧ 2 ^ k ≤ 32 := by rcases hk with ⟨h, rfl⟩ | ⟨h, rfl⟩ | ⟨h, rfl⟩ | ⟨h, rfl⟩ <;> omega
  have hwl : IntKind.i64.wrap ((b : Int) - a) = ((b - a : Nat) : Int) := by rw [w64 (by omega) (by omega)]; omega
  have ht : Int.tdiv ((b - a : Nat) : Int) 4 = (((b - a) / 4 : Nat) : Int) := rfl
  have hq : IntKind.i64.wrap (Int.tdiv (IntKind.i64.wrap ((b : Int) - a)) 4) = (((b - a) / 4 : Nat) : Int) := by rw [hwl, ht]; exact w64 (by omega) (by omega)
  have hi : IntKind.i64.wrap ((a : Int) + IntKind.i64.wrap (IntKind.i64.wrap (Int.tdiv (IntKind.i64.wrap ((b : Int) - a)) 4) * 2)) = ((a + (b - a) / 4 * 2 : Nat) : Int) := by rw [hq, w64 (x := (((b - a) / 4 : Nat) : Int) * 2) (by omega) (by omega), w64 (by omega) (by omega)]; omega
  refine a_enter hT [.row (slV g d cap) 30, .v (kI a) 0, .v (kI b) 0] [30] Try.func95 rfl rfl rfl ⟨rfl, rfl, rfl, trivial⟩ fun c => ?_
  refine a_if hT rfl rfl (fun h3 => ?_) (fun h3 => ?_)
  · have h3 := of_decide_eq_true h3
    refine a_new hT hZ 31 rfl rfl rfl rfl fun g1 => ?_
    refine a_run hT 6 rfl rfl ?_
    rw [hwl]
    refine a_call hT rfl rfl rfl (by kernel_rfl) (pow_spec hk) [] [] rfl rfl ?_
    rintro _ _ ⟨rfl, rfl⟩
    refine a_bin hT _ rfl rfl rfl (by decide) rfl rfl (fun w => (bin_quo (by decide) w)) ?_
    have hq2 : IntKind.i64.wrap (Int.tdiv ((b - a : Nat) : Int) 4) = (((b - a) / 4 : Nat) : Int) := by rw [ht]; exact w64 (by omega) (by omega)
    have hi2 : IntKind.i64.wrap ((a : Int) + IntKind.i64.wrap (IntKind.i64.wrap (Int.tdiv ((b - a : Nat) : Int) 4) * 2)) = ((a + (b - a) / 4 * 2 : Nat) : Int) := by rw [hq2, w64 (x := (((b - a) / 4 : Nat) : Int) * 2) (by omega) (by omega), w64 (by omega) (by omega)]; omega
    have hi3 : IntKind.i64.wrap (IntKind.i64.wrap ((a : Int) + IntKind.i64.wrap (IntKind.i64.wrap (Int.tdiv ((b - a : Nat) : Int) 4) * 2)) - 1) = ((a + (b - a) / 4 * 2 - 1 : Nat) : Int) := by rw [hi2, w64 (by omega) (by omega)]; omega
    have hi4 : IntKind.i64.wrap (IntKind.i64.wrap ((a : Int) + IntKind.i64.wrap (IntKind.i64.wrap (Int.tdiv ((b - a : Nat) : Int) 4) * 2)) + 1) = ((a + (b - a) / 4 * 2 + 1 : Nat) : Int) := by rw [hi2, w64 (by omega) (by omega)]; omega
    refine a_loop hT [0, 1, 6, 7, 8, 9] (fun x : Nat × Array Int × Int => [.row (slV g d cap) 30, .v (kI a) 0, .v (kI (b - a : Nat)) 0, .v (.pointer (some ⟨g1, 0, none⟩)) 31, .v (kU (2 ^ k : Nat)) 0, .v (kI x.1) 0]) (fun x => [(30, rowU (slV g d cap) x.2.1), (31, rndB g1 x.2.2)]) (fun x => x.2.1.size = d.size ∧ PermIn a b d x.2.1 ∧ a + (b - a) / 4 * 2 - 1 ≤ x.1 ∧ x.1 ≤ a + (b - a) / 4 * 2 + 2) (fun x => a + (b - a) / 4 * 2 + 2 - x.1) (a + (b - a) / 4 * 2 - 1, d, IntKind.u64.wrap ((b - a : Nat) : Int)) [30, 31] rfl rfl ⟨rfl, permIn_refl d a b, Nat.le_refl _, by show a + (b - a) / 4 * 2 - 1 ≤ a + (b - a) / 4 * 2 + 2; omega⟩ ⟨rfl, rfl, rfl, rfl, rfl, by rw [hi3]; rfl, trivial⟩ rfl ⟨⟨rfl, rfl, rfl, rfl⟩, ⟨rfl, rfl, ⟨rfl, trivial⟩⟩, trivial⟩ ?_
    rintro ⟨i, e, r⟩ ⟨hs, hp, hi5, hi6⟩
    dsimp only at hs hp hi5 hi6 ⊢
    have hw1 : IntKind.i64.wrap ((i : Int) + 1) = ((i + 1 : Nat) : Int) := by rw [w64 (by omega) (by omega)]; omega
    refine a_bin hT _ rfl rfl rfl (by decide) rfl rfl (fun w => (bin_quo (by decide) w)) ?_
    refine a_if hT rfl rfl (fun h3 => ?_) (fun h3 => ?_)
    · have h3 := of_decide_eq_true h3
      have h4 : (i : Int) ≤ IntKind.i64.wrap (IntKind.i64.wrap ((a : Int) + IntKind.i64.wrap (IntKind.i64.wrap (Int.tdiv ((b - a : Nat) : Int) 4) * 2)) + 1) := h3
      rw [hi4] at h4
      refine a_call hT rfl rfl rfl (by kernel_rfl) xnext_spec [31] [31] rfl rfl ?_
      rintro _ _ ⟨s', hr, hr1, rfl, rfl⟩
      refine a_bin hT _ rfl rfl rfl (by decide) rfl rfl (fun w => (bin_and w)) ?_
      obtain ⟨ot, ho, hol⟩ := and_lt (x := s') (m := 2 ^ k) hk2.2.1 hk2.2.2
      rw [ho]
      have ho2 : IntKind.i64.wrap (ot : Int) = ot := w64 (by omega) (by omega)
      refine a_if hT rfl rfl (fun h5 => ?_) (fun h5 => ?_)
      · have h5 := of_decide_eq_true h5
        have h5 : IntKind.i64.wrap (ot : Int) ≥ ((b - a : Nat) : Int) := h5
        have h7 : IntKind.i64.wrap (IntKind.i64.wrap (ot : Int) - ((b - a : Nat) : Int)) = ((ot - (b - a) : Nat) : Int) := by rw [ho2, w64 (by omega) (by omega)]; omega
        have h6 : IntKind.i64.wrap ((a : Int) + IntKind.i64.wrap (IntKind.i64.wrap (ot : Int) - ((b - a : Nat) : Int))) = ((a + (ot - (b - a)) : Nat) : Int) := by rw [w64 (by omega) (by omega)]; omega
        refine a_treeN hT [0, 1, 6, 7, 8, 9] (fun _ : Unit => [.row (slV g d cap) 30, .v (kI a) 0, .v (kI (b - a : Nat)) 0, .v (.pointer (some ⟨g1, 0, none⟩)) 31, .v (kU (2 ^ k : Nat)) 0, .v (kI i) 0]) (fun _ => [(30, rowU (slV g d cap) (swp e i (a + (ot - (b - a))))), (31, rndB g1 s')]) (fun _ => True) [30] 20 [(0, false), (1, false), (2, false), (3, false), (4, false), (5, false), (6, false), (7, false), (8, false), (9, false), (10, false), (12, false), (13, false), (14, false)] rfl rfl (by kernel_rfl) (by kernel_rfl) rfl ?_ fun _ _ => ?_
        · refine a_rix hT (a + (ot - (b - a))) rfl rfl rfl rfl rfl rfl (by first | rfl | omega) (by omega) ?_
          refine a_rix hT (i) rfl rfl rfl rfl rfl rfl (by first | rfl | omega) (by omega) ?_
          refine a_alt hT [([(11, true), (15, true), (16, true), (17, true), (18, true), (19, true)], true), ([(15, true), (11, true), (16, true), (17, true), (18, true), (19, true)], true)] rfl rfl (by kernel_rfl) ⟨?_, ?_, trivial⟩
          · refine a_uld hT (a + (ot - (b - a))) (e) rfl rfl rfl rfl rfl rfl rfl (by first | omega | (simp only [Array.size_setIfInBounds, swp_size]; omega)) rfl ?_
            refine a_uld hT (i) (e) rfl rfl rfl rfl rfl rfl rfl (by first | omega | (simp only [Array.size_setIfInBounds, swp_size]; omega)) rfl ?_
            refine a_rix hT (i) rfl rfl rfl rfl rfl rfl (by first | rfl | omega) (by omega) ?_
            refine a_ust hT (i) (e) _ rfl rfl rfl rfl rfl rfl rfl rfl (by first | omega | (simp only [Array.size_setIfInBounds, swp_size]; omega)) rfl ?_
            refine a_rix hT (a + (ot - (b - a))) rfl rfl rfl rfl rfl rfl (by first | rfl | omega) (by omega) ?_
            refine a_ust hT (a + (ot - (b - a))) (Array.setIfInBounds e i e[a + (ot - (b - a))]!) _ rfl rfl rfl rfl rfl rfl rfl rfl (by first | omega | (simp only [Array.size_setIfInBounds, swp_size]; omega)) rfl ?_
            exact a_next hT () [30, 31] rfl rfl trivial ⟨rfl, rfl, rfl, rfl, rfl, rfl, trivial⟩ rfl ⟨⟨rfl, rfl, rfl, rfl⟩, ⟨rfl, rfl, ⟨rfl, trivial⟩⟩, trivial⟩
          · refine a_uld hT (i) (e) rfl rfl rfl rfl rfl rfl rfl (by first | omega | (simp only [Array.size_setIfInBounds, swp_size]; omega)) rfl ?_
            refine a_uld hT (a + (ot - (b - a))) (e) rfl rfl rfl rfl rfl rfl rfl (by first | omega | (simp only [Array.size_setIfInBounds, swp_size]; omega)) rfl ?_
            refine a_rix hT (i) rfl rfl rfl rfl rfl rfl (by first | rfl | omega) (by omega) ?_
            refine a_ust hT (i) (e) _ rfl rfl rfl rfl rfl rfl rfl rfl (by first | omega | (simp only [Array.size_setIfInBounds, swp_size]; omega)) rfl ?_
            refine a_rix hT (a + (ot - (b - a))) rfl rfl rfl rfl rfl rfl (by first | rfl | omega) (by omega) ?_
            refine a_ust hT (a + (ot - (b - a))) (Array.setIfInBounds e i e[a + (ot - (b - a))]!) _ rfl rfl rfl rfl rfl rfl rfl rfl (by first | omega | (simp only [Array.size_setIfInBounds, swp_size]; omega)) rfl ?_
            exact a_next hT () [30, 31] rfl rfl trivial ⟨rfl, rfl, rfl, rfl, rfl, rfl, trivial⟩ rfl ⟨⟨rfl, rfl, rfl, rfl⟩, ⟨rfl, rfl, ⟨rfl, trivial⟩⟩, trivial⟩
        · refine a_next hT (i + 1, swp e i (a + (ot - (b - a))), s') [30, 31] rfl rfl ⟨⟨by rw [swp_size]; exact hs, permIn_trans _ _ _ _ _ hp (swp_permIn e a b i (a + (ot - (b - a))) (by omega) (by omega) (by omega) (by omega) (by omega)), by show _ ≤ i + 1; omega, by show i + 1 ≤ _; omega⟩, by show _ - (i + 1) < _ - i; omega⟩ ⟨rfl, rfl, rfl, rfl, rfl, by show Value.int .i64 _ = Value.int .i64 _; rw [hw1], trivial⟩ rfl ⟨⟨rfl, rfl, rfl, rfl⟩, ⟨rfl, rfl, ⟨rfl, trivial⟩⟩, trivial⟩
      · have h5 := of_decide_eq_false h5
        have h5 : ¬ IntKind.i64.wrap (ot : Int) ≥ ((b - a : Nat) : Int) := h5
        have h6 : IntKind.i64.wrap ((a : Int) + IntKind.i64.wrap (ot : Int)) = ((a + ot : Nat) : Int) := by rw [w64 (by omega) (by omega)]; omega
        refine a_treeN hT [0, 1, 6, 7, 8, 9] (fun _ : Unit => [.row (slV g d cap) 30, .v (kI a) 0, .v (kI (b - a : Nat)) 0, .v (.pointer (some ⟨g1, 0, none⟩)) 31, .v (kU (2 ^ k : Nat)) 0, .v (kI i) 0]) (fun _ => [(30, rowU (slV g d cap) (swp e i (a + ot))), (31, rndB g1 s')]) (fun _ => True) [30] 20 [(0, false), (1, false), (2, false), (3, false), (4, false), (5, false), (6, false), (7, false), (8, false), (9, false), (10, false), (12, false), (13, false), (14, false)] rfl rfl (by kernel_rfl) (by kernel_rfl) rfl ?_ fun _ _ => ?_
        · refine a_rix hT (a + ot) rfl rfl rfl rfl rfl rfl (by first | rfl | omega) (by omega) ?_
          refine a_rix hT (i) rfl rfl rfl rfl rfl rfl (by first | rfl | omega) (by omega) ?_
          refine a_alt hT [([(11, true), (15, true), (16, true), (17, true), (18, true), (19, true)], true), ([(15, true), (11, true), (16, true), (17, true), (18, true), (19, true)], true)] rfl rfl (by kernel_rfl) ⟨?_, ?_, trivial⟩
          · refine a_uld hT (a + ot) (e) rfl rfl rfl rfl rfl rfl rfl (by first | omega | (simp only [Array.size_setIfInBounds, swp_size]; omega)) rfl ?_
            refine a_uld hT (i) (e) rfl rfl rfl rfl rfl rfl rfl (by first | omega | (simp only [Array.size_setIfInBounds, swp_size]; omega)) rfl ?_
            refine a_rix hT (i) rfl rfl rfl rfl rfl rfl (by first | rfl | omega) (by omega) ?_
            refine a_ust hT (i) (e) _ rfl rfl rfl rfl rfl rfl rfl rfl (by first | omega | (simp only [Array.size_setIfInBounds, swp_size]; omega)) rfl ?_
            refine a_rix hT (a + ot) rfl rfl rfl rfl rfl rfl (by first | rfl | omega) (by omega) ?_
            refine a_ust hT (a + ot) (Array.setIfInBounds e i e[a + ot]!) _ rfl rfl rfl rfl rfl rfl rfl rfl (by first | omega | (simp only [Array.size_setIfInBounds, swp_size]; omega)) rfl ?_
            exact a_next hT () [30, 31] rfl rfl trivial ⟨rfl, rfl, rfl, rfl, rfl, rfl, trivial⟩ rfl ⟨⟨rfl, rfl, rfl, rfl⟩, ⟨rfl, rfl, ⟨rfl, trivial⟩⟩, trivial⟩
          · refine a_uld hT (i) (e) rfl rfl rfl rfl rfl rfl rfl (by first | omega | (simp only [Array.size_setIfInBounds, swp_size]; omega)) rfl ?_
            refine a_uld hT (a + ot) (e) rfl rfl rfl rfl rfl rfl rfl (by first | omega | (simp only [Array.size_setIfInBounds, swp_size]; omega)) rfl ?_
            refine a_rix hT (i) rfl rfl rfl rfl rfl rfl (by first | rfl | omega) (by omega) ?_
            refine a_ust hT (i) (e) _ rfl rfl rfl rfl rfl rfl rfl rfl (by first | omega | (simp only [Array.size_setIfInBounds, swp_size]; omega)) rfl ?_
            refine a_rix hT (a + ot) rfl rfl rfl rfl rfl rfl (by first | rfl | omega) (by omega) ?_
            refine a_ust hT (a + ot) (Array.setIfInBounds e i e[a + ot]!) _ rfl rfl rfl rfl rfl rfl rfl rfl (by first | omega | (simp only [Array.size_setIfInBounds, swp_size]; omega)) rfl ?_
            exact a_next hT () [30, 31] rfl rfl trivial ⟨rfl, rfl, rfl, rfl, rfl, rfl, trivial⟩ rfl ⟨⟨rfl, rfl, rfl, rfl⟩, ⟨rfl, rfl, ⟨rfl, trivial⟩⟩, trivial⟩
        · refine a_next hT (i + 1, swp e i (a + ot), s') [30, 31] rfl rfl ⟨⟨by rw [swp_size]; exact hs, permIn_trans _ _ _ _ _ hp (swp_permIn e a b i (a + ot) (by omega) (by omega) (by omega) (by omega) (by omega)), by show _ ≤ i + 1; omega, by show i + 1 ≤ _; omega⟩, by show _ - (i + 1) < _ - i; omega⟩ ⟨rfl, rfl, rfl, rfl, rfl, by show Value.int .i64 _ = Value.int .i64 _; rw [hw1], trivial⟩ rfl ⟨⟨rfl, rfl, rfl, rfl⟩, ⟨rfl, rfl, ⟨rfl, trivial⟩⟩, trivial⟩
    · refine a_end hT [30] rfl rfl rfl rfl rfl rfl ?_
      exact ⟨e, hp, rfl⟩
  · have h3 := of_decide_eq_false h3
    (exfalso; first | omega | contradiction)
end Go.Proofs.Ytdconcindpfmcaa
end

section
/- slices.Sort of numbers: partialInsertionSortOrdered, partitionOrdered. -/
set_option linter.unusedVariables false
set_option linter.unusedSimpArgs false
set_option maxRecDepth 100000
set_option maxHeartbeats 4000000
namespace Go.Proofs.Ytdconcindpfmcaa
open V A Go.Sort
theorem scanUp_step {p : Int → Bool} {d : Array Int} {i j : Nat} (h : i ≤ j) (hp : p d[i]! = true) : scanUp p d j i = scanUp p d j (i + 1) := by
  conv => lhs; unfold scanUp
  rw [if_pos (by simp [h, hp])]
theorem scanUp_stop {p : Int → Bool} {d : Array Int} {i j : Nat} (h : ¬ (i ≤ j ∧ p d[i]! = true)) : scanUp p d j i = i := by
  unfold scanUp
  rw [if_neg (by simpa using h)]
theorem scanDown_step {p : Int → Bool} {d : Array Int} {i j : Nat} (h1 : 1 ≤ i) (h : i ≤ j) (hp : p d[j]! = true) : scanDown p d i j = scanDown p d i (j - 1) := by
  obtain ⟨j, rfl⟩ : ∃ k, j = k + 1 := ⟨j - 1, by omega⟩
  conv => lhs; unfold scanDown
  rw [if_pos (by simp [h, hp])]
  rfl
theorem scanDown_stop {p : Int → Bool} {d : Array Int} {i j : Nat} (h : ¬ (i ≤ j ∧ p d[j]! = true)) : scanDown p d i j = j := by
  cases j with
  | zero => rfl
  | succ j =>
    unfold scanDown
    rw [if_neg (by simpa using h)]
theorem scanDown_ge {p : Int → Bool} {d : Array Int} {i a : Nat} (hi : a < i) : ∀ (j : Nat), a ≤ j → a ≤ scanDown p d i j
  | 0, h => h
  | j + 1, h => by
    unfold scanDown
    split
    · rename_i hc
      simp only [Bool.and_eq_true, decide_eq_true_eq] at hc
      exact scanDown_ge hi j (by omega)
    · exact h
theorem scanSorted_step {d : Array Int} {b i : Nat} (h : i < b) (hp : ¬ d[i]! < d[i - 1]!) : scanSorted ltInt d b i = scanSorted ltInt d b (i + 1) := by
  conv => lhs; unfold scanSorted
  rw [if_pos (by unfold ltInt; simp only [Bool.and_eq_true, decide_eq_true_eq, Bool.not_eq_true', decide_eq_false_iff_not]; exact ⟨h, hp⟩)]
theorem scanSorted_stop {d : Array Int} {b i : Nat} (h : ¬ (i < b ∧ ¬ d[i]! < d[i - 1]!)) : scanSorted ltInt d b i = i := by
  unfold scanSorted
  rw [if_neg (by unfold ltInt; simpa using h)]
theorem partialIns_spec {g cap : Nat} {d : Array Int} {a b h h1 h2 : Nat} (ha : a < b) (hl : b - a < 50) (hb : b ≤ d.size) (hd : d.size < 1000000) : FSpec Try.prog 98 [.row (slV g d cap) h, .v (kI a) h1, .v (kI b) h2] [rowU (slV g d cap) d]
    fun r cs => r = bA (partialInsertionSort ltInt d a b).2 ∧ (partialInsertionSort ltInt d a b).1 = d ∧ cs = [rowU (slV g d cap) d] := by
  have hw1 : IntKind.i64.wrap ((a : Int) + 1) = ((a + 1 : Nat) : Int) := by rw [w64 (by omega) (by omega)]; omega
  have hwl : IntKind.i64.wrap ((b : Int) - a) = ((b - a : Nat) : Int) := by rw [w64 (by omega) (by omega)]; omega
  refine a_enter hT [.row (slV g d cap) 30, .v (kI a) 0, .v (kI b) 0] [30] Try.func98 rfl rfl rfl ⟨rfl, rfl, rfl, trivial⟩ fun c => ?_
  refine a_loop hT [0, 1, 2, 7, 8] (fun _ : Unit => [.row (slV g d cap) 30, .v (kI a) 0, .v (kI b) 0, .v (kI (a + 1 : Nat)) 0, .v (kI 0) 0]) (fun _ => [(30, rowU (slV g d cap) d)]) (fun _ => True) (fun _ => 0) () [30] rfl rfl trivial ⟨rfl, rfl, rfl, by rw [hw1]; rfl, rfl, trivial⟩ rfl ⟨⟨rfl, rfl, rfl, rfl⟩, trivial⟩ fun _ _ => ?_
  refine a_t hT rfl rfl rfl ?_
  refine a_cutM hT [0, 1, 2, 7] (fun i : Nat => [.row (slV g d cap) 30, .v (kI a) 0, .v (kI b) 0, .v (kI i) 0]) (fun _ => [(30, rowU (slV g d cap) d)]) (fun i => i = scanSorted ltInt d b (a + 1)) 4 rfl rfl ?_ fun i hi => ?_
  · refine a_loop hT [0, 1, 2, 7] (fun i : Nat => [.row (slV g d cap) 30, .v (kI a) 0, .v (kI b) 0, .v (kI i) 0]) (fun _ => [(30, rowU (slV g d cap) d)]) (fun i => scanSorted ltInt d b i = scanSorted ltInt d b (a + 1) ∧ a + 1 ≤ i ∧ i ≤ b) (fun i => b - i) (a + 1) [30] rfl rfl ⟨rfl, Nat.le_refl _, ha⟩ ⟨rfl, rfl, rfl, rfl, trivial⟩ rfl ⟨⟨rfl, rfl, rfl, rfl⟩, trivial⟩ ?_
    rintro i ⟨hs, hi1, hi2⟩
    have hwi : IntKind.i64.wrap ((i : Int) + 1) = ((i + 1 : Nat) : Int) := by rw [w64 (by omega) (by omega)]; omega
    have hwj : IntKind.i64.wrap ((i : Int) - 1) = ((i - 1 : Nat) : Int) := by rw [w64 (by omega) (by omega)]; omega
    refine a_drawX hT [] 13 [(0, false), (1, false), (2, false), (3, false), (4, false), (5, false), (6, false), (7, false), (8, false), (9, false), (10, false), (11, false), (12, false), (13, true)] rfl rfl (by kernel_rfl) (by kernel_rfl) rfl ?_
    refine a_g hT rfl rfl rfl (fun h3 => ?_) (fun h3 => ?_)
    · have h3 := of_decide_eq_true h3
      refine a_rix hT (i) rfl rfl rfl rfl rfl rfl (by first | rfl | omega) (by omega) ?_
      refine a_uldP hT (i) (d) rfl rfl rfl rfl rfl rfl rfl (by first | omega | (simp only [Array.size_setIfInBounds, swp_size]; omega)) rfl ?_
      refine a_rix hT (i - 1) rfl rfl rfl rfl rfl rfl (by first | rfl | omega) (by omega) ?_
      refine a_uldP hT (i - 1) (d) rfl rfl rfl rfl rfl rfl rfl (by first | omega | (simp only [Array.size_setIfInBounds, swp_size]; omega)) rfl ?_
      refine a_callF hT rfl rfl rfl (by kernel_rfl) (uless_spec (h := 0) (h1 := 0)) [] [] ⟨rfl, rfl, trivial⟩ rfl trivial ?_
      rintro _ _ ⟨rfl, rfl⟩
      refine a_rest hT [(14, true), (15, true)] rfl rfl (by kernel_rfl) ?_
      refine a_if hT rfl rfl (fun h4 => ?_) (fun h4 => ?_)
      · simp at h4
        exact a_next hT (i + 1) [30] rfl rfl ⟨⟨(scanSorted_step (by omega) (by first | assumption | omega | simp_all)).symm.trans hs, by omega, by omega⟩, by omega⟩ ⟨rfl, rfl, rfl, by show Value.int .i64 _ = Value.int .i64 _; rw [hwi], trivial⟩ rfl ⟨⟨rfl, rfl, rfl, rfl⟩, trivial⟩
      · simp at h4
        exact a_next hT i [30] rfl rfl ((scanSorted_stop (by rintro ⟨_, h⟩; first | exact h (by assumption) | omega | simp_all)).symm.trans hs) ⟨rfl, rfl, rfl, rfl, trivial⟩ rfl ⟨⟨rfl, rfl, rfl, rfl⟩, trivial⟩
    · have h3 := of_decide_eq_false h3
      refine a_rest hT [(14, true), (15, true)] rfl rfl (by kernel_rfl) ?_
      refine a_f hT rfl rfl rfl ?_
      exact a_next hT i [30] rfl rfl ((scanSorted_stop (by rintro ⟨h, _⟩; omega)).symm.trans hs) ⟨rfl, rfl, rfl, rfl, trivial⟩ rfl ⟨⟨rfl, rfl, rfl, rfl⟩, trivial⟩
  · subst hi
    refine a_if hT rfl rfl (fun h3 => ?_) (fun h3 => ?_)
    · have h3 := eq_of_beq h3
      refine a_ret hT [30] rfl rfl rfl rfl rfl rfl ?_
      have e : partialInsertionSort ltInt d a b = (d, true) := by unfold partialInsertionSort partialIns; simp only; rw [if_pos (by omega)]
      rw [e]; exact ⟨rfl, rfl, rfl⟩
    · have h3 := ne_of_beq_false h3
      refine a_if hT rfl rfl (fun h4 => ?_) (fun h4 => ?_)
      · have h4 := of_decide_eq_true h4
        refine a_ret hT [30] rfl rfl rfl rfl rfl rfl ?_
        have e : partialInsertionSort ltInt d a b = (d, false) := by unfold partialInsertionSort partialIns; simp only; rw [if_neg (by omega), if_pos (by omega)]
        rw [e]; exact ⟨rfl, rfl, rfl⟩
      · have h4 := of_decide_eq_false h4
        (exfalso; first | omega | contradiction)
theorem partition_spec {g cap : Nat} {d : Array Int} {a b p h h1 h2 h3 : Nat} (ha : a ≤ p) (hp : p < b) (hb : b ≤ d.size) (hd : d.size < 1000000) : FSpec Try.prog 101 [.row (slV g d cap) h, .v (kI a) h1, .v (kI b) h2, .v (kI p) h3] [rowU (slV g d cap) d]
    fun r cs => r = .tup [.v (kI (Go.Sort.partition ltInt d a b p).1) 0, bA (Go.Sort.partition ltInt d a b p).2.1] ∧ cs = [rowU (slV g d cap) (Go.Sort.partition ltInt d a b p).2.2] := by
  have hw1 : IntKind.i64.wrap ((a : Int) + 1) = ((a + 1 : Nat) : Int) := by rw [w64 (by omega) (by omega)]; omega
  have hwb : IntKind.i64.wrap ((b : Int) - 1) = ((b - 1 : Nat) : Int) := by rw [w64 (by omega) (by omega)]; omega
  refine a_enter hT [.row (slV g d cap) 30, .v (kI a) 0, .v (kI b) 0, .v (kI p) 0] [30] Try.func101 rfl rfl rfl ⟨rfl, rfl, rfl, rfl, trivial⟩ fun c => ?_
  refine a_treeN hT [0, 1, 2] (fun _ : Unit => [.row (slV g d cap) 30, .v (kI ↑a) 0, .v (kI ↑b) 0]) (fun _ => [(30, rowU (slV g d cap) (swp d a p))]) (fun _ => True) [30] 16 [(0, false), (1, false), (2, false), (3, false), (4, false), (5, false), (6, false), (8, false), (9, false), (10, false)] rfl rfl (by kernel_rfl) (by kernel_rfl) rfl ?_ fun _ _ => ?_
  · refine a_rix hT (p) rfl rfl rfl rfl rfl rfl (by first | rfl | omega) (by omega) ?_
    refine a_rix hT (a) rfl rfl rfl rfl rfl rfl (by first | rfl | omega) (by omega) ?_
    refine a_alt hT [([(7, true), (11, true), (12, true), (13, true), (14, true), (15, true)], true), ([(11, true), (7, true), (12, true), (13, true), (14, true), (15, true)], true)] rfl rfl (by kernel_rfl) ⟨?_, ?_, trivial⟩
    · refine a_uld hT (p) (d) rfl rfl rfl rfl rfl rfl rfl (by first | omega | (simp only [Array.size_setIfInBounds, swp_size]; omega)) rfl ?_
      refine a_uld hT (a) (d) rfl rfl rfl rfl rfl rfl rfl (by first | omega | (simp only [Array.size_setIfInBounds, swp_size]; omega)) rfl ?_
      refine a_rix hT (a) rfl rfl rfl rfl rfl rfl (by first | rfl | omega) (by omega) ?_
      refine a_ust hT (a) (d) _ rfl rfl rfl rfl rfl rfl rfl rfl (by first | omega | (simp only [Array.size_setIfInBounds, swp_size]; omega)) rfl ?_
      refine a_rix hT (p) rfl rfl rfl rfl rfl rfl (by first | rfl | omega) (by omega) ?_
      refine a_ust hT (p) (Array.setIfInBounds d a d[p]!) _ rfl rfl rfl rfl rfl rfl rfl rfl (by first | omega | (simp only [Array.size_setIfInBounds, swp_size]; omega)) rfl ?_
      exact a_next hT () [30] rfl rfl trivial ⟨rfl, rfl, rfl, trivial⟩ rfl ⟨⟨rfl, rfl, rfl, rfl⟩, trivial⟩
    · refine a_uld hT (a) (d) rfl rfl rfl rfl rfl rfl rfl (by first | omega | (simp only [Array.size_setIfInBounds, swp_size]; omega)) rfl ?_
      refine a_uld hT (p) (d) rfl rfl rfl rfl rfl rfl rfl (by first | omega | (simp only [Array.size_setIfInBounds, swp_size]; omega)) rfl ?_
      refine a_rix hT (a) rfl rfl rfl rfl rfl rfl (by first | rfl | omega) (by omega) ?_
      refine a_ust hT (a) (d) _ rfl rfl rfl rfl rfl rfl rfl rfl (by first | omega | (simp only [Array.size_setIfInBounds, swp_size]; omega)) rfl ?_
      refine a_rix hT (p) rfl rfl rfl rfl rfl rfl (by first | rfl | omega) (by omega) ?_
      refine a_ust hT (p) (Array.setIfInBounds d a d[p]!) _ rfl rfl rfl rfl rfl rfl rfl rfl (by first | omega | (simp only [Array.size_setIfInBounds, swp_size]; omega)) rfl ?_
      exact a_next hT () [30] rfl rfl trivial ⟨rfl, rfl, rfl, trivial⟩ rfl ⟨⟨rfl, rfl, rfl, rfl⟩, trivial⟩
  · refine a_cutM hT [0, 1, 10, 11] (fun i : Nat => [.row (slV g d cap) 30, .v (kI a) 0, .v (kI i) 0, .v (kI (b - 1 : Nat)) 0]) (fun _ => [(30, rowU (slV g d cap) (swp d a p))]) (fun i => i = scanUp (fun x => ltInt x (swp d a p)[a]!) (swp d a p) (b - 1) (a + 1)) 11 rfl rfl ?_ fun i hi => ?_
    · refine a_loop hT [0, 1, 10, 11] (fun i : Nat => [.row (slV g d cap) 30, .v (kI a) 0, .v (kI i) 0, .v (kI (b - 1 : Nat)) 0]) (fun _ => [(30, rowU (slV g d cap) (swp d a p))]) (fun i => scanUp (fun x => ltInt x (swp d a p)[a]!) (swp d a p) (b - 1) i = scanUp (fun x => ltInt x (swp d a p)[a]!) (swp d a p) (b - 1) (a + 1) ∧ a + 1 ≤ i ∧ i ≤ b) (fun i => b - i) (a + 1) [30] rfl rfl ⟨rfl, Nat.le_refl _, by omega⟩ ⟨rfl, rfl, by rw [hw1]; rfl, by rw [hwb]; rfl, trivial⟩ rfl ⟨⟨rfl, rfl, rfl, rfl⟩, trivial⟩ ?_
      rintro i ⟨hs, hi1, hi2⟩
      have hz := swp_size d a p
      have hwi : IntKind.i64.wrap ((i : Int) + 1) = ((i + 1 : Nat) : Int) := by rw [w64 (by omega) (by omega)]; omega
      refine a_drawX hT [] 12 [(0, false), (1, false), (2, false), (3, false), (4, false), (5, false), (6, false), (7, false), (8, false), (9, false), (10, false), (11, false), (12, true)] rfl rfl (by kernel_rfl) (by kernel_rfl) rfl ?_
      refine a_g hT rfl rfl rfl (fun h4 => ?_) (fun h4 => ?_)
      · have h4 := of_decide_eq_true h4
        refine a_rix hT (i) rfl rfl rfl rfl rfl rfl (by first | rfl | omega) (by omega) ?_
        refine a_uldP hT (i) (swp d a p) rfl rfl rfl rfl rfl rfl rfl (by first | omega | (simp only [Array.size_setIfInBounds, swp_size]; omega)) rfl ?_
        refine a_rix hT (a) rfl rfl rfl rfl rfl rfl (by first | rfl | omega) (by omega) ?_
        refine a_uldP hT (a) (swp d a p) rfl rfl rfl rfl rfl rfl rfl (by first | omega | (simp only [Array.size_setIfInBounds, swp_size]; omega)) rfl ?_
        refine a_callF hT rfl rfl rfl (by kernel_rfl) (uless_spec (h := 0) (h1 := 0)) [] [] ⟨rfl, rfl, trivial⟩ rfl trivial ?_
        rintro _ _ ⟨rfl, rfl⟩
        refine a_rest hT [(13, true)] rfl rfl (by kernel_rfl) ?_
        refine a_if hT rfl rfl (fun h5 => ?_) (fun h5 => ?_)
        · have h5 := of_decide_eq_true h5
          exact a_next hT (i + 1) [30] rfl rfl ⟨⟨(scanUp_step (by omega) (by unfold ltInt; exact decide_eq_true (by assumption))).symm.trans hs, by omega, by omega⟩, by omega⟩ ⟨rfl, rfl, by show Value.int .i64 _ = Value.int .i64 _; rw [hwi], rfl, trivial⟩ rfl ⟨⟨rfl, rfl, rfl, rfl⟩, trivial⟩
        · have h5 := of_decide_eq_false h5
          exact a_next hT i [30] rfl rfl ((scanUp_stop (by rintro ⟨_, h⟩; unfold ltInt at h; have h := of_decide_eq_true h; omega)).symm.trans hs) ⟨rfl, rfl, rfl, rfl, trivial⟩ rfl ⟨⟨rfl, rfl, rfl, rfl⟩, trivial⟩
      · have h4 := of_decide_eq_false h4
        refine a_rest hT [(13, true)] rfl rfl (by kernel_rfl) ?_
        refine a_f hT rfl rfl rfl ?_
        exact a_next hT i [30] rfl rfl ((scanUp_stop (by rintro ⟨h, _⟩; omega)).symm.trans hs) ⟨rfl, rfl, rfl, rfl, trivial⟩ rfl ⟨⟨rfl, rfl, rfl, rfl⟩, trivial⟩
    · have hz := swp_size d a p
      have hup := scanUp_ge (fun x => ltInt x (swp d a p)[a]!) (swp d a p) (b - 1) (a + 1)
      rw [← hi] at hup
      refine a_cutM hT [0, 1, 10, 11] (fun j : Nat => [.row (slV g d cap) 30, .v (kI a) 0, .v (kI i) 0, .v (kI j) 0]) (fun _ => [(30, rowU (slV g d cap) (swp d a p))]) (fun j => j = scanDown (fun x => !ltInt x (swp d a p)[a]!) (swp d a p) i (b - 1)) 0 rfl rfl ?_ fun j hj => ?_
      · refine a_loop hT [0, 1, 10, 11] (fun j : Nat => [.row (slV g d cap) 30, .v (kI a) 0, .v (kI i) 0, .v (kI j) 0]) (fun _ => [(30, rowU (slV g d cap) (swp d a p))]) (fun j => scanDown (fun x => !ltInt x (swp d a p)[a]!) (swp d a p) i j = scanDown (fun x => !ltInt x (swp d a p)[a]!) (swp d a p) i (b - 1) ∧ j ≤ b - 1) (fun j => j) (b - 1) [30] rfl rfl ⟨rfl, Nat.le_refl _⟩ ⟨rfl, rfl, rfl, rfl, trivial⟩ rfl ⟨⟨rfl, rfl, rfl, rfl⟩, trivial⟩ ?_
        rintro j ⟨hs, hj1⟩
        have hwj : 1 ≤ j → IntKind.i64.wrap ((j : Int) - 1) = ((j - 1 : Nat) : Int) := fun h => by rw [w64 (by omega) (by omega)]; omega
        refine a_drawX hT [] 12 [(0, false), (1, false), (2, false), (3, false), (4, false), (5, false), (6, false), (7, false), (8, false), (9, false), (10, false), (11, false), (12, true)] rfl rfl (by kernel_rfl) (by kernel_rfl) rfl ?_
        refine a_g hT rfl rfl rfl (fun h4 => ?_) (fun h4 => ?_)
        · have h4 := of_decide_eq_true h4
          refine a_rix hT (j) rfl rfl rfl rfl rfl rfl (by first | rfl | omega) (by omega) ?_
          refine a_uldP hT (j) (swp d a p) rfl rfl rfl rfl rfl rfl rfl (by first | omega | (simp only [Array.size_setIfInBounds, swp_size]; omega)) rfl ?_
          refine a_rix hT (a) rfl rfl rfl rfl rfl rfl (by first | rfl | omega) (by omega) ?_
          refine a_uldP hT (a) (swp d a p) rfl rfl rfl rfl rfl rfl rfl (by first | omega | (simp only [Array.size_setIfInBounds, swp_size]; omega)) rfl ?_
          refine a_callF hT rfl rfl rfl (by kernel_rfl) (uless_spec (h := 0) (h1 := 0)) [] [] ⟨rfl, rfl, trivial⟩ rfl trivial ?_
          rintro _ _ ⟨rfl, rfl⟩
          refine a_rest hT [(13, true), (14, true)] rfl rfl (by kernel_rfl) ?_
          refine a_if hT rfl rfl (fun h5 => ?_) (fun h5 => ?_)
          · simp at h5
            exact a_next hT (j - 1) [30] rfl rfl ⟨⟨(scanDown_step (by omega) (by omega) (by unfold ltInt; simp only [Bool.not_eq_true', decide_eq_false_iff_not]; omega)).symm.trans hs, by omega⟩, by omega⟩ ⟨rfl, rfl, rfl, by show Value.int .i64 _ = Value.int .i64 _; rw [hwj (by omega)], trivial⟩ rfl ⟨⟨rfl, rfl, rfl, rfl⟩, trivial⟩
          · simp at h5
            exact a_next hT j [30] rfl rfl ((scanDown_stop (by rintro ⟨_, h⟩; unfold ltInt at h; simp only [Bool.not_eq_true', decide_eq_false_iff_not] at h; omega)).symm.trans hs) ⟨rfl, rfl, rfl, rfl, trivial⟩ rfl ⟨⟨rfl, rfl, rfl, rfl⟩, trivial⟩
        · have h4 := of_decide_eq_false h4
          refine a_rest hT [(13, true), (14, true)] rfl rfl (by kernel_rfl) ?_
          refine a_f hT rfl rfl rfl ?_
          exact a_next hT j [30] rfl rfl ((scanDown_stop (by rintro ⟨h, _⟩; omega)).symm.trans hs) ⟨rfl, rfl, rfl, rfl, trivial⟩ rfl ⟨⟨rfl, rfl, rfl, rfl⟩, trivial⟩
      · have hdn := scanDown_le (fun x => !ltInt x (swp d a p)[a]!) (swp d a p) i (b - 1)
        rw [← hj] at hdn
        refine a_if hT rfl rfl (fun h4 => ?_) (fun h4 => ?_)
        · have h4 := of_decide_eq_true h4
          have hja : a ≤ j := by
            have := scanDown_ge (p := fun x => !ltInt x (swp d a p)[a]!) (d := swp d a p) (i := i) (a := a) (by omega) (b - 1) (by omega)
            rw [← hj] at this
            exact this
          have ep : Go.Sort.partition ltInt d a b p = (j, true, swp (swp d a p) j a) := by
            unfold Go.Sort.partition
            simp only
            rw [← hi, ← hj, if_pos (by omega)]
          rw [ep]
          refine a_treeN hT [0, 1, 10, 11] (fun _ : Unit => [.row (slV g d cap) 30, .v (kI ↑a) 0, .v (kI ↑i) 0, .v (kI ↑j) 0]) (fun _ => [(30, rowU (slV g d cap) (swp (swp d a p) j a))]) (fun _ => True) [30] 16 [(0, false), (1, false), (2, false), (3, false), (4, false), (5, false), (6, false), (8, false), (9, false), (10, false)] rfl rfl (by kernel_rfl) (by kernel_rfl) rfl ?_ fun _ _ => ?_
          · refine a_rix hT (a) rfl rfl rfl rfl rfl rfl (by first | rfl | omega) (by omega) ?_
            refine a_rix hT (j) rfl rfl rfl rfl rfl rfl (by first | rfl | omega) (by omega) ?_
            refine a_alt hT [([(7, true), (11, true), (12, true), (13, true), (14, true), (15, true)], true), ([(11, true), (7, true), (12, true), (13, true), (14, true), (15, true)], true)] rfl rfl (by kernel_rfl) ⟨?_, ?_, trivial⟩
            · refine a_uld hT (a) (swp d a p) rfl rfl rfl rfl rfl rfl rfl (by first | omega | (simp only [Array.size_setIfInBounds, swp_size]; omega)) rfl ?_
              refine a_uld hT (j) (swp d a p) rfl rfl rfl rfl rfl rfl rfl (by first | omega | (simp only [Array.size_setIfInBounds, swp_size]; omega)) rfl ?_
              refine a_rix hT (j) rfl rfl rfl rfl rfl rfl (by first | rfl | omega) (by omega) ?_
              refine a_ust hT (j) (swp d a p) _ rfl rfl rfl rfl rfl rfl rfl rfl (by first | omega | (simp only [Array.size_setIfInBounds, swp_size]; omega)) rfl ?_
              refine a_rix hT (a) rfl rfl rfl rfl rfl rfl (by first | rfl | omega) (by omega) ?_
              refine a_ust hT (a) (Array.setIfInBounds (swp d a p) j (swp d a p)[a]!) _ rfl rfl rfl rfl rfl rfl rfl rfl (by first | omega | (simp only [Array.size_setIfInBounds, swp_size]; omega)) rfl ?_
              exact a_next hT () [30] rfl rfl trivial ⟨rfl, rfl, rfl, rfl, trivial⟩ rfl ⟨⟨rfl, rfl, rfl, rfl⟩, trivial⟩
            · refine a_uld hT (j) (swp d a p) rfl rfl rfl rfl rfl rfl rfl (by first | omega | (simp only [Array.size_setIfInBounds, swp_size]; omega)) rfl ?_
              refine a_uld hT (a) (swp d a p) rfl rfl rfl rfl rfl rfl rfl (by first | omega | (simp only [Array.size_setIfInBounds, swp_size]; omega)) rfl ?_
              refine a_rix hT (j) rfl rfl rfl rfl rfl rfl (by first | rfl | omega) (by omega) ?_
              refine a_ust hT (j) (swp d a p) _ rfl rfl rfl rfl rfl rfl rfl rfl (by first | omega | (simp only [Array.size_setIfInBounds, swp_size]; omega)) rfl ?_
              refine a_rix hT (a) rfl rfl rfl rfl rfl rfl (by first | rfl | omega) (by omega) ?_
              refine a_ust hT (a) (Array.setIfInBounds (swp d a p) j (swp d a p)[a]!) _ rfl rfl rfl rfl rfl rfl rfl rfl (by first | omega | (simp only [Array.size_setIfInBounds, swp_size]; omega)) rfl ?_
              exact a_next hT () [30] rfl rfl trivial ⟨rfl, rfl, rfl, rfl, trivial⟩ rfl ⟨⟨rfl, rfl, rfl, rfl⟩, trivial⟩
          · refine a_ret hT [30] rfl rfl rfl rfl rfl rfl ?_
            first | exact ⟨rfl, rfl⟩ | rfl
        · have h4 := of_decide_eq_false h4
          have hz2 := swp_size (swp d a p) i j
          have ep : Go.Sort.partition ltInt d a b p = ((partLoop ltInt a (i + 1) (j - 1) (swp (swp d a p) i j)).1, false, swp (partLoop ltInt a (i + 1) (j - 1) (swp (swp d a p) i j)).2 (partLoop ltInt a (i + 1) (j - 1) (swp (swp d a p) i j)).1 a) := by
            unfold Go.Sort.partition
            simp only
            rw [← hi, ← hj, if_neg (by omega)]
          rw [ep]
          have hwi : IntKind.i64.wrap ((i : Int) + 1) = ((i + 1 : Nat) : Int) := by rw [w64 (by omega) (by omega)]; omega
          have hwj : IntKind.i64.wrap ((j : Int) - 1) = ((j - 1 : Nat) : Int) := by rw [w64 (by omega) (by omega)]; omega
          refine a_treeN hT [0, 1, 10, 11] (fun _ : Unit => [.row (slV g d cap) 30, .v (kI ↑a) 0, .v (kI ↑i) 0, .v (kI ↑j) 0]) (fun _ => [(30, rowU (slV g d cap) (swp (swp d a p) i j))]) (fun _ => True) [30] 16 [(0, false), (1, false), (2, false), (3, false), (4, false), (5, false), (6, false), (8, false), (9, false), (10, false)] rfl rfl (by kernel_rfl) (by kernel_rfl) rfl ?_ fun _ _ => ?_
          · refine a_rix hT (j) rfl rfl rfl rfl rfl rfl (by first | rfl | omega) (by omega) ?_
            refine a_rix hT (i) rfl rfl rfl rfl rfl rfl (by first | rfl | omega) (by omega) ?_
            refine a_alt hT [([(7, true), (11, true), (12, true), (13, true), (14, true), (15, true)], true), ([(11, true), (7, true), (12, true), (13, true), (14, true), (15, true)], true)] rfl rfl (by kernel_rfl) ⟨?_, ?_, trivial⟩
            · refine a_uld hT (j) (swp d a p) rfl rfl rfl rfl rfl rfl rfl (by first | omega | (simp only [Array.size_setIfInBounds, swp_size]; omega)) rfl ?_
              refine a_uld hT (i) (swp d a p) rfl rfl rfl rfl rfl rfl rfl (by first | omega | (simp only [Array.size_setIfInBounds, swp_size]; omega)) rfl ?_
              refine a_rix hT (i) rfl rfl rfl rfl rfl rfl (by first | rfl | omega) (by omega) ?_
              refine a_ust hT (i) (swp d a p) _ rfl rfl rfl rfl rfl rfl rfl rfl (by first | omega | (simp only [Array.size_setIfInBounds, swp_size]; omega)) rfl ?_
              refine a_rix hT (j) rfl rfl rfl rfl rfl rfl (by first | rfl | omega) (by omega) ?_
              refine a_ust hT (j) (Array.setIfInBounds (swp d a p) i (swp d a p)[j]!) _ rfl rfl rfl rfl rfl rfl rfl rfl (by first | omega | (simp only [Array.size_setIfInBounds, swp_size]; omega)) rfl ?_
              exact a_next hT () [30] rfl rfl trivial ⟨rfl, rfl, rfl, rfl, trivial⟩ rfl ⟨⟨rfl, rfl, rfl, rfl⟩, trivial⟩
            · refine a_uld hT (i) (swp d a p) rfl rfl rfl rfl rfl rfl rfl (by first | omega | (simp only [Array.size_setIfInBounds, swp_size]; omega)) rfl ?_
              refine a_uld hT (j) (swp d a p) rfl rfl rfl rfl rfl rfl rfl (by first | omega | (simp only [Array.size_setIfInBounds, swp_size]; omega)) rfl ?_
              refine a_rix hT (i) rfl rfl rfl rfl rfl rfl (by first | rfl | omega) (by omega) ?_
              refine a_ust hT (i) (swp d a p) _ rfl rfl rfl rfl rfl rfl rfl rfl (by first | omega | (simp only [Array.size_setIfInBounds, swp_size]; omega)) rfl ?_
              refine a_rix hT (j) rfl rfl rfl rfl rfl rfl (by first | rfl | omega) (by omega) ?_
              refine a_ust hT (j) (Array.setIfInBounds (swp d a p) i (swp d a p)[j]!) _ rfl rfl rfl rfl rfl rfl rfl rfl (by first | omega | (simp only [Array.size_setIfInBounds, swp_size]; omega)) rfl ?_
              exact a_next hT () [30] rfl rfl trivial ⟨rfl, rfl, rfl, rfl, trivial⟩ rfl ⟨⟨rfl, rfl, rfl, rfl⟩, trivial⟩
          · refine a_loop hT [0, 1, 10, 11] (fun x : Nat × Nat × Array Int => [.row (slV g d cap) 30, .v (kI a) 0, .v (kI x.1) 0, .v (kI x.2.1) 0]) (fun x => [(30, rowU (slV g d cap) x.2.2)]) (fun x => x.2.2.size = d.size ∧ partLoop ltInt a x.1 x.2.1 x.2.2 = partLoop ltInt a (i + 1) (j - 1) (swp (swp d a p) i j) ∧ a < x.1 ∧ a ≤ x.2.1 ∧ x.2.1 < b ∧ x.1 ≤ b + 1) (fun x => x.2.1 + 1 - x.1) (i + 1, j - 1, swp (swp d a p) i j) [30] rfl rfl ⟨by rw [hz2, hz], rfl, by show a < i + 1; omega, by show a ≤ j - 1; omega, by show j - 1 < b; omega, by show i + 1 ≤ b + 1; omega⟩ ⟨rfl, rfl, by rw [hwi]; rfl, by rw [hwj]; rfl, trivial⟩ rfl ⟨⟨rfl, rfl, rfl, rfl⟩, trivial⟩ ?_
            rintro ⟨i2, j2, e⟩ ⟨hse, hpe, hi2, hj2, hj3, hi3⟩
            dsimp only at hse hpe hi2 hj2 hj3 hi3 ⊢
            have hup2 := scanUp_ge (fun x => ltInt x e[a]!) e j2 i2
            refine a_cutM hT [0, 1, 10, 11] (fun u : Nat => [.row (slV g d cap) 30, .v (kI a) 0, .v (kI u) 0, .v (kI j2) 0]) (fun _ => [(30, rowU (slV g d cap) e)]) (fun u => u = scanUp (fun x => ltInt x e[a]!) e j2 i2) 1 rfl rfl ?_ fun u hu => ?_
            · refine a_loop hT [0, 1, 10, 11] (fun u : Nat => [.row (slV g d cap) 30, .v (kI a) 0, .v (kI u) 0, .v (kI j2) 0]) (fun _ => [(30, rowU (slV g d cap) e)]) (fun u => scanUp (fun x => ltInt x e[a]!) e j2 u = scanUp (fun x => ltInt x e[a]!) e j2 i2 ∧ i2 ≤ u ∧ u ≤ b + 1) (fun u => b + 1 - u) i2 [30] rfl rfl ⟨rfl, Nat.le_refl _, by omega⟩ ⟨rfl, rfl, rfl, rfl, trivial⟩ rfl ⟨⟨rfl, rfl, rfl, rfl⟩, trivial⟩ ?_
              rintro u ⟨hs, hu1, hu2⟩
              have hwu : IntKind.i64.wrap ((u : Int) + 1) = ((u + 1 : Nat) : Int) := by rw [w64 (by omega) (by omega)]; omega
              refine a_drawX hT [] 12 [(0, false), (1, false), (2, false), (3, false), (4, false), (5, false), (6, false), (7, false), (8, false), (9, false), (10, false), (11, false), (12, true)] rfl rfl (by kernel_rfl) (by kernel_rfl) rfl ?_
              refine a_g hT rfl rfl rfl (fun h5 => ?_) (fun h5 => ?_)
              · have h5 := of_decide_eq_true h5
                refine a_rix hT (u) rfl rfl rfl rfl rfl rfl (by first | rfl | omega) (by omega) ?_
                refine a_uldP hT (u) (e) rfl rfl rfl rfl rfl rfl rfl (by first | omega | (simp only [Array.size_setIfInBounds, swp_size]; omega)) rfl ?_
                refine a_rix hT (a) rfl rfl rfl rfl rfl rfl (by first | rfl | omega) (by omega) ?_
                refine a_uldP hT (a) (e) rfl rfl rfl rfl rfl rfl rfl (by first | omega | (simp only [Array.size_setIfInBounds, swp_size]; omega)) rfl ?_
                refine a_callF hT rfl rfl rfl (by kernel_rfl) (uless_spec (h := 0) (h1 := 0)) [] [] ⟨rfl, rfl, trivial⟩ rfl trivial ?_
                rintro _ _ ⟨rfl, rfl⟩
                refine a_rest hT [(13, true)] rfl rfl (by kernel_rfl) ?_
                refine a_if hT rfl rfl (fun h6 => ?_) (fun h6 => ?_)
                · have h6 := of_decide_eq_true h6
                  exact a_next hT (u + 1) [30] rfl rfl ⟨⟨(scanUp_step (by omega) (by unfold ltInt; exact decide_eq_true (by assumption))).symm.trans hs, by omega, by omega⟩, by omega⟩ ⟨rfl, rfl, by show Value.int .i64 _ = Value.int .i64 _; rw [hwu], rfl, trivial⟩ rfl ⟨⟨rfl, rfl, rfl, rfl⟩, trivial⟩
                · have h6 := of_decide_eq_false h6
                  exact a_next hT u [30] rfl rfl ((scanUp_stop (by rintro ⟨_, h⟩; unfold ltInt at h; have h := of_decide_eq_true h; omega)).symm.trans hs) ⟨rfl, rfl, rfl, rfl, trivial⟩ rfl ⟨⟨rfl, rfl, rfl, rfl⟩, trivial⟩
              · have h5 := of_decide_eq_false h5
                refine a_rest hT [(13, true)] rfl rfl (by kernel_rfl) ?_
                refine a_f hT rfl rfl rfl ?_
                exact a_next hT u [30] rfl rfl ((scanUp_stop (by rintro ⟨h, _⟩; omega)).symm.trans hs) ⟨rfl, rfl, rfl, rfl, trivial⟩ rfl ⟨⟨rfl, rfl, rfl, rfl⟩, trivial⟩
            · rw [← hu] at hup2
              have hdn2 := scanDown_le (fun x => !ltInt x e[a]!) e u j2
              have hdg2 := scanDown_ge (p := fun x => !ltInt x e[a]!) (d := e) (i := u) (a := a) (by omega) j2 hj2
              refine a_cutM hT [0, 1, 10, 11] (fun v : Nat => [.row (slV g d cap) 30, .v (kI a) 0, .v (kI u) 0, .v (kI v) 0]) (fun _ => [(30, rowU (slV g d cap) e)]) (fun v => v = scanDown (fun x => !ltInt x e[a]!) e u j2) 0 rfl rfl ?_ fun v hv => ?_
              · refine a_loop hT [0, 1, 10, 11] (fun v : Nat => [.row (slV g d cap) 30, .v (kI a) 0, .v (kI u) 0, .v (kI v) 0]) (fun _ => [(30, rowU (slV g d cap) e)]) (fun v => scanDown (fun x => !ltInt x e[a]!) e u v = scanDown (fun x => !ltInt x e[a]!) e u j2 ∧ v ≤ j2) (fun v => v) j2 [30] rfl rfl ⟨rfl, Nat.le_refl _⟩ ⟨rfl, rfl, rfl, rfl, trivial⟩ rfl ⟨⟨rfl, rfl, rfl, rfl⟩, trivial⟩ ?_
                rintro v ⟨hs, hv1⟩
                have hwv : 1 ≤ v → IntKind.i64.wrap ((v : Int) - 1) = ((v - 1 : Nat) : Int) := fun h => by rw [w64 (by omega) (by omega)]; omega
                refine a_drawX hT [] 12 [(0, false), (1, false), (2, false), (3, false), (4, false), (5, false), (6, false), (7, false), (8, false), (9, false), (10, false), (11, false), (12, true)] rfl rfl (by kernel_rfl) (by kernel_rfl) rfl ?_
                refine a_g hT rfl rfl rfl (fun h5 => ?_) (fun h5 => ?_)
                · have h5 := of_decide_eq_true h5
                  refine a_rix hT (v) rfl rfl rfl rfl rfl rfl (by first | rfl | omega) (by omega) ?_
                  refine a_uldP hT (v) (e) rfl rfl rfl rfl rfl rfl rfl (by first | omega | (simp only [Array.size_setIfInBounds, swp_size]; omega)) rfl ?_
                  refine a_rix hT (a) rfl rfl rfl rfl rfl rfl (by first | rfl | omega) (by omega) ?_
                  refine a_uldP hT (a) (e) rfl rfl rfl rfl rfl rfl rfl (by first | omega | (simp only [Array.size_setIfInBounds, swp_size]; omega)) rfl ?_
                  refine a_callF hT rfl rfl rfl (by kernel_rfl) (uless_spec (h := 0) (h1 := 0)) [] [] ⟨rfl, rfl, trivial⟩ rfl trivial ?_
                  rintro _ _ ⟨rfl, rfl⟩
                  refine a_rest hT [(13, true), (14, true)] rfl rfl (by kernel_rfl) ?_
                  refine a_if hT rfl rfl (fun h6 => ?_) (fun h6 => ?_)
                  · simp at h6
                    exact a_next hT (v - 1) [30] rfl rfl ⟨⟨(scanDown_step (by omega) (by omega) (by unfold ltInt; simp only [Bool.not_eq_true', decide_eq_false_iff_not]; omega)).symm.trans hs, by omega⟩, by omega⟩ ⟨rfl, rfl, rfl, by show Value.int .i64 _ = Value.int .i64 _; rw [hwv (by omega)], trivial⟩ rfl ⟨⟨rfl, rfl, rfl, rfl⟩, trivial⟩
                  · simp at h6
                    exact a_next hT v [30] rfl rfl ((scanDown_stop (by rintro ⟨_, h⟩; unfold ltInt at h; simp only [Bool.not_eq_true', decide_eq_false_iff_not] at h; omega)).symm.trans hs) ⟨rfl, rfl, rfl, rfl, trivial⟩ rfl ⟨⟨rfl, rfl, rfl, rfl⟩, trivial⟩
                · have h5 := of_decide_eq_false h5
                  refine a_rest hT [(13, true), (14, true)] rfl rfl (by kernel_rfl) ?_
                  refine a_f hT rfl rfl rfl ?_
                  exact a_next hT v [30] rfl rfl ((scanDown_stop (by rintro ⟨h, _⟩; omega)).symm.trans hs) ⟨rfl, rfl, rfl, rfl, trivial⟩ rfl ⟨⟨rfl, rfl, rfl, rfl⟩, trivial⟩
              · rw [← hv] at hdn2 hdg2
                have hrec := partLoop_eq (lt := ltInt) a i2 j2 e
                rw [← hu, ← hv] at hrec
                refine a_if hT rfl rfl (fun h5 => ?_) (fun h5 => ?_)
                · have h5 := of_decide_eq_true h5
                  have hpl : partLoop ltInt a (i + 1) (j - 1) (swp (swp d a p) i j) = (v, e) := by rw [← hpe, hrec, if_pos (by omega)]
                  rw [hpl]
                  refine a_treeN hT [0, 1, 10, 11] (fun _ : Unit => [.row (slV g d cap) 30, .v (kI ↑a) 0, .v (kI ↑u) 0, .v (kI ↑v) 0]) (fun _ => [(30, rowU (slV g d cap) (swp e v a))]) (fun _ => True) [30] 16 [(0, false), (1, false), (2, false), (3, false), (4, false), (5, false), (6, false), (8, false), (9, false), (10, false)] rfl rfl (by kernel_rfl) (by kernel_rfl) rfl ?_ fun _ _ => ?_
                  · refine a_rix hT (a) rfl rfl rfl rfl rfl rfl (by first | rfl | omega) (by omega) ?_
                    refine a_rix hT (v) rfl rfl rfl rfl rfl rfl (by first | rfl | omega) (by omega) ?_
                    refine a_alt hT [([(7, true), (11, true), (12, true), (13, true), (14, true), (15, true)], true), ([(11, true), (7, true), (12, true), (13, true), (14, true), (15, true)], true)] rfl rfl (by kernel_rfl) ⟨?_, ?_, trivial⟩
                    · refine a_uld hT (a) (e) rfl rfl rfl rfl rfl rfl rfl (by first | omega | (simp only [Array.size_setIfInBounds, swp_size]; omega)) rfl ?_
                      refine a_uld hT (v) (e) rfl rfl rfl rfl rfl rfl rfl (by first | omega | (simp only [Array.size_setIfInBounds, swp_size]; omega)) rfl ?_
                      refine a_rix hT (v) rfl rfl rfl rfl rfl rfl (by first | rfl | omega) (by omega) ?_
                      refine a_ust hT (v) (e) _ rfl rfl rfl rfl rfl rfl rfl rfl (by first | omega | (simp only [Array.size_setIfInBounds, swp_size]; omega)) rfl ?_
                      refine a_rix hT (a) rfl rfl rfl rfl rfl rfl (by first | rfl | omega) (by omega) ?_
                      refine a_ust hT (a) (Array.setIfInBounds e v e[a]!) _ rfl rfl rfl rfl rfl rfl rfl rfl (by first | omega | (simp only [Array.size_setIfInBounds, swp_size]; omega)) rfl ?_
                      exact a_next hT () [30] rfl rfl trivial ⟨rfl, rfl, rfl, rfl, trivial⟩ rfl ⟨⟨rfl, rfl, rfl, rfl⟩, trivial⟩
                    · refine a_uld hT (v) (e) rfl rfl rfl rfl rfl rfl rfl (by first | omega | (simp only [Array.size_setIfInBounds, swp_size]; omega)) rfl ?_
                      refine a_uld hT (a) (e) rfl rfl rfl rfl rfl rfl rfl (by first | omega | (simp only [Array.size_setIfInBounds, swp_size]; omega)) rfl ?_
                      refine a_rix hT (v) rfl rfl rfl rfl rfl rfl (by first | rfl | omega) (by omega) ?_
                      refine a_ust hT (v) (e) _ rfl rfl rfl rfl rfl rfl rfl rfl (by first | omega | (simp only [Array.size_setIfInBounds, swp_size]; omega)) rfl ?_
                      refine a_rix hT (a) rfl rfl rfl rfl rfl rfl (by first | rfl | omega) (by omega) ?_
                      refine a_ust hT (a) (Array.setIfInBounds e v e[a]!) _ rfl rfl rfl rfl rfl rfl rfl rfl (by first | omega | (simp only [Array.size_setIfInBounds, swp_size]; omega)) rfl ?_
                      exact a_next hT () [30] rfl rfl trivial ⟨rfl, rfl, rfl, rfl, trivial⟩ rfl ⟨⟨rfl, rfl, rfl, rfl⟩, trivial⟩
                  · refine a_ret hT [30] rfl rfl rfl rfl rfl rfl ?_
                    first | exact ⟨rfl, rfl⟩ | rfl
                · have h5 := of_decide_eq_false h5
                  have hwu2 : IntKind.i64.wrap ((u : Int) + 1) = ((u + 1 : Nat) : Int) := by rw [w64 (by omega) (by omega)]; omega
                  have hwv2 : IntKind.i64.wrap ((v : Int) - 1) = ((v - 1 : Nat) : Int) := by rw [w64 (by omega) (by omega)]; omega
                  refine a_treeN hT [0, 1, 10, 11] (fun _ : Unit => [.row (slV g d cap) 30, .v (kI ↑a) 0, .v (kI ↑u) 0, .v (kI ↑v) 0]) (fun _ => [(30, rowU (slV g d cap) (swp e u v))]) (fun _ => True) [30] 16 [(0, false), (1, false), (2, false), (3, false), (4, false), (5, false), (6, false), (8, false), (9, false), (10, false)] rfl rfl (by kernel_rfl) (by kernel_rfl) rfl ?_ fun _ _ => ?_
                  · refine a_rix hT (v) rfl rfl rfl rfl rfl rfl (by first | rfl | omega) (by omega) ?_
                    refine a_rix hT (u) rfl rfl rfl rfl rfl rfl (by first | rfl | omega) (by omega) ?_
                    refine a_alt hT [([(7, true), (11, true), (12, true), (13, true), (14, true), (15, true)], true), ([(11, true), (7, true), (12, true), (13, true), (14, true), (15, true)], true)] rfl rfl (by kernel_rfl) ⟨?_, ?_, trivial⟩
                    · refine a_uld hT (v) (e) rfl rfl rfl rfl rfl rfl rfl (by first | omega | (simp only [Array.size_setIfInBounds, swp_size]; omega)) rfl ?_
                      refine a_uld hT (u) (e) rfl rfl rfl rfl rfl rfl rfl (by first | omega | (simp only [Array.size_setIfInBounds, swp_size]; omega)) rfl ?_
                      refine a_rix hT (u) rfl rfl rfl rfl rfl rfl (by first | rfl | omega) (by omega) ?_
                      refine a_ust hT (u) (e) _ rfl rfl rfl rfl rfl rfl rfl rfl (by first | omega | (simp only [Array.size_setIfInBounds, swp_size]; omega)) rfl ?_
                      refine a_rix hT (v) rfl rfl rfl rfl rfl rfl (by first | rfl | omega) (by omega) ?_
                      refine a_ust hT (v) (Array.setIfInBounds e u e[v]!) _ rfl rfl rfl rfl rfl rfl rfl rfl (by first | omega | (simp only [Array.size_setIfInBounds, swp_size]; omega)) rfl ?_
                      exact a_next hT () [30] rfl rfl trivial ⟨rfl, rfl, rfl, rfl, trivial⟩ rfl ⟨⟨rfl, rfl, rfl, rfl⟩, trivial⟩
                    · refine a_uld hT (u) (e) rfl rfl rfl rfl rfl rfl rfl (by first | omega | (simp only [Array.size_setIfInBounds, swp_size]; omega)) rfl ?_
                      refine a_uld hT (v) (e) rfl rfl rfl rfl rfl rfl rfl (by first | omega | (simp only [Array.size_setIfInBounds, swp_size]; omega)) rfl ?_
                      refine a_rix hT (u) rfl rfl rfl rfl rfl rfl (by first | rfl | omega) (by omega) ?_
                      refine a_ust hT (u) (e) _ rfl rfl rfl rfl rfl rfl rfl rfl (by first | omega | (simp only [Array.size_setIfInBounds, swp_size]; omega)) rfl ?_
                      refine a_rix hT (v) rfl rfl rfl rfl rfl rfl (by first | rfl | omega) (by omega) ?_
                      refine a_ust hT (v) (Array.setIfInBounds e u e[v]!) _ rfl rfl rfl rfl rfl rfl rfl rfl (by first | omega | (simp only [Array.size_setIfInBounds, swp_size]; omega)) rfl ?_
                      exact a_next hT () [30] rfl rfl trivial ⟨rfl, rfl, rfl, rfl, trivial⟩ rfl ⟨⟨rfl, rfl, rfl, rfl⟩, trivial⟩
                  · exact a_next hT (u + 1, v - 1, swp e u v) [30] rfl rfl ⟨⟨by rw [swp_size]; exact hse, by rw [← hpe, hrec, if_neg (by omega)], by show a < u + 1; omega, by show a ≤ v - 1; omega, by show v - 1 < b; omega, by show u + 1 ≤ b + 1; omega⟩, by show v - 1 + 1 - (u + 1) < j2 + 1 - i2; omega⟩ ⟨rfl, rfl, by show Value.int .i64 _ = Value.int .i64 _; rw [hwu2], by show Value.int .i64 _ = Value.int .i64 _; rw [hwv2], trivial⟩ rfl ⟨⟨rfl, rfl, rfl, rfl⟩, trivial⟩
end Go.Proofs.Ytdconcindpfmcaa
end

section
/- slices.Sort of numbers: partitionEqualOrdered. -/
set_option linter.unusedVariables false
set_option linter.unusedSimpArgs false
set_option maxRecDepth 100000
set_option maxHeartbeats 4000000
namespace Go.Proofs.Ytdconcindpfmcaa
open V A Go.Sort
theorem partEq_spec {g cap : Nat} {d : Array Int} {a b p h h1 h2 h3 : Nat} (ha : a ≤ p) (hp : p < b) (hb : b ≤ d.size) (hd : d.size < 1000000) : FSpec Try.prog 100 [.row (slV g d cap) h, .v (kI a) h1, .v (kI b) h2, .v (kI p) h3] [rowU (slV g d cap) d]
    fun r cs => r = .v (kI (partitionEqual ltInt d a b p).1) 0 ∧ cs = [rowU (slV g d cap) (partitionEqual ltInt d a b p).2] := by
  have hw1 : IntKind.i64.wrap ((a : Int) + 1) = ((a + 1 : Nat) : Int) := by rw [w64 (by omega) (by omega)]; omega
  have hwb : IntKind.i64.wrap ((b : Int) - 1) = ((b - 1 : Nat) : Int) := by rw [w64 (by omega) (by omega)]; omega
  have hz := swp_size d a p
  refine a_enter hT [.row (slV g d cap) 30, .v (kI a) 0, .v (kI b) 0, .v (kI p) 0] [30] Try.func100 rfl rfl rfl ⟨rfl, rfl, rfl, rfl, trivial⟩ fun c => ?_
  refine a_treeN hT [0, 1, 2] (fun _ : Unit => [.row (slV g d cap) 30, .v (kI ↑a) 0, .v (kI ↑b) 0]) (fun _ => [(30, rowU (slV g d cap) (swp d a p))]) (fun _ => True) [30] 16 [(0, false), (1, false), (2, false), (3, false), (4, false), (5, false), (6, false), (8, false), (9, false), (10, false)] rfl rfl (by kernel_rfl) (by kernel_rfl) rfl ?_ fun _ _ => ?_
  · refine a_rix hT (p) rfl rfl rfl rfl rfl rfl (by first | rfl | omega) (by omega) ?_
    refine a_rix hT (a) rfl rfl rfl rfl rfl rfl (by first | rfl | omega) (by omega) ?_
    refine a_alt hT [([(7, true), (11, true), (12, true), (13, true), (14, true), (15, true)], true), ([(11, true), (7, true), (12, true), (13, true), (14, true), (15, true)], true)] rfl rfl (by kernel_rfl) ⟨?_, ?_, trivial⟩
    · refine a_uld hT (p) (d) rfl rfl rfl rfl rfl rfl rfl (by first | omega | (simp only [Array.size_setIfInBounds, swp_size]; omega)) rfl ?_
      refine a_uld hT (a) (d) rfl rfl rfl rfl rfl rfl rfl (by first | omega | (simp only [Array.size_setIfInBounds, swp_size]; omega)) rfl ?_
      refine a_rix hT (a) rfl rfl rfl rfl rfl rfl (by first | rfl | omega) (by omega) ?_
      refine a_ust hT (a) (d) _ rfl rfl rfl rfl rfl rfl rfl rfl (by first | omega | (simp only [Array.size_setIfInBounds, swp_size]; omega)) rfl ?_
      refine a_rix hT (p) rfl rfl rfl rfl rfl rfl (by first | rfl | omega) (by omega) ?_
      refine a_ust hT (p) (Array.setIfInBounds d a d[p]!) _ rfl rfl rfl rfl rfl rfl rfl rfl (by first | omega | (simp only [Array.size_setIfInBounds, swp_size]; omega)) rfl ?_
      exact a_next hT () [30] rfl rfl trivial ⟨rfl, rfl, rfl, trivial⟩ rfl ⟨⟨rfl, rfl, rfl, rfl⟩, trivial⟩
    · refine a_uld hT (a) (d) rfl rfl rfl rfl rfl rfl rfl (by first | omega | (simp only [Array.size_setIfInBounds, swp_size]; omega)) rfl ?_
      refine a_uld hT (p) (d) rfl rfl rfl rfl rfl rfl rfl (by first | omega | (simp only [Array.size_setIfInBounds, swp_size]; omega)) rfl ?_
      refine a_rix hT (a) rfl rfl rfl rfl rfl rfl (by first | rfl | omega) (by omega) ?_
      refine a_ust hT (a) (d) _ rfl rfl rfl rfl rfl rfl rfl rfl (by first | omega | (simp only [Array.size_setIfInBounds, swp_size]; omega)) rfl ?_
      refine a_rix hT (p) rfl rfl rfl rfl rfl rfl (by first | rfl | omega) (by omega) ?_
      refine a_ust hT (p) (Array.setIfInBounds d a d[p]!) _ rfl rfl rfl rfl rfl rfl rfl rfl (by first | omega | (simp only [Array.size_setIfInBounds, swp_size]; omega)) rfl ?_
      exact a_next hT () [30] rfl rfl trivial ⟨rfl, rfl, rfl, trivial⟩ rfl ⟨⟨rfl, rfl, rfl, rfl⟩, trivial⟩
  · refine a_loop hT [0, 1, 9, 10] (fun x : Nat × Nat × Array Int => [.row (slV g d cap) 30, .v (kI a) 0, .v (kI x.1) 0, .v (kI x.2.1) 0]) (fun x => [(30, rowU (slV g d cap) x.2.2)]) (fun x => x.2.2.size = d.size ∧ partEqLoop ltInt a x.1 x.2.1 x.2.2 = partEqLoop ltInt a (a + 1) (b - 1) (swp d a p) ∧ a < x.1 ∧ a ≤ x.2.1 ∧ x.2.1 < b ∧ x.1 ≤ b + 1) (fun x => x.2.1 + 1 - x.1) (a + 1, b - 1, swp d a p) [30] rfl rfl ⟨hz, rfl, by show a < a + 1; omega, by show a ≤ b - 1; omega, by show b - 1 < b; omega, by show a + 1 ≤ b + 1; omega⟩ ⟨rfl, rfl, by rw [hw1]; rfl, by rw [hwb]; rfl, trivial⟩ rfl ⟨⟨rfl, rfl, rfl, rfl⟩, trivial⟩ ?_
    rintro ⟨i2, j2, e⟩ ⟨hse, hpe, hi2, hj2, hj3, hi3⟩
    dsimp only at hse hpe hi2 hj2 hj3 hi3 ⊢
    have hup2 := scanUp_ge (fun x => !ltInt e[a]! x) e j2 i2
    refine a_cutM hT [0, 1, 9, 10] (fun u : Nat => [.row (slV g d cap) 30, .v (kI a) 0, .v (kI u) 0, .v (kI j2) 0]) (fun _ => [(30, rowU (slV g d cap) e)]) (fun u => u = scanUp (fun x => !ltInt e[a]! x) e j2 i2) 1 rfl rfl ?_ fun u hu => ?_
    · refine a_loop hT [0, 1, 9, 10] (fun u : Nat => [.row (slV g d cap) 30, .v (kI a) 0, .v (kI u) 0, .v (kI j2) 0]) (fun _ => [(30, rowU (slV g d cap) e)]) (fun u => scanUp (fun x => !ltInt e[a]! x) e j2 u = scanUp (fun x => !ltInt e[a]! x) e j2 i2 ∧ i2 ≤ u ∧ u ≤ b + 1) (fun u => b + 1 - u) i2 [30] rfl rfl ⟨rfl, Nat.le_refl _, by omega⟩ ⟨rfl, rfl, rfl, rfl, trivial⟩ rfl ⟨⟨rfl, rfl, rfl, rfl⟩, trivial⟩ ?_
      rintro u ⟨hs, hu1, hu2⟩
      have hwu : IntKind.i64.wrap ((u : Int) + 1) = ((u + 1 : Nat) : Int) := by rw [w64 (by omega) (by omega)]; omega
      refine a_drawX hT [] 12 [(0, false), (1, false), (2, false), (3, false), (4, false), (5, false), (6, false), (7, false), (8, false), (9, false), (10, false), (11, false), (12, true)] rfl rfl (by kernel_rfl) (by kernel_rfl) rfl ?_
      refine a_g hT rfl rfl rfl (fun h4 => ?_) (fun h4 => ?_)
      · have h4 := of_decide_eq_true h4
        refine a_rix hT (a) rfl rfl rfl rfl rfl rfl (by first | rfl | omega) (by omega) ?_
        refine a_uldP hT (a) (e) rfl rfl rfl rfl rfl rfl rfl (by first | omega | (simp only [Array.size_setIfInBounds, swp_size]; omega)) rfl ?_
        refine a_rix hT (u) rfl rfl rfl rfl rfl rfl (by first | rfl | omega) (by omega) ?_
        refine a_uldP hT (u) (e) rfl rfl rfl rfl rfl rfl rfl (by first | omega | (simp only [Array.size_setIfInBounds, swp_size]; omega)) rfl ?_
        refine a_callF hT rfl rfl rfl (by kernel_rfl) (uless_spec (h := 0) (h1 := 0)) [] [] ⟨rfl, rfl, trivial⟩ rfl trivial ?_
        rintro _ _ ⟨rfl, rfl⟩
        refine a_rest hT [(13, true), (14, true)] rfl rfl (by kernel_rfl) ?_
        refine a_if hT rfl rfl (fun h5 => ?_) (fun h5 => ?_)
        · simp at h5
          exact a_next hT (u + 1) [30] rfl rfl ⟨⟨(scanUp_step (by omega) (by unfold ltInt; simp only [Bool.not_eq_true', decide_eq_false_iff_not]; omega)).symm.trans hs, by omega, by omega⟩, by omega⟩ ⟨rfl, rfl, by show Value.int .i64 _ = Value.int .i64 _; rw [hwu], rfl, trivial⟩ rfl ⟨⟨rfl, rfl, rfl, rfl⟩, trivial⟩
        · simp at h5
          exact a_next hT u [30] rfl rfl ((scanUp_stop (by rintro ⟨_, h⟩; unfold ltInt at h; simp only [Bool.not_eq_true', decide_eq_false_iff_not] at h; omega)).symm.trans hs) ⟨rfl, rfl, rfl, rfl, trivial⟩ rfl ⟨⟨rfl, rfl, rfl, rfl⟩, trivial⟩
      · have h4 := of_decide_eq_false h4
        refine a_rest hT [(13, true), (14, true)] rfl rfl (by kernel_rfl) ?_
        refine a_f hT rfl rfl rfl ?_
        exact a_next hT u [30] rfl rfl ((scanUp_stop (by rintro ⟨h, _⟩; omega)).symm.trans hs) ⟨rfl, rfl, rfl, rfl, trivial⟩ rfl ⟨⟨rfl, rfl, rfl, rfl⟩, trivial⟩
    · rw [← hu] at hup2
      have hdn2 := scanDown_le (fun x => ltInt e[a]! x) e u j2
      have hdg2 := scanDown_ge (p := fun x => ltInt e[a]! x) (d := e) (i := u) (a := a) (by omega) j2 hj2
      refine a_cutM hT [0, 1, 9, 10] (fun v : Nat => [.row (slV g d cap) 30, .v (kI a) 0, .v (kI u) 0, .v (kI v) 0]) (fun _ => [(30, rowU (slV g d cap) e)]) (fun v => v = scanDown (fun x => ltInt e[a]! x) e u j2) 0 rfl rfl ?_ fun v hv => ?_
      · refine a_loop hT [0, 1, 9, 10] (fun v : Nat => [.row (slV g d cap) 30, .v (kI a) 0, .v (kI u) 0, .v (kI v) 0]) (fun _ => [(30, rowU (slV g d cap) e)]) (fun v => scanDown (fun x => ltInt e[a]! x) e u v = scanDown (fun x => ltInt e[a]! x) e u j2 ∧ v ≤ j2) (fun v => v) j2 [30] rfl rfl ⟨rfl, Nat.le_refl _⟩ ⟨rfl, rfl, rfl, rfl, trivial⟩ rfl ⟨⟨rfl, rfl, rfl, rfl⟩, trivial⟩ ?_
        rintro v ⟨hs, hv1⟩
        have hwv : 1 ≤ v → IntKind.i64.wrap ((v : Int) - 1) = ((v - 1 : Nat) : Int) := fun h => by rw [w64 (by omega) (by omega)]; omega
        refine a_drawX hT [] 12 [(0, false), (1, false), (2, false), (3, false), (4, false), (5, false), (6, false), (7, false), (8, false), (9, false), (10, false), (11, false), (12, true)] rfl rfl (by kernel_rfl) (by kernel_rfl) rfl ?_
        refine a_g hT rfl rfl rfl (fun h4 => ?_) (fun h4 => ?_)
        · have h4 := of_decide_eq_true h4
          refine a_rix hT (a) rfl rfl rfl rfl rfl rfl (by first | rfl | omega) (by omega) ?_
          refine a_uldP hT (a) (e) rfl rfl rfl rfl rfl rfl rfl (by first | omega | (simp only [Array.size_setIfInBounds, swp_size]; omega)) rfl ?_
          refine a_rix hT (v) rfl rfl rfl rfl rfl rfl (by first | rfl | omega) (by omega) ?_
          refine a_uldP hT (v) (e) rfl rfl rfl rfl rfl rfl rfl (by first | omega | (simp only [Array.size_setIfInBounds, swp_size]; omega)) rfl ?_
          refine a_callF hT rfl rfl rfl (by kernel_rfl) (uless_spec (h := 0) (h1 := 0)) [] [] ⟨rfl, rfl, trivial⟩ rfl trivial ?_
          rintro _ _ ⟨rfl, rfl⟩
          refine a_rest hT [(13, true)] rfl rfl (by kernel_rfl) ?_
          refine a_if hT rfl rfl (fun h5 => ?_) (fun h5 => ?_)
          · have h5 := of_decide_eq_true h5
            exact a_next hT (v - 1) [30] rfl rfl ⟨⟨(scanDown_step (by omega) (by omega) (by unfold ltInt; exact decide_eq_true (by assumption))).symm.trans hs, by omega⟩, by omega⟩ ⟨rfl, rfl, rfl, by show Value.int .i64 _ = Value.int .i64 _; rw [hwv (by omega)], trivial⟩ rfl ⟨⟨rfl, rfl, rfl, rfl⟩, trivial⟩
          · have h5 := of_decide_eq_false h5
            exact a_next hT v [30] rfl rfl ((scanDown_stop (by rintro ⟨_, h⟩; unfold ltInt at h; have h := of_decide_eq_true h; omega)).symm.trans hs) ⟨rfl, rfl, rfl, rfl, trivial⟩ rfl ⟨⟨rfl, rfl, rfl, rfl⟩, trivial⟩
        · have h4 := of_decide_eq_false h4
          refine a_rest hT [(13, true)] rfl rfl (by kernel_rfl) ?_
          refine a_f hT rfl rfl rfl ?_
          exact a_next hT v [30] rfl rfl ((scanDown_stop (by rintro ⟨h, _⟩; omega)).symm.trans hs) ⟨rfl, rfl, rfl, rfl, trivial⟩ rfl ⟨⟨rfl, rfl, rfl, rfl⟩, trivial⟩
      · rw [← hv] at hdn2 hdg2
        have hrec := partEqLoop_eq (lt := ltInt) a i2 j2 e
        rw [← hu, ← hv] at hrec
        refine a_if hT rfl rfl (fun h4 => ?_) (fun h4 => ?_)
        · have h4 := of_decide_eq_true h4
          refine a_ret hT [30] rfl rfl rfl rfl rfl rfl ?_
          have hpl : partitionEqual ltInt d a b p = (u, e) := by unfold partitionEqual; rw [← hpe, hrec, if_pos (by omega)]
          rw [hpl]; exact ⟨rfl, rfl⟩
        · have h4 := of_decide_eq_false h4
          have hwu2 : IntKind.i64.wrap ((u : Int) + 1) = ((u + 1 : Nat) : Int) := by rw [w64 (by omega) (by omega)]; omega
          have hwv2 : IntKind.i64.wrap ((v : Int) - 1) = ((v - 1 : Nat) : Int) := by rw [w64 (by omega) (by omega)]; omega
          refine a_treeN hT [0, 1, 9, 10] (fun _ : Unit => [.row (slV g d cap) 30, .v (kI ↑a) 0, .v (kI ↑u) 0, .v (kI ↑v) 0]) (fun _ => [(30, rowU (slV g d cap) (swp e u v))]) (fun _ => True) [30] 16 [(0, false), (1, false), (2, false), (3, false), (4, false), (5, false), (6, false), (8, false), (9, false), (10, false)] rfl rfl (by kernel_rfl) (by kernel_rfl) rfl ?_ fun _ _ => ?_
          · refine a_rix hT (v) rfl rfl rfl rfl rfl rfl (by first | rfl | omega) (by omega) ?_
            refine a_rix hT (u) rfl rfl rfl rfl rfl rfl (by first | rfl | omega) (by omega) ?_
            refine a_alt hT [([(7, true), (11, true), (12, true), (13, true), (14, true), (15, true)], true), ([(11, true), (7, true), (12, true), (13, true), (14, true), (15, true)], true)] rfl rfl (by kernel_rfl) ⟨?_, ?_, trivial⟩
            · refine a_uld hT (v) (e) rfl rfl rfl rfl rfl rfl rfl (by first | omega | (simp only [Array.size_setIfInBounds, swp_size]; omega)) rfl ?_
              refine a_uld hT (u) (e) rfl rfl rfl rfl rfl rfl rfl (by first | omega | (simp only [Array.size_setIfInBounds, swp_size]; omega)) rfl ?_
              refine a_rix hT (u) rfl rfl rfl rfl rfl rfl (by first | rfl | omega) (by omega) ?_
              refine a_ust hT (u) (e) _ rfl rfl rfl rfl rfl rfl rfl rfl (by first | omega | (simp only [Array.size_setIfInBounds, swp_size]; omega)) rfl ?_
              refine a_rix hT (v) rfl rfl rfl rfl rfl rfl (by first | rfl | omega) (by omega) ?_
              refine a_ust hT (v) (Array.setIfInBounds e u e[v]!) _ rfl rfl rfl rfl rfl rfl rfl rfl (by first | omega | (simp only [Array.size_setIfInBounds, swp_size]; omega)) rfl ?_
              exact a_next hT () [30] rfl rfl trivial ⟨rfl, rfl, rfl, rfl, trivial⟩ rfl ⟨⟨rfl, rfl, rfl, rfl⟩, trivial⟩
            · refine a_uld hT (u) (e) rfl rfl rfl rfl rfl rfl rfl (by first | omega | (simp only [Array.size_setIfInBounds, swp_size]; omega)) rfl ?_
              refine a_uld hT (v) (e) rfl rfl rfl rfl rfl rfl rfl (by first | omega | (simp only [Array.size_setIfInBounds, swp_size]; omega)) rfl ?_
              refine a_rix hT (u) rfl rfl rfl rfl rfl rfl (by first | rfl | omega) (by omega) ?_
              refine a_ust hT (u) (e) _ rfl rfl rfl rfl rfl rfl rfl rfl (by first | omega | (simp only [Array.size_setIfInBounds, swp_size]; omega)) rfl ?_
              refine a_rix hT (v) rfl rfl rfl rfl rfl rfl (by first | rfl | omega) (by omega) ?_
              refine a_ust hT (v) (Array.setIfInBounds e u e[v]!) _ rfl rfl rfl rfl rfl rfl rfl rfl (by first | omega | (simp only [Array.size_setIfInBounds, swp_size]; omega)) rfl ?_
              exact a_next hT () [30] rfl rfl trivial ⟨rfl, rfl, rfl, rfl, trivial⟩ rfl ⟨⟨rfl, rfl, rfl, rfl⟩, trivial⟩
          · exact a_next hT (u + 1, v - 1, swp e u v) [30] rfl rfl ⟨⟨by rw [swp_size]; exact hse, by rw [← hpe, hrec, if_neg (by omega)], by show a < u + 1; omega, by show a ≤ v - 1; omega, by show v - 1 < b; omega, by show u + 1 ≤ b + 1; omega⟩, by show v - 1 + 1 - (u + 1) < j2 + 1 - i2; omega⟩ ⟨rfl, rfl, by show Value.int .i64 _ = Value.int .i64 _; rw [hwu2], by show Value.int .i64 _ = Value.int .i64 _; rw [hwv2], trivial⟩ rfl ⟨⟨rfl, rfl, rfl, rfl⟩, trivial⟩
end Go.Proofs.Ytdconcindpfmcaa
end

section
/- slices.Sort of at most 16 numbers. -/
set_option linter.unusedVariables false
set_option linter.unusedSimpArgs false
set_option maxRecDepth 100000
set_option maxHeartbeats 4000000
namespace Go.Proofs.Ytdconcindpfmcaa
open V A Go.Sort
abbrev lt0 := ltInt
/-- Where the loop stands: what is still to be sorted, and that this will do. -/
structure PdqI (d0 : Array Int) (a0 b0 : Nat) (a b : Nat) (lim : Nat) (e : Array Int) : Prop where
  sz : e.size = d0.size
  ab1 : a ≤ b
  aa : a0 ≤ a
  bb : b ≤ b0
  li : b - a < lim + 12
  lim2 : lim ≤ 100
  bel : Below ltInt a b e
  glue : ∀ R, PermIn a b e R → SortedIn ltInt a b R → PermIn a0 b0 d0 R ∧ SortedIn ltInt a0 b0 R
theorem pdq_spec : ∀ (n : Nat) {g cap : Nat} {d : Array Int} {a b lim h h1 h2 h3 : Nat}, b - a ≤ n → a ≤ b → b ≤ d.size → d.size < 1000000 → b - a ≤ 16 → b - a < lim + 12 → lim ≤ 100 → Below ltInt a b d →
    FSpec Try.prog 90 [.row (slV g d cap) h, .v (kI a) h1, .v (kI b) h2, .v (kI lim) h3] [rowU (slV g d cap) d] fun _ cs => ∃ d', PermIn a b d d' ∧ SortedIn ltInt a b d' ∧ cs = [rowU (slV g d cap) d'] := by
  intro n
  induction n using Nat.strongRecOn with
  | _ n ih =>
  intro g cap d a b lim h h1 h2 h3 hn hab hb hd hl hlim hlim2 hbel
  refine a_enter hT [.row (slV g d cap) 30, .v (kI a) 0, .v (kI b) 0, .v (kI lim) 0] [30] Try.func90 rfl rfl rfl ⟨rfl, rfl, rfl, rfl, trivial⟩ fun c => ?_
  refine a_loop hT [0, 1, 2, 3, 8, 9] (fun x : Nat × Nat × Nat × Bool × Bool × Array Int => [.row (slV g d cap) 30, .v (kI x.1) 0, .v (kI x.2.1) 0, .v (kI x.2.2.1) 0, .v (.bool x.2.2.2.1) 0, .v (.bool x.2.2.2.2.1) 0]) (fun x => [(30, rowU (slV g d cap) x.2.2.2.2.2)]) (fun x => PdqI d a b x.1 x.2.1 x.2.2.1 x.2.2.2.2.2) (fun x => x.2.1 - x.1) (a, b, lim, true, true, d) [30] rfl rfl ⟨rfl, hab, Nat.le_refl _, Nat.le_refl _, hlim, hlim2, hbel, fun R h1 h2 => ⟨h1, h2⟩⟩ ⟨rfl, rfl, rfl, rfl, rfl, rfl, trivial⟩ rfl ⟨⟨rfl, rfl, rfl, rfl⟩, trivial⟩ ?_
  rintro ⟨a1, b1, l1, wb, wp, e⟩ hI
  dsimp only at hI ⊢
  obtain ⟨hs, hab1, ha0, hb0, hl1, hl2, hbel1, hg⟩ := hI
  have hse : slV g e cap = slV g d cap := by unfold slV; rw [hs]
  have hwl : IntKind.i64.wrap ((b1 : Int) - a1) = ((b1 - a1 : Nat) : Int) := by rw [w64 (by omega) (by omega)]; omega
  refine a_if hT rfl rfl (fun h4 => ?_) (fun h4 => ?_)
  · have h4 := of_decide_eq_true h4
    obtain ⟨q1, q2⟩ := insertionSort_holds (lt := ltInt) swo_ltInt e a1 b1 hab1 (by omega)
    obtain ⟨q3, q4⟩ := hg _ q1 q2
    have S1 := @ins_spec g cap a1 b1 e 30 0 0 hab1 (by omega) (by omega)
    rw [hse] at S1
    refine a_call hT rfl rfl rfl (by kernel_rfl) S1 [30] [30] rfl rfl ?_
    rintro _ _ rfl
    refine a_ret hT [30] rfl rfl rfl rfl rfl rfl ?_
    exact ⟨_, q3, q4, rfl⟩
  · have h4 := of_decide_eq_false h4
    have h4 : 12 < b1 - a1 := by have h4 : ¬ IntKind.i64.wrap ((b1 : Int) - a1) ≤ 12 := h4; omega
    refine a_f hT rfl rfl (by simp; omega) ?_
    refine a_cutK hT [0, 1, 2, 3, 8, 9, 10] (fun x : Nat × Array Int => [.row (slV g d cap) 30, .v (kI a1) 0, .v (kI b1) 0, .v (kI x.1) 0, .v (.bool wb) 0, .v (.bool wp) 0, .v (kI (b1 - a1 : Nat)) 0]) (fun x => [(30, rowU (slV g d cap) x.2)]) (fun x => l1 ≤ x.1 + 1 ∧ x.1 ≤ l1 ∧ PermIn a1 b1 e x.2) 9 rfl rfl ?_ ?_
    · have hwm : IntKind.i64.wrap ((l1 : Int) - 1) = ((l1 - 1 : Nat) : Int) := by rw [w64 (by omega) (by omega)]; omega
      have S2 := @break_spec g cap e a1 b1 30 0 0 (by omega) (by omega) (by omega) (by omega)
      rw [hse] at S2
      refine a_if hT rfl rfl (fun h5 => ?_) (fun h5 => ?_)
      · simp at h5
        refine a_call hT rfl rfl rfl (by kernel_rfl) S2 [30] [30] rfl rfl ?_
        rintro _ _ ⟨d', hr, rfl⟩
        obtain ⟨p1, p2, p3⟩ := hr
        exact a_next hT (l1 - 1, d') [30] rfl rfl ⟨by show l1 ≤ l1 - 1 + 1; omega, by show l1 - 1 ≤ l1; omega, ⟨p1, p2, p3⟩⟩ ⟨rfl, rfl, rfl, by show Value.int .i64 _ = Value.int .i64 _; rw [hwm], rfl, rfl, by show Value.int .i64 _ = Value.int .i64 _; rw [hwl], trivial⟩ rfl ⟨⟨rfl, rfl, rfl, rfl⟩, trivial⟩
      · simp at h5
        exact a_next hT (l1, e) [30] rfl rfl ⟨by show l1 ≤ l1 + 1; omega, Nat.le_refl _, permIn_refl e a1 b1⟩ ⟨rfl, rfl, rfl, rfl, rfl, rfl, by show Value.int .i64 _ = Value.int .i64 _; rw [hwl], trivial⟩ rfl ⟨⟨rfl, rfl, rfl, rfl⟩, trivial⟩
    rintro ⟨l2, e1⟩ ⟨hl3, hl4, hp1⟩
    dsimp only at hl3 hl4 hp1 ⊢
    have hs1 : e1.size = e.size := hp1.1
    have hse1 : slV g e1 cap = slV g d cap := by unfold slV; rw [hs1, hs]
    have S3 := @choose_spec g cap e1 a1 b1 30 0 0 (by omega) (by omega) (by omega) (by omega) (by omega)
    rw [hse1] at S3
    obtain ⟨c1, c2⟩ := choosePivot_holds ltInt e1 a1 b1 (by omega)
    have S4 := @reverse_spec g cap e1 a1 b1 30 0 0 (by omega) (by omega) (by omega)
    rw [hse1] at S4
    refine a_call hT rfl rfl rfl (by kernel_rfl) S3 [30] [30] rfl rfl ?_
    rintro _ _ ⟨⟨hh, rfl, hr, hr1⟩, rfl⟩
    refine a_cutK hT [0, 1, 2, 3, 8, 9, 10, 11, 12] (fun x : Nat × Int × Array Int => [.row (slV g d cap) 30, .v (kI a1) 0, .v (kI b1) 0, .v (kI l2) 0, .v (.bool wb) 0, .v (.bool wp) 0, .v (kI (b1 - a1 : Nat)) 0, .v (kI x.1) 0, .v (kI x.2.1) 0]) (fun x => [(30, rowU (slV g d cap) x.2.2)]) (fun x => a1 ≤ x.1 ∧ x.1 < b1 ∧ PermIn a1 b1 e1 x.2.2) 14 rfl rfl ?_ ?_
    · have hwp : IntKind.i64.wrap (IntKind.i64.wrap ((b1 : Int) - 1) - IntKind.i64.wrap (((choosePivot ltInt e1 a1 b1).1 : Int) - a1)) = ((b1 - 1 - ((choosePivot ltInt e1 a1 b1).1 - a1) : Nat) : Int) := by rw [w64 (x := (b1 : Int) - 1) (by omega) (by omega), w64 (x := ((choosePivot ltInt e1 a1 b1).1 : Int) - a1) (by omega) (by omega), w64 (by omega) (by omega)]; omega
      refine a_if hT rfl rfl (fun h5 => ?_) (fun h5 => ?_)
      · have h5 := eq_of_beq h5
        refine a_call hT rfl rfl rfl (by kernel_rfl) S4 [30] [30] rfl rfl ?_
        rintro _ _ rfl
        exact a_next hT (b1 - 1 - ((choosePivot ltInt e1 a1 b1).1 - a1), (1 : Int), reverseRange e1 a1 b1) [30] rfl rfl ⟨by show a1 ≤ b1 - 1 - ((choosePivot ltInt e1 a1 b1).1 - a1); omega, by show b1 - 1 - ((choosePivot ltInt e1 a1 b1).1 - a1) < b1; omega, reverseRange_holds e1 a1 b1 (by omega) (by omega)⟩ ⟨rfl, rfl, rfl, rfl, rfl, rfl, rfl, by show Value.int .i64 _ = Value.int .i64 _; rw [hwp], rfl, trivial⟩ rfl ⟨⟨rfl, rfl, rfl, rfl⟩, trivial⟩
      · have h5 := ne_of_beq_false h5
        exact a_next hT ((choosePivot ltInt e1 a1 b1).1, hh, e1) [30] rfl rfl ⟨c1, c2, permIn_refl e1 a1 b1⟩ ⟨rfl, rfl, rfl, rfl, rfl, rfl, rfl, rfl, rfl, trivial⟩ rfl ⟨⟨rfl, rfl, rfl, rfl⟩, trivial⟩
    rintro ⟨pv, h2', e2⟩ ⟨hv1, hv2, hp2⟩
    dsimp only at hv1 hv2 hp2 ⊢
    have hs2 : e2.size = e1.size := hp2.1
    have hse2 : slV g e2 cap = slV g d cap := by unfold slV; rw [hs2, hs1, hs]
    have S5 := @partialIns_spec g cap e2 a1 b1 30 0 0 (by omega) (by omega) (by omega) (by omega)
    rw [hse2] at S5
    refine a_cutK hT [0, 1, 2, 3, 8, 9, 10, 11, 68] (fun y : Bool => [.row (slV g d cap) 30, .v (kI a1) 0, .v (kI b1) 0, .v (kI l2) 0, .v (.bool wb) 0, .v (.bool wp) 0, .v (kI (b1 - a1 : Nat)) 0, .v (kI pv) 0, .v (.bool y) 0]) (fun _ => [(30, rowU (slV g d cap) e2)]) (fun _ => True) 2 rfl rfl ?_ fun y _ => ?_
    · refine a_g hT rfl rfl rfl (fun h5 => ?_) (fun h5 => ?_)
      · refine a_g hT rfl rfl rfl (fun h6 => ?_) (fun h6 => ?_)
        · exact a_next hT (h2' == 1) [30] rfl rfl trivial ⟨rfl, rfl, rfl, rfl, rfl, rfl, rfl, rfl, rfl, trivial⟩ rfl ⟨⟨rfl, rfl, rfl, rfl⟩, trivial⟩
        · exact a_next hT false [30] rfl rfl trivial ⟨rfl, rfl, rfl, rfl, rfl, rfl, rfl, rfl, rfl, trivial⟩ rfl ⟨⟨rfl, rfl, rfl, rfl⟩, trivial⟩
      · refine a_gf hT rfl rfl rfl rfl ?_
        exact a_next hT false [30] rfl rfl trivial ⟨rfl, rfl, rfl, rfl, rfl, rfl, rfl, rfl, rfl, trivial⟩ rfl ⟨⟨rfl, rfl, rfl, rfl⟩, trivial⟩
    have hpt : PermIn a1 b1 e e2 := permIn_trans _ _ _ a1 b1 hp1 hp2
    refine a_cutK hT [0, 1, 2, 3, 8, 9, 10, 11] (fun _ : Unit => [.row (slV g d cap) 30, .v (kI a1) 0, .v (kI b1) 0, .v (kI l2) 0, .v (.bool wb) 0, .v (.bool wp) 0, .v (kI (b1 - a1 : Nat)) 0, .v (kI pv) 0]) (fun _ => [(30, rowU (slV g d cap) e2)]) (fun _ => True) 0 rfl rfl ?_ fun _ _ => ?_
    · refine a_if hT rfl rfl (fun h5 => ?_) (fun h5 => ?_)
      · refine a_call hT rfl rfl rfl (by kernel_rfl) S5 [30] [30] rfl rfl ?_
        rintro _ _ ⟨rfl, hr2, rfl⟩
        refine a_if hT rfl rfl (fun h6 => ?_) (fun h6 => ?_)
        · refine a_ret hT [30] rfl rfl rfl rfl rfl rfl ?_
          obtain ⟨_, q2⟩ := partialInsertionSort_holds (lt := ltInt) swo_ltInt e2 a1 b1 (by omega) (by omega) (hbel1.perm (by omega) hpt)
          rw [hr2] at q2
          obtain ⟨q3, q4⟩ := hg _ hpt (q2 h6)
          exact ⟨_, q3, q4, rfl⟩
        · exact a_next hT () [30] rfl rfl trivial ⟨rfl, rfl, rfl, rfl, rfl, rfl, rfl, rfl, trivial⟩ rfl ⟨⟨rfl, rfl, rfl, rfl⟩, trivial⟩
      · exact a_next hT () [30] rfl rfl trivial ⟨rfl, rfl, rfl, rfl, rfl, rfl, rfl, rfl, trivial⟩ rfl ⟨⟨rfl, rfl, rfl, rfl⟩, trivial⟩
    have hz2 : e2.size = d.size := by omega
    have hw1 : 0 < a1 → IntKind.i64.wrap ((a1 : Int) - 1) = ((a1 - 1 : Nat) : Int) := fun h => by rw [w64 (by omega) (by omega)]; omega
    have hw2 : IntKind.i64.wrap ((a1 : Int) + 1) = ((a1 + 1 : Nat) : Int) := by rw [w64 (by omega) (by omega)]; omega
    obtain ⟨m1, f1⟩ : ∃ x, partitionEqual ltInt e2 a1 b1 pv = x := ⟨_, rfl⟩
    obtain ⟨m2, ap2, f2⟩ : ∃ x, partition ltInt e2 a1 b1 pv = x := ⟨_, rfl⟩
    have hhd : 13 ≤ b1 - a1 := by omega
    refine a_cutK hT [0, 1, 2, 3, 8, 9, 10, 11, 87] (fun y : Bool => [.row (slV g d cap) 30, .v (kI a1) 0, .v (kI b1) 0, .v (kI l2) 0, .v (.bool wb) 0, .v (.bool wp) 0, .v (kI (b1 - a1 : Nat)) 0, .v (kI pv) 0, .v (.bool y) 0]) (fun _ => [(30, rowU (slV g d cap) e2)]) (fun y => y = true → 0 < a1 ∧ ltInt e2[a1 - 1]! e2[pv]! = false) 2 rfl rfl ?_ fun y hy => ?_
    · refine a_drawX hT [] 12 [(0, false), (1, false), (2, false), (3, false), (4, false), (5, false), (6, false), (7, false), (8, false), (9, false), (10, false), (11, false), (12, true)] rfl rfl (by kernel_rfl) (by kernel_rfl) rfl ?_
      refine a_g hT rfl rfl rfl (fun h5 => ?_) (fun h5 => ?_)
      · have h5 := of_decide_eq_true h5
        refine a_rix hT (a1 - 1) rfl rfl rfl rfl rfl rfl (by first | rfl | omega) (by omega) ?_
        refine a_uldP hT (a1 - 1) (e2) rfl rfl rfl rfl rfl rfl rfl (by first | omega | (simp only [Array.size_setIfInBounds, swp_size]; omega)) rfl ?_
        refine a_rix hT (pv) rfl rfl rfl rfl rfl rfl (by first | rfl | omega) (by omega) ?_
        refine a_uldP hT (pv) (e2) rfl rfl rfl rfl rfl rfl rfl (by first | omega | (simp only [Array.size_setIfInBounds, swp_size]; omega)) rfl ?_
        refine a_callF hT rfl rfl rfl (by kernel_rfl) (uless_spec (h := 0) (h1 := 0)) [] [] ⟨rfl, rfl, trivial⟩ rfl trivial ?_
        rintro _ _ ⟨rfl, rfl⟩
        refine a_rest hT [(13, true), (14, true)] rfl rfl (by kernel_rfl) ?_
        exact a_next hT (!decide (e2[a1 - 1]! < e2[pv]!)) [30] rfl rfl (fun h => ⟨by omega, by unfold ltInt; simpa using h⟩) ⟨rfl, rfl, rfl, rfl, rfl, rfl, rfl, rfl, rfl, trivial⟩ rfl ⟨⟨rfl, rfl, rfl, rfl⟩, trivial⟩
      · have h5 := of_decide_eq_false h5
        refine a_rest hT [(13, true), (14, true)] rfl rfl (by kernel_rfl) ?_
        exact a_next hT false [30] rfl rfl (fun h => nomatch h) ⟨rfl, rfl, rfl, rfl, rfl, rfl, rfl, rfl, rfl, trivial⟩ rfl ⟨⟨rfl, rfl, rfl, rfl⟩, trivial⟩
    have hB2 : Below ltInt a1 b1 e2 := hbel1.perm (by omega) hpt
    have S8 := @partEq_spec g cap e2 a1 b1 pv 30 0 0 0 hv1 hv2 (by omega) (by omega)
    have S9 := @partition_spec g cap e2 a1 b1 pv 30 0 0 0 hv1 hv2 (by omega) (by omega)
    obtain ⟨m1, e3, f1⟩ : ∃ m e3, partitionEqual ltInt e2 a1 b1 pv = (m, e3) := ⟨_, _, rfl⟩
    obtain ⟨m2, ap2, e4, f2⟩ : ∃ m ap e4, Go.Sort.partition ltInt e2 a1 b1 pv = (m, ap, e4) := ⟨_, _, _, rfl⟩
    rw [hse2, f1] at S8
    rw [hse2, f2] at S9
    dsimp only at S8 S9
    obtain ⟨r1, r2, r3, r4, r5, r6, r7⟩ := round_part (lt := ltInt) swo_ltInt (partition_holds ltInt) hv1 hv2 (by omega) hB2 f2
    have hse4 : slV g e4 cap = slV g d cap := by unfold slV; rw [r3, hz2]
    have S10 := @ih (m2 - a1) (by omega) g cap e4 a1 m2 l2 30 0 0 0 (Nat.le_refl _) r1 (by omega) (by omega) (by omega) (by omega) (by omega) r4
    have S11 := @ih (b1 - (m2 + 1)) (by omega) g cap e4 (m2 + 1) b1 l2 30 0 0 0 (Nat.le_refl _) (by omega) (by omega) (by omega) (by omega) (by omega) (by omega) r5
    rw [hse4] at S10 S11
    have hwm : IntKind.i64.wrap ((m2 : Int) + 1) = ((m2 + 1 : Nat) : Int) := by rw [w64 (by omega) (by omega)]; omega
    rw [show AV.v (kI ((m2 + 1 : Nat) : Int)) 0 = AV.v (Value.int .i64 (IntKind.i64.wrap ((m2 : Int) + 1))) 0 by rw [hwm]; rfl] at S11
    refine a_if hT rfl rfl (fun h5 => ?_) (fun h5 => ?_)
    · obtain ⟨g1, g2⟩ := hy h5
      obtain ⟨t1, t2, t3, t4, t5⟩ := round_eq (lt := ltInt) swo_ltInt (partitionEqual_holds ltInt) g1 hv1 hv2 (by omega) hB2 g2 f1
      refine a_call hT rfl rfl rfl (by kernel_rfl) S8 [30] [30] rfl rfl ?_
      rintro _ _ ⟨rfl, rfl⟩
      exact a_next hT (m1, b1, l2, wb, wp, e3) [30] rfl rfl ⟨⟨by show e3.size = d.size; omega, by show m1 ≤ b1; omega, by show a ≤ m1; omega, hb0, by show b1 - m1 < l2 + 12; omega, by show l2 ≤ 100; omega, t4, fun R w1 w2 => (fun w => hg R (permIn_trans _ _ _ a1 b1 hpt w.1) w.2) (t5 R w1 w2)⟩, by show b1 - m1 < b1 - a1; omega⟩ ⟨rfl, rfl, rfl, rfl, rfl, rfl, trivial⟩ rfl ⟨⟨rfl, rfl, rfl, rfl⟩, trivial⟩
    · refine a_call hT rfl rfl rfl (by kernel_rfl) S9 [30] [30] rfl rfl ?_
      rintro _ _ ⟨rfl, rfl⟩
      refine a_bin hT _ rfl rfl rfl (by decide) rfl rfl (fun w => (bin_quo (by decide) w)) ?_
      refine a_if hT rfl rfl (fun h6 => ?_) (fun h6 => ?_)
      · have h6 := of_decide_eq_true h6
        refine a_call hT rfl rfl rfl (by kernel_rfl) S10 [30] [30] rfl rfl ?_
        rintro _ _ ⟨d', hr2, hr3, rfl⟩
        obtain ⟨u1, u2⟩ := r6 d' hr2 hr3
        have u3 : d'.size = e4.size := hr2.1
        exact a_next hT (m2 + 1, b1, l2, decide (IntKind.i64.wrap ((m2 : Int) - a1) ≥ IntKind.i64.wrap (Int.tdiv ((b1 - a1 : Nat) : Int) 8)), ap2, d') [30] rfl rfl ⟨⟨by show d'.size = d.size; omega, by show m2 + 1 ≤ b1; omega, by show a ≤ m2 + 1; omega, hb0, by show b1 - (m2 + 1) < l2 + 12; omega, by show l2 ≤ 100; omega, u1, fun R w1 w2 => (fun w => hg R (permIn_trans _ _ _ a1 b1 hpt w.1) w.2) (u2 R w1 w2)⟩, by show b1 - (m2 + 1) < b1 - a1; omega⟩ ⟨rfl, by show Value.int .i64 _ = Value.int .i64 _; rw [hwm], rfl, rfl, rfl, rfl, trivial⟩ rfl ⟨⟨rfl, rfl, rfl, rfl⟩, trivial⟩
      · have h6 := of_decide_eq_false h6
        refine a_call hT rfl rfl rfl (by kernel_rfl) S11 [30] [30] rfl rfl ?_
        rintro _ _ ⟨d', hr2, hr3, rfl⟩
        obtain ⟨u1, u2⟩ := r7 d' hr2 hr3
        have u3 : d'.size = e4.size := hr2.1
        exact a_next hT (a1, m2, l2, decide (IntKind.i64.wrap ((b1 : Int) - m2) ≥ IntKind.i64.wrap (Int.tdiv ((b1 - a1 : Nat) : Int) 8)), ap2, d') [30] rfl rfl ⟨⟨by show d'.size = d.size; omega, by show a1 ≤ m2; omega, ha0, by show m2 ≤ b; omega, by show m2 - a1 < l2 + 12; omega, by show l2 ≤ 100; omega, u1, fun R w1 w2 => (fun w => hg R (permIn_trans _ _ _ a1 b1 hpt w.1) w.2) (u2 R w1 w2)⟩, by show m2 - a1 < b1 - a1; omega⟩ ⟨rfl, rfl, rfl, rfl, rfl, rfl, trivial⟩ rfl ⟨⟨rfl, rfl, rfl, rfl⟩, trivial⟩
end Go.Proofs.Ytdconcindpfmcaa
end

section
/- slices.Sort of at most 16 numbers: any row. -/
set_option linter.unusedVariables false
set_option linter.unusedSimpArgs false
set_option maxRecDepth 100000
namespace Go.Proofs.Ytdconcindpfmcaa
open V A Go.Sort
theorem len64_any {n h : Nat} (hn : n ≤ 16) : ∃ k : Nat, n < k + 12 ∧ k ≤ 100 ∧ FSpec Try.prog 103 [.v (kU n) h] [] fun r cs => r = .v (kI k) 0 ∧ cs = [] := by
  have hc : n = 0 ∨ n = 1 ∨ n = 2 ∨ n = 3 ∨ n = 4 ∨ n = 5 ∨ n = 6 ∨ n = 7 ∨ n = 8 ∨ n = 9 ∨ n = 10 ∨ n = 11 ∨ n = 12 ∨ n = 13 ∨ n = 14 ∨ n = 15 ∨ n = 16 := by omega
  rcases hc with rfl | rfl | rfl | rfl | rfl | rfl | rfl | rfl | rfl | rfl | rfl | rfl | rfl | rfl | rfl | rfl | rfl
  · refine ⟨0, by omega, by omega, ?_⟩
    refine a_enter hT [.v (kU ((0 : Nat) : Int)) 0] [] Try.func103 rfl rfl rfl ⟨rfl, trivial⟩ fun c => ?_
    refine a_f hT rfl rfl rfl ?_
    refine a_f hT rfl rfl rfl ?_
    refine a_f hT rfl rfl rfl ?_
    refine a_sx hT rfl rfl rfl rfl rfl rfl (by first | omega | decide) (by first | omega | decide) ?_
    refine a_ret hT [] rfl rfl rfl rfl rfl rfl ?_
    first | exact ⟨rfl, rfl⟩ | rfl
  · refine ⟨1, by omega, by omega, ?_⟩
    refine a_enter hT [.v (kU ((1 : Nat) : Int)) 0] [] Try.func103 rfl rfl rfl ⟨rfl, trivial⟩ fun c => ?_
    refine a_f hT rfl rfl rfl ?_
    refine a_f hT rfl rfl rfl ?_
    refine a_f hT rfl rfl rfl ?_
    refine a_sx hT rfl rfl rfl rfl rfl rfl (by first | omega | decide) (by first | omega | decide) ?_
    refine a_ret hT [] rfl rfl rfl rfl rfl rfl ?_
    first | exact ⟨rfl, rfl⟩ | rfl
  · refine ⟨2, by omega, by omega, ?_⟩
    refine a_enter hT [.v (kU ((2 : Nat) : Int)) 0] [] Try.func103 rfl rfl rfl ⟨rfl, trivial⟩ fun c => ?_
    refine a_f hT rfl rfl rfl ?_
    refine a_f hT rfl rfl rfl ?_
    refine a_f hT rfl rfl rfl ?_
    refine a_sx hT rfl rfl rfl rfl rfl rfl (by first | omega | decide) (by first | omega | decide) ?_
    refine a_ret hT [] rfl rfl rfl rfl rfl rfl ?_
    first | exact ⟨rfl, rfl⟩ | rfl
  · refine ⟨2, by omega, by omega, ?_⟩
    refine a_enter hT [.v (kU ((3 : Nat) : Int)) 0] [] Try.func103 rfl rfl rfl ⟨rfl, trivial⟩ fun c => ?_
    refine a_f hT rfl rfl rfl ?_
    refine a_f hT rfl rfl rfl ?_
    refine a_f hT rfl rfl rfl ?_
    refine a_sx hT rfl rfl rfl rfl rfl rfl (by first | omega | decide) (by first | omega | decide) ?_
    refine a_ret hT [] rfl rfl rfl rfl rfl rfl ?_
    first | exact ⟨rfl, rfl⟩ | rfl
  · refine ⟨3, by omega, by omega, ?_⟩
    refine a_enter hT [.v (kU ((4 : Nat) : Int)) 0] [] Try.func103 rfl rfl rfl ⟨rfl, trivial⟩ fun c => ?_
    refine a_f hT rfl rfl rfl ?_
    refine a_f hT rfl rfl rfl ?_
    refine a_f hT rfl rfl rfl ?_
    refine a_sx hT rfl rfl rfl rfl rfl rfl (by first | omega | decide) (by first | omega | decide) ?_
    refine a_ret hT [] rfl rfl rfl rfl rfl rfl ?_
    first | exact ⟨rfl, rfl⟩ | rfl
  · refine ⟨3, by omega, by omega, ?_⟩
    refine a_enter hT [.v (kU ((5 : Nat) : Int)) 0] [] Try.func103 rfl rfl rfl ⟨rfl, trivial⟩ fun c => ?_
    refine a_f hT rfl rfl rfl ?_
    refine a_f hT rfl rfl rfl ?_
    refine a_f hT rfl rfl rfl ?_
    refine a_sx hT rfl rfl rfl rfl rfl rfl (by first | omega | decide) (by first | omega | decide) ?_
    refine a_ret hT [] rfl rfl rfl rfl rfl rfl ?_
    first | exact ⟨rfl, rfl⟩ | rfl
  · refine ⟨3, by omega, by omega, ?_⟩
    refine a_enter hT [.v (kU ((6 : Nat) : Int)) 0] [] Try.func103 rfl rfl rfl ⟨rfl, trivial⟩ fun c => ?_
    refine a_f hT rfl rfl rfl ?_
    refine a_f hT rfl rfl rfl ?_
    refine a_f hT rfl rfl rfl ?_
    refine a_sx hT rfl rfl rfl rfl rfl rfl (by first | omega | decide) (by first | omega | decide) ?_
    refine a_ret hT [] rfl rfl rfl rfl rfl rfl ?_
    first | exact ⟨rfl, rfl⟩ | rfl
  · refine ⟨3, by omega, by omega, ?_⟩
    refine a_enter hT [.v (kU ((7 : Nat) : Int)) 0] [] Try.func103 rfl rfl rfl ⟨rfl, trivial⟩ fun c => ?_
    refine a_f hT rfl rfl rfl ?_
    refine a_f hT rfl rfl rfl ?_
    refine a_f hT rfl rfl rfl ?_
    refine a_sx hT rfl rfl rfl rfl rfl rfl (by first | omega | decide) (by first | omega | decide) ?_
    refine a_ret hT [] rfl rfl rfl rfl rfl rfl ?_
    first | exact ⟨rfl, rfl⟩ | rfl
  · refine ⟨4, by omega, by omega, ?_⟩
    refine a_enter hT [.v (kU ((8 : Nat) : Int)) 0] [] Try.func103 rfl rfl rfl ⟨rfl, trivial⟩ fun c => ?_
    refine a_f hT rfl rfl rfl ?_
    refine a_f hT rfl rfl rfl ?_
    refine a_f hT rfl rfl rfl ?_
    refine a_sx hT rfl rfl rfl rfl rfl rfl (by first | omega | decide) (by first | omega | decide) ?_
    refine a_ret hT [] rfl rfl rfl rfl rfl rfl ?_
    first | exact ⟨rfl, rfl⟩ | rfl
  · refine ⟨4, by omega, by omega, ?_⟩
    refine a_enter hT [.v (kU ((9 : Nat) : Int)) 0] [] Try.func103 rfl rfl rfl ⟨rfl, trivial⟩ fun c => ?_
    refine a_f hT rfl rfl rfl ?_
    refine a_f hT rfl rfl rfl ?_
    refine a_f hT rfl rfl rfl ?_
    refine a_sx hT rfl rfl rfl rfl rfl rfl (by first | omega | decide) (by first | omega | decide) ?_
    refine a_ret hT [] rfl rfl rfl rfl rfl rfl ?_
    first | exact ⟨rfl, rfl⟩ | rfl
  · refine ⟨4, by omega, by omega, ?_⟩
    refine a_enter hT [.v (kU ((10 : Nat) : Int)) 0] [] Try.func103 rfl rfl rfl ⟨rfl, trivial⟩ fun c => ?_
    refine a_f hT rfl rfl rfl ?_
    refine a_f hT rfl rfl rfl ?_
    refine a_f hT rfl rfl rfl ?_
    refine a_sx hT rfl rfl rfl rfl rfl rfl (by first | omega | decide) (by first | omega | decide) ?_
    refine a_ret hT [] rfl rfl rfl rfl rfl rfl ?_
    first | exact ⟨rfl, rfl⟩ | rfl
  · refine ⟨4, by omega, by omega, ?_⟩
    refine a_enter hT [.v (kU ((11 : Nat) : Int)) 0] [] Try.func103 rfl rfl rfl ⟨rfl, trivial⟩ fun c => ?_
    refine a_f hT rfl rfl rfl ?_
    refine a_f hT rfl rfl rfl ?_
    refine a_f hT rfl rfl rfl ?_
    refine a_sx hT rfl rfl rfl rfl rfl rfl (by first | omega | decide) (by first | omega | decide) ?_
    refine a_ret hT [] rfl rfl rfl rfl rfl rfl ?_
    first | exact ⟨rfl, rfl⟩ | rfl
  · refine ⟨4, by omega, by omega, ?_⟩
    refine a_enter hT [.v (kU ((12 : Nat) : Int)) 0] [] Try.func103 rfl rfl rfl ⟨rfl, trivial⟩ fun c => ?_
    refine a_f hT rfl rfl rfl ?_
    refine a_f hT rfl rfl rfl ?_
    refine a_f hT rfl rfl rfl ?_
    refine a_sx hT rfl rfl rfl rfl rfl rfl (by first | omega | decide) (by first | omega | decide) ?_
    refine a_ret hT [] rfl rfl rfl rfl rfl rfl ?_
    first | exact ⟨rfl, rfl⟩ | rfl
  · refine ⟨4, by omega, by omega, ?_⟩
    refine a_enter hT [.v (kU ((13 : Nat) : Int)) 0] [] Try.func103 rfl rfl rfl ⟨rfl, trivial⟩ fun c => ?_
    refine a_f hT rfl rfl rfl ?_
    refine a_f hT rfl rfl rfl ?_
    refine a_f hT rfl rfl rfl ?_
    refine a_sx hT rfl rfl rfl rfl rfl rfl (by first | omega | decide) (by first | omega | decide) ?_
    refine a_ret hT [] rfl rfl rfl rfl rfl rfl ?_
    first | exact ⟨rfl, rfl⟩ | rfl
  · refine ⟨4, by omega, by omega, ?_⟩
    refine a_enter hT [.v (kU ((14 : Nat) : Int)) 0] [] Try.func103 rfl rfl rfl ⟨rfl, trivial⟩ fun c => ?_
    refine a_f hT rfl rfl rfl ?_
    refine a_f hT rfl rfl rfl ?_
    refine a_f hT rfl rfl rfl ?_
    refine a_sx hT rfl rfl rfl rfl rfl rfl (by first | omega | decide) (by first | omega | decide) ?_
    refine a_ret hT [] rfl rfl rfl rfl rfl rfl ?_
    first | exact ⟨rfl, rfl⟩ | rfl
  · refine ⟨4, by omega, by omega, ?_⟩
    refine a_enter hT [.v (kU ((15 : Nat) : Int)) 0] [] Try.func103 rfl rfl rfl ⟨rfl, trivial⟩ fun c => ?_
    refine a_f hT rfl rfl rfl ?_
    refine a_f hT rfl rfl rfl ?_
    refine a_f hT rfl rfl rfl ?_
    refine a_sx hT rfl rfl rfl rfl rfl rfl (by first | omega | decide) (by first | omega | decide) ?_
    refine a_ret hT [] rfl rfl rfl rfl rfl rfl ?_
    first | exact ⟨rfl, rfl⟩ | rfl
  · refine ⟨5, by omega, by omega, ?_⟩
    refine a_enter hT [.v (kU ((16 : Nat) : Int)) 0] [] Try.func103 rfl rfl rfl ⟨rfl, trivial⟩ fun c => ?_
    refine a_f hT rfl rfl rfl ?_
    refine a_f hT rfl rfl rfl ?_
    refine a_f hT rfl rfl rfl ?_
    refine a_sx hT rfl rfl rfl rfl rfl rfl (by first | omega | decide) (by first | omega | decide) ?_
    refine a_ret hT [] rfl rfl rfl rfl rfl rfl ?_
    first | exact ⟨rfl, rfl⟩ | rfl
theorem len_any {n h : Nat} (hn : n ≤ 16) : ∃ k : Nat, n < k + 12 ∧ k ≤ 100 ∧ FSpec Try.prog 91 [.v (kU n) h] [] fun r cs => r = .v (kI k) 0 ∧ cs = [] := by
  obtain ⟨k, h1, h2, h3⟩ := len64_any (h := 0) hn
  refine ⟨k, h1, h2, ?_⟩
  refine a_enter hT [.v (kU n) 0] [] Try.func91 rfl rfl rfl ⟨rfl, trivial⟩ fun c => ?_
  refine a_f hT rfl rfl rfl ?_
  refine a_call hT rfl rfl rfl (by kernel_rfl) h3 [] [] rfl rfl ?_
  rintro _ _ ⟨rfl, rfl⟩
  refine a_ret hT [] rfl rfl rfl rfl rfl rfl ?_
  first | exact ⟨rfl, rfl⟩ | rfl
theorem sortA_spec {g cap h : Nat} {d : Array Int} (hd : d.size ≤ 16) : FSpec Try.prog 86 [.row (slV g d cap) h] [rowU (slV g d cap) d] fun _ cs => ∃ d', PermIn 0 d.size d d' ∧ SortedIn ltInt 0 d.size d' ∧ cs = [rowU (slV g d cap) d'] := by
  obtain ⟨k, h1, h2, h3⟩ := len_any (h := 0) hd
  have hw : IntKind.u64.wrap (d.size : Int) = d.size := wrapU (by omega) (by omega)
  have S0 := @pdq_spec (d.size - 0) g cap d 0 d.size k 30 0 0 0 (Nat.le_refl _) (by omega) (Nat.le_refl _) (by omega) (by omega) (by omega) h2 (.inl rfl)
  have hlen : (d.size : Int) = ((d.toList.map eU).length : Nat) := by simp
  rw [show (d.size : Int) = IntKind.u64.wrap (((d.toList.map eU).length : Nat) : Int) by rw [← hlen, hw]] at h3
  rw [hlen] at S0
  refine a_enter hT [.row (slV g d cap) 30] [30] Try.func86 rfl rfl rfl ⟨rfl, trivial⟩ fun c => ?_
  refine a_call hT rfl rfl rfl (by kernel_rfl) h3 [] [] rfl rfl ?_
  rintro _ _ ⟨rfl, rfl⟩
  refine a_call hT rfl rfl rfl (by kernel_rfl) S0 [30] [30] rfl rfl ?_
  rintro _ _ ⟨d', hr, hr1, rfl⟩
  refine a_end hT [30] rfl rfl rfl rfl rfl rfl ?_
  exact ⟨_, hr, hr1, rfl⟩
theorem insN_spec {h h1 h2 : Nat} : FSpec Try.prog 93 [.row (.slice none 0 0) h, .v (kI 0) h1, .v (kI 0) h2] [.row (.slice none 0 0) 43 1 []] fun _ cs => cs = [.row (.slice none 0 0) 43 1 []] := by
  refine a_enter hT [.row (.slice none 0 0) 30, .v (kI 0) 0, .v (kI 0) 0] [30] Try.func93 rfl rfl rfl ⟨rfl, rfl, rfl, trivial⟩ fun c => ?_
  refine a_loop hT [0, 1, 2, 6] (fun _ : Unit => [.row (.slice none 0 0) 30, .v (kI 0) 0, .v (kI 0) 0, .v (kI 1) 0]) (fun _ => [(30, .row (.slice none 0 0) 43 1 [])]) (fun _ => True) (fun _ => 0) () [30] rfl rfl trivial ⟨rfl, rfl, rfl, rfl, trivial⟩ rfl ⟨⟨rfl, rfl, rfl, rfl⟩, trivial⟩ ?_
  rintro ⟨⟩ _
  refine a_f hT rfl rfl rfl ?_
  refine a_end hT [30] rfl rfl rfl rfl rfl rfl ?_
  first | exact ⟨rfl, rfl⟩ | rfl
theorem pdqN_spec {h h1 h2 h3 : Nat} {k : Nat} : FSpec Try.prog 90 [.row (.slice none 0 0) h, .v (kI 0) h1, .v (kI 0) h2, .v (kI k) h3] [.row (.slice none 0 0) 43 1 []] fun _ cs => cs = [.row (.slice none 0 0) 43 1 []] := by
  refine a_enter hT [.row (.slice none 0 0) 30, .v (kI 0) 0, .v (kI 0) 0, .v (kI k) 0] [30] Try.func90 rfl rfl rfl ⟨rfl, rfl, rfl, rfl, trivial⟩ fun c => ?_
  refine a_loop hT [0, 1, 2, 3, 8, 9] (fun _ : Unit => [.row (.slice none 0 0) 30, .v (kI 0) 0, .v (kI 0) 0, .v (kI k) 0, .v (.bool true) 0, .v (.bool true) 0]) (fun _ => [(30, .row (.slice none 0 0) 43 1 [])]) (fun _ => True) (fun _ => 0) () [30] rfl rfl trivial ⟨rfl, rfl, rfl, rfl, rfl, rfl, trivial⟩ rfl ⟨⟨rfl, rfl, rfl, rfl⟩, trivial⟩ ?_
  rintro ⟨⟩ _
  refine a_t hT rfl rfl rfl ?_
  refine a_call hT rfl rfl rfl (by kernel_rfl) insN_spec [30] [30] rfl rfl ?_
  rintro _ _ rfl
  refine a_ret hT [30] rfl rfl rfl rfl rfl rfl ?_
  first | exact ⟨rfl, rfl⟩ | rfl
theorem sortN_spec {h : Nat} : FSpec Try.prog 86 [.row (.slice none 0 0) h] [.row (.slice none 0 0) 43 1 []] fun _ cs => cs = [.row (.slice none 0 0) 43 1 []] := by
  obtain ⟨k, h1, h2, h3⟩ := len_any (n := 0) (h := 0) (by omega)
  refine a_enter hT [.row (.slice none 0 0) 30] [30] Try.func86 rfl rfl rfl ⟨rfl, trivial⟩ fun c => ?_
  refine a_call hT rfl rfl rfl (by kernel_rfl) h3 [] [] rfl rfl ?_
  rintro _ _ ⟨rfl, rfl⟩
  refine a_call hT rfl rfl rfl (by kernel_rfl) pdqN_spec [30] [30] rfl rfl ?_
  rintro _ _ rfl
  refine a_end hT [30] rfl rfl rfl rfl rfl rfl ?_
  first | exact ⟨rfl, rfl⟩ | rfl
def sortL (l : List Int) : List Int := l.mergeSort fun x y => !ltInt y x
theorem ltInt_tot (x y : Int) (h1 : ltInt x y = false) (h2 : ltInt y x = false) : x = y := by
  unfold ltInt at h1 h2; simp at h1 h2; omega
theorem sortL_of {l m : List Int} (hp : m.Perm l) (hs : m.Pairwise (· < ·)) : sortL l = m := by
  have := sorted_unique_holds (lt := ltInt) swo_ltInt ltInt_tot l.toArray m.toArray ⟨by simpa using hp.length_eq, fun i h => ?_, by have e := hp.length_eq; simp [← e]; rw [List.take_of_length_le (by omega)]; exact hp⟩ fun i j hi hij hj => ?_
  · exact this.symm
  · have h : l.length ≤ i := by simpa using h
    have h' : m.length ≤ i := by rw [hp.length_eq]; exact h
    simp [h, h']
  · have hj : j < m.length := by rw [hp.length_eq]; simpa using hj
    have h := List.pairwise_iff_getElem.1 hs i j (by omega) hj hij
    rw [getElem!_pos _ _ (by simpa using hj), getElem!_pos _ _ (by simp; omega)]
    unfold ltInt
    simp
    omega
theorem sort_spec {v : Value} {h : Nat} {l : List Int} (hf : (v = .slice none 0 0 ∧ l = []) ∨ ∃ g cap, v = .slice (some ⟨g, 0, none⟩) l.length cap) (hl : l.length ≤ 16) : FSpec Try.prog 86 [.row v h] [.row v 43 1 (l.map eU)] fun _ cs => cs = [.row v 43 1 ((sortL l).map eU)] := by
  rcases hf with ⟨rfl, rfl⟩ | ⟨g, cap, rfl⟩
  · have e : sortL [] = [] := sortL_of (List.Perm.refl _) List.Pairwise.nil
    rw [e]
    exact sortN_spec
  · exact (sortA_spec (g := g) (cap := cap) (d := l.toArray) (by simpa using hl)).mono fun a cs => by
      rintro ⟨d', h1, h2, rfl⟩
      have e := sorted_unique_holds (lt := ltInt) swo_ltInt ltInt_tot l.toArray d' h1 h2
      have hsz : d'.size = l.length := by simpa using h1.1
      show [Chunk.row _ _ _ (d'.toList.map eU)] = _
      rw [e]
      rfl
end Go.Proofs.Ytdconcindpfmcaa
end

section
/- The client's Open: slices.Sorted(maps.Keys(calls)). -/
set_option linter.unusedVariables false
set_option linter.unusedSimpArgs false
set_option maxRecDepth 100000
namespace Go.Proofs.Ytdconcindpfmcaa
open V A
theorem collect_spec {gf N h : Nat} {caps : List AV} {B : Asrt} {T : List Int → Prop} (hN : N ≤ 1000000) (hb : callOk Try.prog gf = true)
    (hit : ∀ l (J : List Int → Asrt), (∀ pre x, pre.length < N → YSpec Try.prog l [.v (kU x) 0] (J pre) (J (pre ++ [x]))) → FSpec Try.prog gf (.v (.func (.yield l) #[] #[]) 0 :: caps) [.ext B, .ext (J [])] fun _ cs' => ∃ ys, T ys ∧ cs' = [.ext B, .ext (J ys)]) :
    FSpec Try.prog 85 [.fn gf caps] [.ext B] fun a cs' => ∃ v ys, T ys ∧ a = .row v 1 ∧ cs' = [.ext B, rowL v ys] := by
  refine a_enter hT [.fn gf caps] [50] Try.func85 rfl rfl rfl (Fits.refl _) fun c => ?_
  refine a_call hT rfl rfl rfl (by kernel_rfl) (appendSeq_spec (h := 0) hN hb hit) [50] [50, 1] rfl rfl ?_
  rintro _ _ ⟨v, ys, hT1, rfl, rfl⟩
  refine a_ret hT [50, 1] rfl rfl rfl rfl rfl rfl ?_
  exact ⟨v, ys, hT1, rfl, rfl⟩
theorem sorted_spec {gf N h : Nat} {caps : List AV} {B : Asrt} {T : List Int → Prop} (hN : N ≤ 1000000) (hb : callOk Try.prog gf = true) (hl : ∀ ys, T ys → ys.length ≤ 16)
    (hit : ∀ l (J : List Int → Asrt), (∀ pre x, pre.length < N → YSpec Try.prog l [.v (kU x) 0] (J pre) (J (pre ++ [x]))) → FSpec Try.prog gf (.v (.func (.yield l) #[] #[]) 0 :: caps) [.ext B, .ext (J [])] fun _ cs' => ∃ ys, T ys ∧ cs' = [.ext B, .ext (J ys)]) :
    FSpec Try.prog 76 [.fn gf caps] [.ext B] fun a cs' => ∃ v ys, T ys ∧ a = .row v 1 ∧ cs' = [.ext B, rowL v (sortL ys)] := by
  refine a_enter hT [.fn gf caps] [50] Try.func76 rfl rfl rfl (Fits.refl _) fun c => ?_
  refine a_call hT rfl rfl rfl (by kernel_rfl) (collect_spec (h := 0) hN hb hit) [50] [50, 1] rfl rfl ?_
  rintro _ _ ⟨v, ys, hT1, rfl, rfl⟩
  refine a_rowfact 1 rfl rfl fun hf => ?_
  have hf : (v = .slice none 0 0 ∧ ys = []) ∨ ∃ g cap, v = .slice (some ⟨g, 0, none⟩) ys.length cap := by
    rcases hf with ⟨h1, h2⟩ | ⟨g, cap, h1⟩
    · exact .inl ⟨h1, by simpa using h2⟩
    · exact .inr ⟨g, cap, by rw [h1]; simp⟩
  refine a_call hT rfl rfl rfl (by kernel_rfl) (sort_spec (h := 1) hf (hl ys hT1)) [1] [1] rfl rfl ?_
  rintro _ _ rfl
  refine a_ret hT [50, 1] rfl rfl rfl rfl rfl rfl ?_
  exact ⟨v, ys, hT1, rfl, rfl⟩
end Go.Proofs.Ytdconcindpfmcaa
end

section
/- Layer 19: Entries. -/
set_option linter.unusedVariables false
set_option linter.unusedSimpArgs false
set_option maxRecDepth 100000
namespace Go.Proofs.Ytdconcindpfmcaa
open V A
theorem ekeys_spec {h r : Nat} {L : List (Int × DE)} : FSpec Try.prog 77 [.v (.map (some r)) h] [.map r (mapG kU entAV L)] fun a cs => ∃ gb, a = .fn 87 [.v (.pointer (some ⟨gb, 0, none⟩)) 10] ∧ cs = [mBlk gb r, .map r (mapG kU entAV L)] := by
  refine a_enter hT [.v (.map (some r)) 11] [11] Try.func77 rfl rfl rfl ⟨rfl, trivial⟩ fun c => ?_
  refine a_box hT 10 rfl rfl rfl rfl fun g => ?_
  refine a_ret hT [10, 11] rfl rfl rfl rfl rfl rfl ?_
  exact ⟨g, rfl, rfl⟩
theorem ekeys_hit {gb r : Nat} {L : List (Int × DE)} : ∀ l (J : List Int → Asrt), (∀ pre x, pre.length < L.length → YSpec Try.prog l [.v (kU x) 0] (J pre) (J (pre ++ [x]))) → FSpec Try.prog 87 (.v (.func (.yield l) #[] #[]) 0 :: [.v (.pointer (some ⟨gb, 0, none⟩)) 10]) [.ext (listA [mBlk gb r, .map r (mapG kU entAV L)]), .ext (J [])]
    fun _ cs' => ∃ ys : List Int, ys.Perm (L.map (·.1)) ∧ cs' = [.ext (listA [mBlk gb r, .map r (mapG kU entAV L)]), .ext (J ys)] := by
  intro l J hY
  refine FSpec.ent (cs' := [mBlk gb r, .map r (mapG kU entAV L), .ext (J [])]) ((keys1_spec fun pre x _ hl => hY pre x hl).weak ?_) (Ent.app (b := [.ext (J [])]) (b' := [.ext (J [])]) (ent_open [mBlk gb r, .map r (mapG kU entAV L)]) (Ent.refl _))
  rintro a cs ⟨ys, hp, rfl⟩
  exact ⟨a, [.ext (listA [mBlk gb r, .map r (mapG kU entAV L)]), .ext (J ys)], [], Fit.refl _, by rw [List.append_nil]; exact Ent.app (b := [.ext (J ys)]) (b' := [.ext (J ys)]) (ent_shut [mBlk gb r, .map r (mapG kU entAV L)]) (Ent.refl _), ys, hp, rfl⟩
def entsP (T : PT) (num : Int) : List Int := ((aget T num).map fun c => c.ents.map (·.1)).getD []
theorem Entries_spec {g h h1 : Nat} {T : PT} {num : Int} (hl : (entsP T num).length ≤ 16) : FSpec Try.prog 57 [ptrA g h, .v (kI num) h1] [.ext (tabA g T)] fun a cs => ∃ T', ((∃ ys : List Int, ys.Perm (entsP T num) ∧ a = .d (.sl 1 ((sortL ys).map eU))) ∧ T' = T) ∧ cs = [.ext (tabA g T')] := by
  refine FSpec.weak (R := fun a cs => ∃ a', Fit a a' ∧ (∃ ys : List Int, ys.Perm (entsP T num) ∧ a' = .d (.sl 1 ((sortL ys).map eU))) ∧ cs = [.ext (tabA g T)]) ?_ fun a cs ⟨a', h1, h2, h3⟩ => ⟨a', [.ext (tabA g T)], [], h1, by rw [h3, List.append_nil]; exact Ent.refl _, T, ⟨h2, rfl⟩, rfl⟩
  refine FSpec.mono (R := fun a cs => ∃ T', ((∃ a', Fit a a' ∧ ∃ ys : List Int, ys.Perm (entsP T num) ∧ a' = .d (.sl 1 ((sortL ys).map eU))) ∧ T' = T) ∧ cs = [.ext (tabA g T')]) ?_ fun a cs ⟨T', ⟨⟨a', h1, h2⟩, h3⟩, h4⟩ => ⟨a', h1, h2, by rw [h4, h3]⟩
  refine tab_spec (R := fun a T' => (∃ a', Fit a a' ∧ ∃ ys : List Int, ys.Perm (entsP T num) ∧ a' = .d (.sl 1 ((sortL ys).map eU))) ∧ T' = T) fun mo cl hmo hp => ?_
  subst hp
  have hnil : sortL [] = [] := sortL_of (List.Perm.refl _) List.Pairwise.nil
  refine a_enter hT [ptrA g 10, .v (kI num) 0] [10, 11, 14] Try.func57 rfl rfl rfl ⟨rfl, rfl, trivial⟩ fun c => ?_
  refine a_gf hT rfl rfl rfl rfl ?_
  cases mo with
  | none =>
    cases hmo rfl
    refine a_lookN hT num rfl rfl rfl mtC kI_ok zeroC rfl rfl ?_
    refine a_t hT rfl rfl rfl ?_
    exact a_ret hT [10, 11, 14] rfl rfl rfl rfl rfl rfl ⟨_, ⟨⟨.d (.sl 1 ((sortL []).map eU)), by rw [hnil]; exact ⟨rfl, rfl⟩, [], List.Perm.refl _, rfl⟩, rfl⟩, tab_pack hmo rfl⟩
  | some m =>
    cases hres : aget cl num with
    | none =>
      refine a_lookG hT (kv := kI) (va := clV) cl num none rfl rfl rfl mtC kI_ok zeroC rfl rfl rfl rfl rfl hres ?_
      refine a_t hT rfl rfl rfl ?_
      exact a_ret hT [10, 11, 14] rfl rfl rfl rfl rfl rfl ⟨_, ⟨⟨.d (.sl 1 ((sortL []).map eU)), by rw [hnil]; exact ⟨rfl, rfl⟩, [], by unfold entsP; rw [aget_plain, hres]; exact List.Perm.refl _, rfl⟩, rfl⟩, tab_pack hmo rfl⟩
    | some x =>
      have hents : entsP (plainT cl) num = x.c.ents.map (·.1) := by unfold entsP; rw [aget_plain, hres]; rfl
      rw [hents] at hl ⊢
      refine a_lookG hT (kv := kI) (va := clV) cl num (some x) rfl rfl rfl mtC kI_ok zeroC rfl rfl rfl rfl rfl hres ?_
      refine a_f hT rfl rfl rfl ?_
      refine a_lookG hT (kv := kI) (va := clV) cl num (some x) rfl rfl rfl mtC kI_ok zeroC rfl rfl rfl rfl rfl hres ?_
      obtain ⟨a, b, hab, hna⟩ := aget_split hres
      refine a_ent [14] [12, 13, 14] (clC x ++ [.ext (listA (clsC a ++ clsC b))]) rfl rfl (by rw [hab, clsC_app]; exact ent_focus (clsC a) (clC x) (clsC b)) ?_
      refine a_call hT rfl rfl rfl (by kernel_rfl) (ekeys_spec (r := x.r) (h := 13) (L := x.c.ents)) [13] [20, 13] rfl rfl ?_
      rintro _ _ ⟨gb, rfl, rfl⟩
      refine a_ent [20, 13] [50] [.ext (listA [mBlk gb x.r, .map x.r (mapG kU entAV x.c.ents)])] rfl rfl (ent_shut [mBlk gb x.r, .map x.r (mapG kU entAV x.c.ents)]) ?_
      rw [List.length_map] at hl
      refine a_call hT rfl rfl rfl (by kernel_rfl) (sorted_spec (h := 0) (N := x.c.ents.length) (T := fun ys => ys.Perm (x.c.ents.map (·.1))) (by omega) (by kernel_rfl) (fun ys hp => by rw [hp.length_eq, List.length_map]; omega) ekeys_hit) [50] [50, 1] rfl rfl ?_
      rintro _ _ ⟨v, ys, hp, rfl, rfl⟩
      refine a_ent [50] [20, 13] [mBlk gb x.r, .map x.r (mapG kU entAV x.c.ents)] rfl rfl (ent_open [mBlk gb x.r, .map x.r (mapG kU entAV x.c.ents)]) ?_
      refine a_freeze 26 1 rfl rfl rfl rfl ?_
      refine a_ret hT [10, 11, 12, 13, 14] rfl rfl rfl rfl rfl rfl ⟨_, ⟨⟨_, Fit.refl _, ys, hp, rfl⟩, rfl⟩, (Ent.cons _ (Ent.cons _ ?_)).trans (tab_pack hmo rfl)⟩
      rw [hab, clsC_app]
      exact ent_unfocus (clsC a) (clC x) (clsC b)
end Go.Proofs.Ytdconcindpfmcaa
end

section
/- Layer 19's scripts; Few. -/
set_option linter.unusedVariables false
set_option linter.unusedSimpArgs false
namespace Go.Proofs.Ytdconcindpfmcaa
open V A
structure SOp where
  kind : Int
  client : Int
  status : Int
  token : Int
  floor : Int
  bytes : List UInt8
def SOp.d (o : SOp) : List A.Dat := [.v (kI o.kind), .v (kI o.client), .v (kI o.status), .v (kU o.token), .v (kU o.floor), A.bytesD o.bytes]
def scrD (l : List SOp) : AV := .d (.sl 6 (l.map SOp.d))
def nI (n : Nat) : AV := .v (.int .i64 n) 0
/-- Few: a script that it lets in is short, and so are its bytes. -/
theorem few_spec {l : List SOp} (hl : l.length ≤ reachBytes) (hb : ∀ o ∈ l, o.bytes.length ≤ reachBytes) : FSpec Try.prog 37 [scrD l] [] fun a cs => ∃ b, (b = true → l.length ≤ 300 ∧ ∀ o ∈ l, o.bytes.length ≤ 20000) ∧ a = .v (.bool b) 0 ∧ cs = [] := by
  refine a_enter hT [scrD l] [] Try.func37 rfl rfl rfl ⟨rfl, trivial⟩ fun c => ?_
  refine a_loop hT [0, 3, 6, 7] (fun x : Nat × Nat => [scrD l, nI x.2, nI l.length, nI x.1]) (fun _ => []) (fun x => x.1 ≤ l.length ∧ x.1 ≤ 300 ∧ x.2 ≤ 20000 ∧ ∀ o ∈ l.take x.1, o.bytes.length ≤ 20000) (fun x => l.length - x.1) (0, 0) [] rfl rfl ⟨by omega, by omega, by omega, by simp⟩
    ⟨rfl, rfl, by show Value.int .i64 ((l.map SOp.d).length : Int) = .int .i64 (l.length : Int); rw [List.length_map], rfl, trivial⟩ rfl trivial ?_
  rintro ⟨i, n⟩ ⟨h1, h2, h3, h4⟩
  refine a_if hT rfl rfl (fun hi => ?_) (fun hi => ?_)
  · have hi' : i < l.length := by
      have : (i : Int) < l.length := of_decide_eq_true hi
      omega
    have hd : (l.map SOp.d)[((i : Nat) : Int).toNat]? = some (SOp.d l[i]) := by simp [hi']
    have hbi := hb l[i] (List.getElem_mem hi')
    refine a_ix hT (SOp.d l[i]) rfl rfl rfl rfl rfl rfl (by omega) hd ?_
    have hsum : IntKind.i64.wrap ((n : Int) + ((l[i].bytes.map eB).length : Int)) = ((n + l[i].bytes.length : Nat) : Int) := by
      rw [List.length_map, wrap64 (by omega) (by unfold reachBytes at hbi; omega)]
      rfl
    refine a_g hT rfl rfl rfl (fun h3g => ?_) (fun h3g => ?_)
    · refine a_t hT rfl rfl rfl ?_
      exact a_ret hT [] rfl rfl rfl rfl rfl rfl ⟨false, by simp, rfl, rfl⟩
    · have hi3 : ¬ (i : Int) ≥ 300 := of_decide_eq_false h3g
      refine a_if hT rfl rfl (fun hb2 => ?_) (fun hb2 => ?_)
      · exact a_ret hT [] rfl rfl rfl rfl rfl rfl ⟨false, by simp, rfl, rfl⟩
      · have hb3 : ¬ IntKind.i64.wrap ((n : Int) + ((l[i].bytes.map eB).length : Int)) > 20000 := of_decide_eq_false hb2
        rw [hsum] at hb3
        refine a_next hT (i + 1, n + l[i].bytes.length) [] rfl rfl ⟨⟨by show i + 1 ≤ l.length; omega, by show i + 1 ≤ 300; omega, by show n + l[i].bytes.length ≤ 20000; omega, ?_⟩, by show l.length - (i + 1) < l.length - i; omega⟩ ⟨rfl, ?_, rfl, ?_, trivial⟩ rfl trivial
        · intro o ho
          rw [show (i + 1, n + l[i].bytes.length).1 = i + 1 from rfl, List.take_add_one] at ho
          rcases List.mem_append.1 ho with ho | ho
          · exact h4 o ho
          · rw [List.getElem?_eq_getElem hi'] at ho
            simp at ho
            subst ho
            omega
        · show Value.int .i64 (IntKind.i64.wrap ((n : Int) + ((l[i].bytes.map eB).length : Int))) = .int .i64 ((n + l[i].bytes.length : Nat) : Int)
          rw [hsum]
        · show Value.int .i64 (IntKind.i64.wrap ((i : Int) + 1)) = .int .i64 ((i + 1 : Nat) : Int)
          rw [wrap64 (by omega) (by omega)]
          rfl
  · have hi' : ¬ (i : Int) < l.length := of_decide_eq_false hi
    refine a_ret hT [] rfl rfl rfl rfl rfl rfl ⟨true, fun _ => ⟨by omega, fun o ho => h4 o ?_⟩, rfl, rfl⟩
    rw [List.take_of_length_le (by show l.length ≤ i; omega)]
    exact ho
end Go.Proofs.Ytdconcindpfmcaa
end

section
/- Layer 19, plain: a call that was taken once isn't taken again. -/
set_option linter.unusedVariables false
set_option linter.unusedSimpArgs false
namespace Go.Proofs.Ytdconcindpfmcaa
open V A
def goneC (c : PC) (t : Int) : Prop := t < c.floor ∨ (aget c.ents t).isSome = true
def goneT (T : PT) (n t : Int) : Prop := ∃ c, aget T n = some c ∧ goneC c t
theorem goneC_sweep {c : PC} {t : Int} (h : goneC c t) : goneC c.sweep t := by
  rcases h with h | h
  · exact .inl h
  · obtain ⟨e, he⟩ := Option.isSome_iff_exists.1 h
    cases hp : keepE c.floor (t, e) with
    | true => exact .inr (by show (aget (c.ents.filter (keepE c.floor)) t).isSome = true; rw [aget_filter he hp]; rfl)
    | false =>
      left
      unfold keepE at hp
      simp at hp
      exact hp.2
theorem goneC_up {c : PC} {t : Int} (tok fl : Int) (h : goneC c t) : goneC (c.up tok fl) t := by
  unfold PC.up
  refine goneC_sweep ?_
  rcases h with h | h
  · exact .inl (Int.lt_of_lt_of_le h (mx_le _ _))
  · exact .inr h
theorem goneC_add {c : PC} {t tok : Int} {e : DE} (h : goneC c t) : goneC ⟨c.floor, aput c.ents tok e⟩ t := by
  rcases h with h | h
  · exact .inl h
  · right
    show (aget (aput c.ents tok e) t).isSome = true
    rw [aget_aput]
    split
    · rfl
    · exact h
theorem goneT_put {T : PT} {num n t : Int} {c1 : PC} (h : ∀ c, aget T num = some c → ∀ t, goneC c t → goneC c1 t) (hg : goneT T n t) : goneT (aput T num c1) n t := by
  obtain ⟨c, hc, hgc⟩ := hg
  unfold goneT
  rw [aget_aput]
  by_cases e : num = n
  · subst e
    exact ⟨c1, by rw [if_pos rfl], h c hc t hgc⟩
  · exact ⟨c, by rw [if_neg e, hc], hgc⟩
theorem gone_offer {T : PT} {n t : Int} (num tok fl : Int) (fresh : DE) (hg : goneT T n t) : goneT (offerP T num tok fl fresh).1 n t := by
  unfold offerP
  cases hn : aget T num with
  | none =>
    simp only
    split
    · exact hg
    · unfold offerC
      simp only [Bool.false_eq_true, if_false]
      split
      · exact hg
      · split
        · split <;> exact hg
        · split
          · exact hg
          · exact goneT_put (fun c hc => by rw [hn] at hc; cases hc) hg
  | some c =>
    have h1 : goneT (aput T num (c.up tok fl)) n t := goneT_put (fun c' hc t h => by rw [hn] at hc; cases hc; exact goneC_up _ _ h) hg
    simp only
    unfold offerC
    simp only [if_true]
    split
    · exact h1
    · split
      · split <;> exact h1
      · split
        · exact h1
        · exact goneT_put (fun c' hc t h => by rw [hn] at hc; cases hc; exact goneC_add (goneC_up _ _ h)) hg
theorem gone_finish {T : PT} {n t : Int} (num tok st : Int) (bytes : List UInt8) (hg : goneT T n t) : goneT (finishP T num tok st bytes).1 n t := by
  unfold finishP
  cases hn : aget T num with
  | none => exact hg
  | some c =>
    simp only
    cases he : aget c.ents tok with
    | none => exact hg
    | some e =>
      simp only
      split
      · exact hg
      · exact goneT_put (fun c' hc t h => by rw [hn] at hc; cases hc; exact goneC_sweep (goneC_add h)) hg
theorem gone_revoke {T : PT} {n t : Int} (num tok fl : Int) (hg : goneT T n t) : goneT (revokeP T num tok fl).1 n t := by
  have h1 := gone_offer num tok fl ⟨true, 1, []⟩ hg
  unfold revokeP
  split
  · exact h1
  · split
    · exact gone_finish _ _ _ _ h1
    · exact h1
/-- What is taken wasn't taken, and is then. -/
theorem offer_new {T : PT} {num tok fl : Int} {fresh : DE} (h : (offerP T num tok fl fresh).2.kind = 1) : ¬ goneT T num tok ∧ goneT (offerP T num tok fl fresh).1 num tok := by
  revert h
  unfold offerP
  cases hn : aget T num with
  | none =>
    simp only
    split
    · intro h; simp at h
    · unfold offerC
      simp only [Bool.false_eq_true, if_false]
      split
      · intro h; simp at h
      · split
        · split <;> (intro h; simp at h)
        · split
          · intro h; simp at h
          · intro _
            refine ⟨fun h0 => (by obtain ⟨c, hc, _⟩ := h0; rw [hn] at hc; cases hc), ⟨_, by rw [aget_aput, if_pos rfl], .inr ?_⟩⟩
            show (aget (aput _ tok fresh) tok).isSome = true
            rw [aget_aput, if_pos rfl]
            rfl
  | some c =>
    simp only
    unfold offerC
    simp only [if_true]
    split
    · intro h; simp at h
    · rename_i hf
      split
      · split <;> (intro h; simp at h)
      · rename_i he
        split
        · intro h; simp at h
        · intro _
          refine ⟨fun h0 => ?_, ⟨_, by rw [aget_aput, if_pos rfl], .inr ?_⟩⟩
          · obtain ⟨c', hc, hg⟩ := h0
            rw [hn] at hc
            cases hc
            rcases goneC_up tok fl hg with h | h
            · exact hf h
            · rw [he] at h; cases h
          · show (aget (aput _ tok fresh) tok).isSome = true
            rw [aget_aput, if_pos rfl]
            rfl
theorem finish_wf {T : PT} (hw : wfT T) (num tok st : Int) {bytes : List UInt8} (hb : bytes.length ≤ lim) : wfT (finishP T num tok st bytes).1 := by
  unfold finishP
  cases hn : aget T num with
  | none => exact hw
  | some c =>
    simp only
    cases he : aget c.ents tok with
    | none => exact hw
    | some e =>
      simp only
      split
      · exact hw
      · have hc := (hw.at hn).add (tok := tok) (e := ⟨true, st, bytes⟩) hb
        have hs : wfC (PC.sweep ⟨c.floor, aput c.ents tok ⟨true, st, bytes⟩⟩) := ⟨hc.fl, hc.nd.sublist ((List.filter_sublist).map _), fun q hq => hc.by_ q (List.mem_filter.1 hq).1⟩
        refine hw.put hs.fl hs.nd hs.by_ ?_
        have h1 := lenT_put (PC.sweep ⟨c.floor, aput c.ents tok ⟨true, st, bytes⟩⟩) hn
        have h2 : (PC.sweep ⟨c.floor, aput c.ents tok ⟨true, st, bytes⟩⟩).ents.length ≤ (aput c.ents tok (⟨true, st, bytes⟩ : DE)).length := List.length_filter_le _ _
        rw [aput_len_same he] at h2
        have := hw.len
        omega
theorem revoke_wf {T : PT} (hw : wfT T) (num tok fl : Int) : wfT (revokeP T num tok fl).1 := by
  have h1 := offer_wf hw num tok fl (fresh := ⟨true, 1, []⟩) (by simp)
  unfold revokeP
  split
  · exact h1
  · split
    · exact finish_wf h1 _ _ _ (by simp)
    · exact h1
end Go.Proofs.Ytdconcindpfmcaa
end

section
/- DedupReplays: the walk and what it computes. -/
set_option linter.unusedVariables false
set_option linter.unusedSimpArgs false
set_option maxRecDepth 100000
set_option maxHeartbeats 1000000
namespace Go.Proofs.Ytdconcindpfmcaa
open V A
def T2 (num tok st : Int) (b : List UInt8) : PT := [(num, ⟨tok, [(tok, ⟨true, st, b⟩)]⟩)]
theorem aget_one {β : Type} (k : Int) (x : β) : aget [(k, x)] k = some x := by simp [aget]
theorem aput_one {β : Type} (k : Int) (x y : β) : aput [(k, x)] k y = [(k, y)] := by simp [aput]
theorem r_finish (num tok st : Int) (b : List UInt8) : finishP [(num, ⟨tok, [(tok, fr0)]⟩)] num tok st b = (T2 num tok st b, true) := by
  unfold finishP
  rw [aget_one]
  simp only [aget_one, aput_one, fr0]
  unfold PC.sweep T2 keepE
  simp
theorem r_up (tok : Int) (e : DE) (h : 1 ≤ tok) : PC.up ⟨tok, [(tok, e)]⟩ tok 1 = ⟨tok, [(tok, e)]⟩ := by
  have hm : mx tok (mn 1 tok) = tok := by unfold mx mn; (repeat' split) <;> omega
  unfold PC.up PC.sweep keepE
  dsimp only
  rw [hm]
  simp
theorem r_again (num tok st : Int) (b : List UInt8) (h : 1 ≤ tok) : offerP (T2 num tok st b) num tok 1 fr0 = (T2 num tok st b, ⟨3, st, b⟩) := by
  unfold offerP T2
  rw [aget_one]
  simp only [r_up tok _ h]
  unfold offerC
  simp [aget, aput]
theorem r_new (num tok st up : Int) (b : List UInt8) (h : 1 ≤ tok) (hu : tok < up) : offerP (T2 num tok st b) num up up fr0 = ([(num, ⟨up, [(up, fr0)]⟩)], ⟨1, 0, []⟩) := by
  have e : PC.up ⟨tok, [(tok, ⟨true, st, b⟩)]⟩ up up = ⟨up, []⟩ := by
    have hm : mx tok (mn up up) = up := by unfold mx mn; (repeat' split) <;> omega
    unfold PC.up PC.sweep keepE
    dsimp only
    rw [hm]
    simp [hu]
  unfold offerP T2
  rw [aget_one]
  simp only [e]
  unfold offerC
  simp [aget, aput, lenT]
theorem r_stale (num tok up : Int) (h : 1 ≤ tok) (hu : tok < up) : offerP [(num, ⟨up, [(up, fr0)]⟩)] num tok 1 fr0 = ([(num, ⟨up, [(up, fr0)]⟩)], ⟨4, 0, []⟩) := by
  have e : PC.up ⟨up, [(up, fr0)]⟩ tok 1 = ⟨up, [(up, fr0)]⟩ := by
    have hm : mx up (mn 1 tok) = up := by unfold mx mn; (repeat' split) <;> omega
    unfold PC.up PC.sweep keepE fr0
    dsimp only
    rw [hm]
    simp
  unfold offerP
  rw [aget_one]
  simp only [e]
  unfold offerC
  simp [aput, hu]
theorem dedupReplays_spec {num tok st t5 more : Int} {b : List UInt8} {h h1 h2 h4 h5 : Nat} (ht0 : 0 ≤ tok) (ht1 : tok < 18446744073709551616) (hm0 : 0 ≤ more) (hm1 : more < 18446744073709551616) (ht50 : 0 ≤ t5) (ht51 : t5 ≤ 255) (hbl : b.length ≤ reachBytes) :
    FSpec Try.prog 16 [.v (kI num) h, .v (kU tok) h1, .v (kI st) h2, .d (A.bytesD b), .v (.int .u8 t5) h4, .v (kU more) h5] [] fun a _ => a = .v (.bool true) 0 := by
  refine a_enter hT [.v (kI num) 0, .v (kU tok) 0, .v (kI st) 0, .d (A.bytesD b), .v (.int .u8 t5) 0, .v (kU more) 0] [] Try.func16 rfl rfl rfl ⟨rfl, rfl, rfl, rfl, rfl, rfl, trivial⟩ fun c => ?_
  refine a_call hT rfl rfl rfl (by kernel_rfl) awake_spec [] [] rfl rfl ?_
  rintro _ _ ⟨rfl, rfl⟩
  have hlen : (b.map eB).length = b.length := List.length_map _
  have haw : ∀ {Q : Prop}, Q → Q := id
  by_cases hbad : b.length > 2000 ∨ tok = 0 ∨ tok > 1152921504606846976
  · refine a_gf hT rfl rfl rfl rfl ?_
    refine a_g hT rfl rfl rfl (fun h3 => ?_) (fun h3 => ?_)
    · refine a_gt hT rfl rfl rfl rfl ?_
      refine a_t hT rfl rfl rfl ?_
      refine a_call hT rfl rfl rfl (by kernel_rfl) awake_spec [] [] rfl rfl ?_
      rintro _ _ ⟨rfl, rfl⟩
      exact a_ret hT [] rfl rfl rfl rfl rfl rfl rfl
    · have h3 : ¬ ((b.map eB).length : Int) > 2000 := of_decide_eq_false h3
      refine a_g hT rfl rfl rfl (fun h4 => ?_) (fun h4 => ?_)
      · refine a_t hT rfl rfl rfl ?_
        refine a_call hT rfl rfl rfl (by kernel_rfl) awake_spec [] [] rfl rfl ?_
        rintro _ _ ⟨rfl, rfl⟩
        exact a_ret hT [] rfl rfl rfl rfl rfl rfl rfl
      · have h4 : ¬ tok = 0 := by simpa using h4
        refine a_t hT rfl rfl (by show decide (tok > 1152921504606846976) = true; rw [decide_eq_true_eq]; omega) ?_
        refine a_call hT rfl rfl rfl (by kernel_rfl) awake_spec [] [] rfl rfl ?_
        rintro _ _ ⟨rfl, rfl⟩
        exact a_ret hT [] rfl rfl rfl rfl rfl rfl rfl
  have hb1 : b.length ≤ 2000 := by omega
  have hbl2 : b.length ≤ lim := Nat.le_trans hb1 (by decide)
  have ht2 : 1 ≤ tok := by omega
  have ht3 : tok ≤ 1152921504606846976 := by omega
  refine a_gf hT rfl rfl rfl rfl ?_
  refine a_gf hT rfl rfl rfl (by show decide (((b.map eB).length : Int) > 2000) = false; simp; omega) ?_
  refine a_gf hT rfl rfl rfl (by show (tok == 0) = false; simp; omega) ?_
  refine a_f hT rfl rfl (by show decide (tok > 1152921504606846976) = false; simp; omega) ?_
  refine a_call hT rfl rfl rfl (by kernel_rfl) new_spec [] [10] rfl rfl ?_
  rintro _ _ ⟨g, rfl, rfl⟩
  refine a_call hT rfl rfl rfl (by kernel_rfl) (Offer_at (h := 10) (h1 := 0) (h2 := 0) (h3 := 0) wfT.nil ht0 ht1 ht0 (offer_first num tok ht2) (by decide)) [10] [10] rfl rfl ?_
  rintro _ _ ⟨rfl, rfl⟩
  have hw1 : wfT [(num, ⟨tok, [(tok, fr0)]⟩)] := by
    have := offer_wf wfT.nil num tok tok (fresh := fr0) (by decide)
    rw [offer_first num tok ht2] at this
    exact this
  refine a_gf hT rfl rfl rfl rfl ?_
  refine a_call hT rfl rfl rfl (by kernel_rfl) (Finish_spec (g := g) (h := 10) (h1 := 0) (h2 := 0) (h3 := 0) (num := num) (tok := tok) (st := st) hw1 hbl2) [10] [10] rfl rfl ?_
  rintro _ _ ⟨T', ⟨rfl, rfl⟩, rfl⟩
  have hw2 := finish_wf hw1 num tok st hbl2
  rw [r_finish] at hw2 ⊢
  refine a_f hT rfl rfl rfl ?_
  refine a_bin hT _ rfl rfl rfl (by decide) rfl rfl (fun w => bin_rem (by decide) w) ?_
  obtain ⟨q, hq, hq5⟩ : ∃ q : Nat, t5.tmod 5 = q ∧ q < 5 := ⟨(t5.tmod 5).toNat, by have h1 := Int.tmod_nonneg 5 ht50; omega, by have h2 := Int.tmod_lt_of_pos t5 (show (0 : Int) < 5 by decide); omega⟩
  have hwf : ∀ {T : PT}, T = T2 num tok st b → wfT T := fun e => by subst e; exact hw2
  refine a_loop hT [0, 1, 2, 3, 5, 13, 50, 51] (fun i : Nat => [.v (kI num) 0, .v (kU tok) 0, .v (kI st) 0, .d (A.bytesD b), .v (kU more) 0, ptrA g 10, .v (.int .u8 q) 0, .v (.int .u8 i) 0]) (fun _ => [(10, .ext (tabA g (T2 num tok st b)))]) (fun i => i ≤ q) (fun i => q - i) 0 [10] rfl rfl (Nat.zero_le _) ⟨rfl, rfl, rfl, rfl, rfl, rfl, by rw [hq]; rfl, rfl, trivial⟩ rfl ⟨rfl, trivial⟩ ?_
  intro i hi
  refine a_if hT rfl rfl (fun h3 => ?_) (fun h3 => ?_)
  · have h3 : (i : Int) < q := of_decide_eq_true h3
    have hw : IntKind.u8.wrap ((i : Int) + 1) = ((i + 1 : Nat) : Int) := by
      unfold IntKind.wrap
      simp [IntKind.bits, IntKind.signed]
      omega
    refine a_call hT rfl rfl rfl (by kernel_rfl) (Offer_spec (g := g) (h := 10) (h1 := 0) (h2 := 0) (h3 := 0) (num := num) (tok := tok) (fl := 1) hw2 ht0 ht1 (by decide)) [10] [10, 1] rfl rfl ?_
    rintro _ _ hv
    rw [show (⟨false, 0, []⟩ : DE) = fr0 from rfl, r_again num tok st b ht2] at hv
    rcases hv with ⟨hk, _⟩ | ⟨_, x, rfl, rfl⟩
    · exact absurd rfl hk
    refine a_new hT hZ 20 rfl rfl rfl rfl fun g1 => ?_
    refine a_gf hT rfl rfl rfl rfl ?_
    refine a_g hT rfl rfl rfl (fun h6 => ?_) (fun h6 => ?_)
    · have h6 := bne_iff_ne.1 h6
      (exfalso; first | omega | contradiction)
    · simp at h6
      refine a_str hT (l := b) rfl rfl rfl rfl rfl rfl rfl rfl ?_
      refine a_str hT (l := b) rfl rfl rfl rfl rfl rfl rfl rfl ?_
      refine a_f hT rfl rfl (by show (_ != _) = false; simp) ?_
      have hnx : ∀ b' : List UInt8, b' = b → True := fun _ _ => trivial
      refine a_if hT rfl rfl (fun h7 => ?_) (fun h7 => ?_)
      · have h7 : ((b.map eB).length : Int) > 0 := of_decide_eq_true h7
        refine a_rowfact 1 rfl rfl ?_
        rintro (⟨hx, hn⟩ | ⟨g2, cap, hx⟩)
        · exfalso
          have hn2 : b.map eB = [] := hn
          rw [hn2] at h7
          exact absurd h7 (by decide)
        subst hx
        have h8 : 0 < b.length := by omega
        have e0 : (b.map eB)[0]? = some (eB b[0]) := by simp [h8]
        refine a_rix hT 0 rfl rfl rfl rfl rfl rfl rfl (by show 0 < (b.map eB).length; omega) ?_
        refine a_rld hT 0 0 (eB b[0]) (.d (.v (byV b[0]))) rfl rfl rfl rfl rfl rfl (by omega) e0 rfl ?_
        refine a_rix hT 0 rfl rfl rfl rfl rfl rfl rfl (by show 0 < (b.map eB).length; omega) ?_
        refine a_rst hT 0 0 (eB b[0]) (.v (.int .u8 (IntKind.u8.wrap ((b[0].toNat : Int) + 1)))) rfl rfl rfl rfl rfl rfl rfl (by omega) e0 (by omega) rfl ?_
        exact a_next hT (i + 1) [10] rfl rfl ⟨by show i + 1 ≤ q; omega, by show q - (i + 1) < q - i; omega⟩ ⟨rfl, rfl, rfl, rfl, rfl, rfl, rfl, by rw [← hw]; rfl, trivial⟩ rfl ⟨rfl, trivial⟩
      · exact a_next hT (i + 1) [10] rfl rfl ⟨by show i + 1 ≤ q; omega, by show q - (i + 1) < q - i; omega⟩ ⟨rfl, rfl, rfl, rfl, rfl, rfl, rfl, by rw [← hw]; rfl, trivial⟩ rfl ⟨rfl, trivial⟩
  · have h3 : ¬ (i : Int) < q := of_decide_eq_false h3
    have hw3 : IntKind.u64.wrap (tok + 1) = tok + 1 := wrapU (by omega) (by omega)
    have hr1 := Int.tmod_nonneg 1000 hm0
    have hr2 := Int.tmod_lt_of_pos more (show (0 : Int) < 1000 by decide)
    refine a_bin hT _ rfl rfl rfl (by decide) rfl rfl (fun w => bin_rem (by decide) w) ?_
    have hw4 : IntKind.u64.wrap (IntKind.u64.wrap (tok + 1) + more.tmod 1000) = tok + 1 + more.tmod 1000 := by rw [hw3]; exact wrapU (by omega) (by omega)
    generalize hup : tok + 1 + more.tmod 1000 = up at hw4
    refine a_call hT rfl rfl rfl (by kernel_rfl) (Offer_at (h := 10) (h1 := 0) (h2 := 0) (h3 := 0) hw2 (by rw [hw4]; omega) (by rw [hw4]; omega) (by rw [hw4]; omega) (by rw [hw4]; exact r_new num tok st up b ht2 (by omega)) (by decide)) [10] [10] rfl rfl ?_
    rintro _ _ ⟨rfl, rfl⟩
    have hw5 := offer_wf hw2 num up up (fresh := fr0) (by decide)
    rw [r_new num tok st up b ht2 (by omega)] at hw5
    refine a_call hT rfl rfl rfl (by kernel_rfl) (Offer_at (h := 10) (h1 := 0) (h2 := 0) (h3 := 0) hw5 ht0 ht1 (by decide) (r_stale num tok up ht2 (by omega)) (by decide)) [10] [10] rfl rfl ?_
    rintro _ _ ⟨rfl, rfl⟩
    refine a_gt hT rfl rfl rfl rfl ?_
    refine a_call hT rfl rfl rfl (by kernel_rfl) Floor_spec [10] [10] rfl rfl ?_
    rintro _ _ ⟨T', ⟨rfl, rfl⟩, rfl⟩
    have hfl : floorP [(num, ⟨up, [(up, fr0)]⟩)] num = up := by unfold floorP; rw [aget_one]; rfl
    have hen : entsP [(num, ⟨up, [(up, fr0)]⟩)] num = [up] := by unfold entsP; rw [aget_one]; rfl
    refine a_g hT rfl rfl rfl (fun h6 => ?_) (fun h6 => ?_)
    · refine a_call hT rfl rfl rfl (by kernel_rfl) (Entries_spec (by rw [hen]; show 1 ≤ 16; decide)) [10] [10] rfl rfl ?_
      rintro _ _ ⟨T', ⟨⟨ys, hr, rfl⟩, rfl⟩, rfl⟩
      refine a_ret hT [10] rfl rfl rfl rfl rfl rfl ?_
      rw [hen] at hr
      rw [sortL_of (List.perm_singleton.1 hr ▸ List.Perm.refl _) (List.pairwise_singleton _ up)]
      rfl
    · have h6 := ne_of_beq_false h6
      exact absurd (hfl.trans hw4.symm) h6
theorem dedupReplays_walk (W : World) (args : Array Value) (ha : ArgsOk Try.prog W [3, 43, 3, 31, 5, 43] [[.int .i64], [.int .u64], [.int .i64], [.sl [.int .u8]], [.int .u8], [.int .u64]] args.toList) : Calls Try.prog 16 args W (LawR W) := by
  obtain ⟨v1, r, e, h1, ha⟩ := args_cons ha
  obtain ⟨v2, r, rfl, h2, ha⟩ := args_cons ha
  obtain ⟨v3, r, rfl, h3, ha⟩ := args_cons ha
  obtain ⟨v4, r, rfl, h4, ha⟩ := args_cons ha
  obtain ⟨v5, r, rfl, h5, ha⟩ := args_cons ha
  obtain ⟨v6, r, rfl, h6, ha⟩ := args_cons ha
  obtain rfl := args_nil ha
  have e : args = #[v1, v2, v3, v4, v5, v6] := Array.ext' e
  subst e
  obtain ⟨num, rfl, _, _⟩ := arg_i64 h1 (by kernel_rfl)
  obtain ⟨tok, rfl, ht⟩ := arg_u64 h2 (by kernel_rfl)
  obtain ⟨st, rfl, _, _⟩ := arg_i64 h3 (by kernel_rfl)
  obtain ⟨b, hr, hl⟩ := argA_bytes h4 (by kernel_rfl)
  obtain ⟨d5, k3, k4⟩ := arg_one h5 (by kernel_rfl)
  obtain ⟨d, rfl, d1, d2⟩ := k3.int
  have e3 : v5 = .int .u8 d := k4.val
  subst e3
  obtain ⟨more, rfl, hm⟩ := arg_u64 h6 (by kernel_rfl)
  exact law_of (dedupReplays_spec (num := num) (tok := tok) (st := st) (more := more) (t5 := d) (h := 0) (h1 := 0) (h2 := 0) (h4 := 0) (h5 := 0) (Int.natCast_nonneg _) (by omega) (Int.natCast_nonneg _) (by omega) (by simpa [IntKind.min, IntKind.bits, IntKind.signed] using d1) (by simpa [IntKind.max, IntKind.bits, IntKind.signed] using d2) hl) (Reps.cons mk_v (Reps.cons mk_v (Reps.cons mk_v (Reps.cons hr (Reps.cons mk_v (Reps.cons mk_v Reps.nil))))))
end Go.Proofs.Ytdconcindpfmcaa
end
