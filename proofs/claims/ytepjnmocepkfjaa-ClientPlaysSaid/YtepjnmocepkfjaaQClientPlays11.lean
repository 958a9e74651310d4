import Derived.Test.YtepjnmocepkfjaaQClientPlays10
import Derived.RangeFuncLeaves
import Derived.Test.YtepjnmocepkfjaaQClientPlays8
import Derived.Test.YtepjnmocepkfjaaQClientPlays9
import Derived.Test.YtepjnmocepkfjaaQClientPlays7
import Derived.Test.YtepjnmocepkfjaaQClientPlays6
section
/- A range over a function: the statement. It holds of any program. -/
set_option linter.unusedVariables false
set_option linter.unusedSimpArgs false
namespace Go.Proofs.Ytepjnmocepkfjaa.A
open V
theorem obj_new {c : Ctx} {w : World} {S : Nat → Prop} {f : AEnv} {fc : Env} {σ : Store} (k : Nat) (o : Obj) (hs : Sat c w S f fc) (hh : Holds (or2 S c.X) w σ S) :
    ∃ S', Sat c (w.alloc o) S' f fc ∧ Holds (or2 S' c.X) (w.alloc o) ((k, .ext (objA w.heap.size o)) :: σ) S' := by
  have hev := Ev.alloc w o
  have hdX : ∀ b, c.X b → b < w.heap.size := fun b hb => Nat.lt_of_lt_of_le (c.old b hb) hs.ev.size
  have hm : ∀ b, b < w.heap.size → no b ∨ or2 (or2 (at1 w.heap.size) S) c.X b → or2 S c.X b := fun b hb h => by
    rcases h with h | (h | h) | h
    · exact h.elim
    · have h : b = w.heap.size := h; omega
    · exact .inl h
    · exact .inr h
  refine ⟨or2 (at1 w.heap.size) S, ⟨hs.env.pass hev hm, hs.ev.to hev, fun b hb => ?_⟩, at1 w.heap.size, S, fun b => Iff.rfl, fun b hb h => ?_, ?_, hh.ev hev hm fun b _ h => h⟩
  · rcases hb with h | h
    · have h : b = w.heap.size := h
      exact .inr (by rw [h]; exact hs.ev.size)
    · exact hs.sub b h
  · have hb : b = w.heap.size := hb
    have := hh.lt b h
    omega
  · exact ⟨fun b => Iff.rfl, World.alloc_heap_new w o⟩
theorem ent_holds {M S : Nat → Prop} {w : World} {σ σr : Store} {ks : List Nat} {cs cs' : List Chunk} (ks' : List Nat) (hh : Holds M w σ S) (ht : takes σ ks = some (cs, σr)) (he : Ent cs cs') : Holds M w (zipk ks' cs' ++ σr) S := by
  obtain ⟨S1, S2, h1, h2, hS, hdis⟩ := hh.takes ht
  exact ((he _ _ _ h1).zip ks').append h2 hdis hS
def mark (D : Nat) : Deferred := { target := .collected D, args := #[] }
def loopR (n : Nat) (fc : Env) (fn : FuncId) (ps : Array Tmp) (asg body : Code) (D : Nat) : Loop := { state := .ready, pending := none, fn, tmps := (act n fc).tmps, params := ps, assign := asg, body, defers := D }
/-- What stands between two rounds. -/
def jA {V E : Type} (Kc : V → List E → List Chunk) (l D : Nat) (r : Loop) (pre : List E) : Asrt := exA (fun _ : V => True) fun v => Kc v pre ++ [.ext (objA l (.loop r)), .ext (objA D (.deferred (some [])))]
section
variable {P : Program} {L : List TD} {n : Nat}
theorem range_in {V E : Type} {gx : Operand} {ps : Array Tmp} {asg body : Code} {Q : Exit → Act → World → Prop} {fc : Env} {w : World} {c : Ctx} {S : Nat → Prop} {f : AEnv} {σ σr : Store} {m gf N kB : Nat} {caps : List AV} {B : Asrt} {T : List E → Prop} {enc : E → Value} {Kc : V → List E → List Chunk} {v0 : V} {ks : List Nat}
    (hs : Sat c w S f fc) (hh : Holds (or2 S c.X) w σ S) (hg : evA n f gx = .fn gf caps) (hb : callOk P gf = true) (ht : takes σ ks = some (Kc v0 [], σr)) (ht2 : takes σr [kB] = some ([.ext B], []))
    (hJ : ∀ fn l D pre x, pre.length < N → YSpec P l [.v (enc x) 0] (jA Kc l D (loopR n fc fn ps asg body D) pre) (jA Kc l D (loopR n fc fn ps asg body D) (pre ++ [x])))
    (hit : ∀ l (J : List E → Asrt), (∀ pre x, pre.length < N → YSpec P l [.v (enc x) 0] (J pre) (J (pre ++ [x]))) → FSpec P gf (.v (.func (.yield l) #[] #[]) 0 :: caps) [.ext B, .ext (J [])] fun _ cs' => ∃ ys, T ys ∧ cs' = [.ext B, .ext (J ys)])
    (hk : ∀ D w' S' ys v, T ys → Sat c w' S' f fc → Holds (or2 S' c.X) w' ((kB, .ext B) :: (0, .ext (objA D (.deferred (some [])))) :: (Kc v ys).map fun c => (0, c)) S' → Q .normal { act n fc with defers := [mark D] } w') :
    (Code.rangeFunc gx ps asg body).wpIn Fence.wide m P Q (act n fc) w := by
  refine wpIn_rangeFunc ?_
  intro fn _
  obtain ⟨S1, hs1, hh1⟩ := obj_new 1 (.deferred (some [])) hs hh
  obtain ⟨S2, hs2, hh2⟩ := obj_new 2 (.loop (loopR n fc fn ps asg body w.heap.size)) hs1 hh1
  have hz : (w.alloc (.deferred (some []))).heap.size = w.heap.size + 1 := by simp
  rw [hz] at hh2
  have hv := hs2.env.eval (n := n) gx
  rw [hg] at hv
  unfold Rep at hv
  obtain ⟨ys, hv, hrc⟩ := hv
  have haa : (act n fc).eval = ev n fc := funext (act_eval n fc)
  obtain ⟨W2, hW2⟩ : ∃ W2, (w.alloc (.deferred (some []))).alloc (.loop (loopR n fc fn ps asg body w.heap.size)) = W2 := ⟨_, rfl⟩
  rw [hW2] at hs2 hh2 hrc
  refine ⟨w.heap.size + 1, [mark w.heap.size], W2, { target := .fn (.func gf) ys.toArray, args := #[.func (.yield (w.heap.size + 1)) #[] #[]] }, W2, gf, #[.func (.yield (w.heap.size + 1)) #[] #[]] ++ ys.toArray, W2, by rw [← hW2]; exact run_enterLoop_outer _ _ _ _ _, ?_, fun _ _ => trivial, ?_, fun h => (by cases h), ?_⟩
  · rw [haa]
    simp [resolve, hv, Deferred.ofValue, show ∀ v, ev n fc (.const v) = v from fun _ => rfl]
  · simp [invoke, run_callFunc hb]
  · -- the iterator
    have hdX : ∀ b, S2 b → ¬ c.X b := fun b hb hx => (hs2.sub b hb).elim (fun h => c.dis b h hx) fun h => Nat.lt_irrefl _ (Nat.lt_of_le_of_lt h (c.old b hx))
    have hXl : ∀ b, c.X b → b < W2.heap.size := fun b hb => Nat.lt_of_lt_of_le (c.old b hb) hs2.ev.size
    obtain ⟨U1, U2, eU, dU, c1, V1, V2, eV, dV, c2, hσ⟩ := hh2
    obtain ⟨A1, A2, a1, a2, eA, dA⟩ := hσ.takes ht
    obtain ⟨B1, B2, b1, b2, eB, dB⟩ := a2.takes ht2
    have hLD : HoldsL (or2 S2 c.X) W2 [.ext (objA (w.heap.size + 1) (.loop (loopR n fc fn ps asg body w.heap.size))), .ext (objA w.heap.size (.deferred (some [])))] (fun b => U1 b ∨ V1 b) :=
      ⟨U1, V1, fun b => Iff.rfl, fun b hb h => dU b hb ((eV b).2 (.inl h)), c1, V1, no, fun b => ⟨.inl, fun h => h.elim id fun h => h.elim⟩, fun b _ h => h, c2, fun b h => h⟩
    have hK : HoldsL (or2 S2 c.X) W2 (Kc v0 [] ++ [.ext (objA (w.heap.size + 1) (.loop (loopR n fc fn ps asg body w.heap.size))), .ext (objA w.heap.size (.deferred (some [])))]) (fun b => A1 b ∨ (U1 b ∨ V1 b)) := by
      unfold HoldsL
      rw [List.map_append]
      refine Holds.append a1 hLD (fun b hb h => ?_) fun b => Iff.rfl
      rcases h with h | h
      · exact dU b h ((eV b).2 (.inr ((eA b).2 (.inl hb))))
      · exact dV b h ((eA b).2 (.inl hb))
    have hKB : Holds (or2 S2 c.X) W2 [(3, .ext B), (4, .ext (jA Kc (w.heap.size + 1) w.heap.size (loopR n fc fn ps asg body w.heap.size) []))] S2 := by
      have h1 := (ent_pack (φ := fun _ : V => True) (f := fun v => Kc v [] ++ [.ext (objA (w.heap.size + 1) (.loop (loopR n fc fn ps asg body w.heap.size))), .ext (objA w.heap.size (.deferred (some [])))]) v0 trivial) _ _ _ hK
      have h2 := Holds.append (U := S2) (b1.zip [3]) (h1.zip [4]) (fun b hb h => ?_) fun b => ?_
      · exact h2
      · have hb' : A2 b := (eB b).2 (.inl hb)
        rcases h with h | h | h
        · exact dA b h hb'
        · exact dU b h ((eV b).2 (.inr ((eA b).2 (.inr hb'))))
        · exact dV b h ((eA b).2 (.inr hb'))
      · have hB2 : ∀ b, ¬ B2 b := b2
        rw [eU b, eV b, eA b, eB b]
        have := hB2 b
        constructor
        · rintro (h | h | h | h | h)
          · exact .inr (.inr (.inl h))
          · exact .inr (.inr (.inr h))
          · exact .inr (.inl h)
          · exact .inl h
          · exact absurd h this
        · rintro (h | h | h | h)
          · exact .inr (.inr (.inr (.inl h)))
          · exact .inr (.inr (.inl h))
          · exact .inl h
          · exact .inr (.inl h)
    have hcall := call_does (ks := [3, 4]) (ks' := [3, 4]) (hit (w.heap.size + 1) (jA Kc (w.heap.size + 1) w.heap.size (loopR n fc fn ps asg body w.heap.size)) (fun pre x hl => hJ fn _ _ pre x hl)) hXl hdX hKB rfl (show Reps _ _ (.v (.func (.yield (w.heap.size + 1)) #[] #[]) 0 :: caps) (.func (.yield (w.heap.size + 1)) #[] #[] :: ys) from Reps.cons mk_v hrc)
    rw [show (#[.func (.yield (w.heap.size + 1)) #[] #[]] ++ ys.toArray : Array Value) = ((.func (.yield (w.heap.size + 1)) #[] #[] : Value) :: ys).toArray by simp]
    refine (callsIn_wide.2 hcall).mono ?_
    rintro e w3 ⟨v, rfl, a, σ1, S3, ⟨cs', ⟨zs, hT1, rfl⟩, rfl⟩, hrep, hh3, hev, hsub⟩
    have hm : ∀ b, b < W2.heap.size → S2 b ∨ or2 S3 c.X b → or2 S2 c.X b := fun b hb h => by
      rcases h with h | h | h
      · exact .inl h
      · rcases hsub b h with h | h
        · exact .inl h
        · omega
      · exact .inr h
    have hs3 : Sat c w3 S3 f fc := ⟨hs2.env.pass hev hm, hs2.ev.then hev fun b hb h => (hs2.sub b h).elim id fun h => by omega, fun b hb => (hsub b hb).elim (fun h => hs2.sub b h) fun h => .inr (Nat.le_trans hs2.ev.size h)⟩
    obtain ⟨P1, P2, eP, dP, cB, J1, J2, eJ, dJ, cJ, hno⟩ := hh3
    have hno : ∀ b, ¬ J2 b := hno
    obtain ⟨v, _, hv3⟩ := (show (jA Kc (w.heap.size + 1) w.heap.size (loopR n fc fn ps asg body w.heap.size) zs).h (or2 S3 c.X) J1 w3 from cJ)
    have hv4 := HoldsL.perm List.perm_append_comm hv3
    have hall : Holds (or2 S3 c.X) w3 ((2, .ext (objA (w.heap.size + 1) (.loop (loopR n fc fn ps asg body w.heap.size)))) :: ((kB, .ext B) :: (0, .ext (objA w.heap.size (.deferred (some [])))) :: (Kc v zs).map fun c => (0, c))) S3 := by
      have h1 : HoldsL (or2 S3 c.X) w3 (.ext B :: ([.ext (objA (w.heap.size + 1) (.loop (loopR n fc fn ps asg body w.heap.size))), .ext (objA w.heap.size (.deferred (some [])))] ++ Kc v zs)) S3 :=
        ⟨P1, J1, fun b => by rw [eP b, eJ b]; exact ⟨fun h => h.imp id fun h => h.elim id fun h => absurd h (hno b), fun h => h.imp id .inl⟩, fun b hb h => dP b hb ((eJ b).2 (.inl h)), cB, hv4⟩
      have h2 := HoldsL.perm (List.Perm.swap _ _ _) h1
      exact Holds.keys h2 (by simp)
    obtain ⟨hp3, _⟩ := obj_at (k := 2) hall rfl
    obtain ⟨hs4, hh4⟩ := obj_turn (k := 2) (.loop { loopR n fc fn ps asg body w.heap.size with state := .exhausted }) hs3 hall rfl
    refine ⟨_, _, run_endLoop hp3 (by simp [loopR]), ?_⟩
    obtain ⟨R1, R2, eR, dR, cR, hR2⟩ := hh4
    have hmR : ∀ b, or2 R2 c.X b → or2 S3 c.X b := fun b h => h.elim (fun h => .inl ((eR b).2 (.inr h))) .inr
    exact hk w.heap.size _ R2 zs v hT1 ⟨hs4.env.of fun b _ h => hmR b h, hs4.ev, fun b hb => hs4.sub b ((eR b).2 (.inr hb))⟩ (hR2.of fun b _ h => hmR b h)
end
end Go.Proofs.Ytepjnmocepkfjaa.A
end

section
/- slices.AppendSeq of numbers, at nil, against any iterator. -/
set_option linter.unusedVariables false
set_option linter.unusedSimpArgs false
set_option maxRecDepth 100000
namespace Go.Proofs.Ytepjnmocepkfjaa.A
open V
theorem act_en {n : Nat} {args : List Value} (ha' : args.length ≤ n) : ({ tmps := args.toArray ++ Array.replicate (n - args.toArray.size) undef, defers := [] } : Act) = act n (en 0 args) := by
  unfold act
  congr 1
  apply Array.ext_getElem?
  intro i
  rw [Array.getElem?_ofFn]
  by_cases h : i < n
  · rw [dif_pos h, get_en]
    rw [Array.getElem?_append]
    by_cases h2 : i < args.length
    · simp [h2]
    · simp [h2, show i - args.length < n - args.length by omega]
  · rw [dif_neg h]
    rw [Array.getElem?_append]
    have h2 : ¬ i < args.length := by omega
    simp [h2]; omega
section
variable {P : Program} {L : List TD} {n : Nat}
theorem step_val {ops : Array Oper} {rest : List Oper} {o : Oper} {K : Exit → Act → World → Prop} {fc : Env} {w : World} {v : Value} {m : Nat} {ds : List Deferred} (hg : o.guard = none) (hr : (execOp (ev n fc) o).run P w = .ok (.value v) w)
    (hk : wpListIn Fence.wide m P ops K rest { act n (put fc o.dst v) with defers := ds } w) : wpListIn Fence.wide m P ops K (o :: rest) { act n fc with defers := ds } w := by
  have haa : ({ act n fc with defers := ds } : Act).eval = ev n fc := funext (act_eval n fc)
  unfold wpListIn
  rw [if_pos (by unfold Region.wanted; rw [hg])]
  refine ⟨fun _ _ => trivial, ?_⟩
  rw [show (Fence.wide).round = none from rfl, Oper.semAt_none, haa, hr]
  show wpListIn Fence.wide m P ops K rest (({ act n fc with defers := ds } : Act).put o.dst v) w
  have hp : ({ act n fc with defers := ds } : Act).put o.dst v = { (act n fc).put o.dst v with defers := ds } := by cases o.dst <;> rfl
  rw [hp, act_put]
  exact hk
theorem code_in {c : Ctx} {cd : Code} {R : Act → World → Prop} {f : AEnv} {σ : Store} {fc : Env} {w : World} {S : Nat → Prop} {m : Nat} (h : DenA c P n noQ (.code [.inv R] cd) f σ) (hs : Sat c w S f fc) (hh : Holds (or2 S c.X) w σ S) : cd.wpIn Fence.wide m P (Exit.then R noQ) (act n fc) w :=
  wpIn_wide.2 (h.out trivial w S fc (fun _ => True) hs hh)
theorem read_run (hT : TOk P L) {o : Oper} {f : AEnv} {a : AV} {σ : Store} {ob : Obs} (h : opA L n true true true [] σ [] f o.op (fun b a _ ob => some (b, a, ob)) none = some (false, a, ob)) (hob : OT ob) {M : Nat → Prop} {w : World} {fc : Env} {Su : Nat → Prop} (he : EnvRep M w f fc) (hh : Holds M w σ Su) :
    ∃ v, (execOp (ev n fc) o).run P w = .ok (.value v) w ∧ Rep M w a v := by
  rcases opA_says (P := P) (L := L) hT n true true true [] σ [] f o with h1 | ⟨a', ob', h1, hs⟩ | ⟨_, σ', ob', h1, hs⟩
  · rw [h1] at h; cases h
  · rw [h1] at h
    cases h
    obtain ⟨v, hv, hr⟩ := hs M w no Su fc (fun w' => w' = w) hob he (fun _ h => h) hh (fun _ w' e b _ => by rw [e]) (fun _ w' e b _ => by rw [e]) (fun _ w' e b _ => by rw [e])
    exact ⟨v, hv w rfl, hr⟩
  · rw [h1] at h; cases h
theorem tail_in (hT : TOk P L) {ops : Array Oper} {o1 o2 : Oper} {K : Exit → Act → World → Prop} {fc : Env} {w : World} {m : Nat} {ds : List Deferred} {f : AEnv} {σ : Store} {a1 a2 : AV} {ob : Obs} {M Su : Nat → Prop} (g1 : o1.guard = none) (g2 : o2.guard = none)
    (h1 : opA L n true true true [] σ [] f o1.op (fun b a _ ob => some (b, a, ob)) none = some (false, a1, ob)) (hob : OT ob) (h2 : pureA L n [] (putA f o1.dst a1) o2.op some none = some a2) (he : EnvRep M w f fc) (hh : Holds M w σ Su)
    (hk : ∀ fc', EnvRep M w (putA (putA f o1.dst a1) o2.dst a2) fc' → K .normal { act n fc' with defers := ds } w) : wpListIn Fence.wide m P ops K [o1, o2] { act n fc with defers := ds } w := by
  obtain ⟨v1, r1, k1⟩ := read_run hT h1 hob he hh
  refine step_val g1 r1 ?_
  have he1 := he.put o1.dst k1
  obtain ⟨v2, r2, k2⟩ := pure_run hT h2 he1
  refine step_val g2 (r2 w) ?_
  exact hk _ (he1.put o2.dst k2)
end
end Go.Proofs.Ytepjnmocepkfjaa.A
namespace Go.Proofs.Ytepjnmocepkfjaa
open V A
abbrev boxU (g : Nat) (v : Value) : Chunk := .blk g 44 [.row v 30]
abbrev rowL (v : Value) (l : List Int) : Chunk := .row v 25 1 (l.map eU)
theorem appendSeq_spec {gf N h : Nat} {caps : List AV} {B : Asrt} {T : List Int → Prop} (hN : N ≤ 1000000) (hb : callOk Try.prog gf = true)
    (hit : ∀ l (J : List Int → Asrt), (∀ pre x, pre.length < N → YSpec Try.prog l [.v (kU x) 0] (J pre) (J (pre ++ [x]))) → FSpec Try.prog gf (.v (.func (.yield l) #[] #[]) 0 :: caps) [.ext B, .ext (J [])] fun _ cs' => ∃ ys, T ys ∧ cs' = [.ext B, .ext (J ys)]) :
    FSpec Try.prog 79 [.v (.slice none 0 0) h, .fn gf caps] [.ext B] fun a cs' => ∃ v ys, T ys ∧ a = .row v 1 ∧ cs' = [.ext B, rowL v ys] := by
  refine ⟨fun X S w xs h1 h2 h3 h4 => ?_⟩
  have hlen := h4.len
  refine (callsIn_wide (n := 6)).1 (callsIn_of_wp_marks Try.func79 rfl trivial ?_ rfl)
  have hact := act_en (n := 13) (args := xs) (by rw [hlen]; show 2 ≤ 13; decide)
  refine (show _ = _ from hact) ▸ ?_
  let c : Ctx := ⟨X, S, w, h1, h2⟩
  have hs0 : Sat c w S (enA 0 [.v (.slice none 0 0) h, .fn gf caps]) (en 0 xs) := ⟨enA_rep 0 h4, Ev.refl _ _, fun b hb => .inl hb⟩
  have hh0 : Holds (or2 S c.X) w [(50, .ext B)] S := h3.zip [50]
  refine wpIn_seq (wpIn_mono (code_in (n := 13) (R := InvA c 13 [1, 2] (fun g : Nat => [.fn gf caps, .v (.pointer (some ⟨g, 0, none⟩)) 31]) (fun g => [(31, boxU g (.slice none 0 0)), (30, rowL (.slice none 0 0) []), (50, .ext B)]) (fun _ => True)) ?D0 hs0 hh0) ?_)
  case D0 =>
    refine a_nilrow 0 30 25 1 rfl rfl ?_
    refine a_box hT 31 rfl rfl rfl rfl fun g => ?_
    exact a_next hT g [31, 30, 50] rfl rfl trivial ⟨⟨rfl, Fits.refl _⟩, rfl, trivial⟩ rfl ⟨⟨rfl, rfl, ⟨rfl, trivial⟩⟩, ⟨rfl, rfl, rfl, rfl⟩, rfl, trivial⟩
  intro e a1 w1 hx
  cases e with
  | normal =>
    obtain ⟨g, fc1, S1, rfl, _, hs1, hh1⟩ := hx
    refine wpIn_seq (wpIn_seq (wpIn_mono (code_in (n := 13) (R := InvA c 13 [2, 6] (fun _ : Unit => [.v (.pointer (some ⟨g, 0, none⟩)) 31, .fn gf caps]) (fun _ => [(31, boxU g (.slice none 0 0)), (30, rowL (.slice none 0 0) []), (50, .ext B)]) (fun _ => True)) ?D1 hs1 hh1) ?_))
    case D1 =>
      exact a_next hT () [31, 30, 50] rfl rfl trivial ⟨rfl, ⟨rfl, Fits.refl _⟩, trivial⟩ rfl ⟨⟨rfl, rfl, ⟨rfl, trivial⟩⟩, ⟨rfl, rfl, rfl, rfl⟩, rfl, trivial⟩
    intro e a2 w2 hx
    cases e with
    | normal =>
      obtain ⟨_, fc2, S2, rfl, _, hs2, hh2⟩ := hx
      refine wpIn_block (range_in (Kc := fun v pre => [boxU g v, rowL v pre]) (v0 := .slice none 0 0) (enc := kU) (N := N) (T := T) (ks := [31, 30]) (kB := 50) hs2 hh2 rfl hb rfl rfl ?J hit ?K)
      case J =>
        intro fn l D pre x hl
        generalize hr0 : loopR 13 fc2 fn #[7] _ _ D = r0
        have e1 : r0.state = _ := (congrArg Loop.state hr0).symm
        have e2 : r0.pending = _ := (congrArg Loop.pending hr0).symm
        have e3 : r0.tmps = _ := (congrArg Loop.tmps hr0).symm
        have e4 : r0.params = _ := (congrArg Loop.params hr0).symm
        have e5 : r0.assign = _ := (congrArg Loop.assign hr0).symm
        have e6 : r0.body = _ := (congrArg Loop.body hr0).symm
        clear hr0
        refine round_spec (P := Try.prog) (r := r0) (l := l) (n := 13) (kl := 60) (p := 7) (fcR := fc2) (fR := [(2, .v (.pointer (some ⟨g, 0, none⟩)) 31)]) (σ0 := fun v : Value => [(31, boxU g v), (30, rowL v pre), (60, .ext (objA l (.loop r0))), (61, .ext (objA D (.deferred (some []))))]) (sl1 := [2, 5]) (vs1 := fun _ : Value => [.v (.pointer (some ⟨g, 0, none⟩)) 31, .v (kU x) 0]) (sg1 := fun v : Value => [(31, boxU g v), (30, rowL v pre), (60, .ext (objA l (.loop r0))), (61, .ext (objA D (.deferred (some []))))]) (φ1 := fun _ => True) (sl2 := []) (vs2 := fun _ : Value => []) (sg2 := fun v : Value => [(31, boxU g v), (30, rowL v (pre ++ [x])), (60, .ext (objA l (.loop { r0 with state := .busy }))), (61, .ext (objA D (.deferred (some []))))]) (φ2 := fun _ => True) e1 e2 e3 e4 e5 e6 ?R1 (by simp) (by simp) ?R2 ?R3 (fun _ => rfl) ?R4 (fun _ => rfl) (fun _ => rfl) ?R5
        case R1 =>
          intro M w' t
          have h2 := hs2.env 2
          rw [show getA (overA [2, 6] [.v (.pointer (some ⟨g, 0, none⟩)) 31, .fn gf caps]) 2 = .v (.pointer (some ⟨g, 0, none⟩)) 31 from rfl] at h2
          rw [getA_cons]
          split
          · rename_i e
            subst e
            unfold Rep at h2 ⊢
            exact h2
          · show Rep M w' .any _
            unfold Rep
            trivial
        case R2 =>
          rintro M S' w' ⟨v, _, hv⟩
          exact ⟨v, hv.zip [31, 30, 60, 61]⟩
        case R3 =>
          intro c' v
          exact a_next hT v [31, 30, 60, 61] rfl rfl trivial ⟨rfl, rfl, trivial⟩ rfl ⟨⟨rfl, rfl, ⟨rfl, trivial⟩⟩, ⟨rfl, rfl, rfl, rfl⟩, rfl, rfl, trivial⟩
        case R4 =>
          intro c' v _
          refine a_lit hT 62 rfl rfl rfl rfl (by kernel_rfl) rfl rfl rfl rfl fun x62 => ?_
          refine a_app hT 30 ((pre ++ [x]).map eU) rfl rfl rfl rfl (by kernel_rfl) rfl rfl rfl rfl rfl (by rw [List.map_append]; rfl) (by simp; unfold lim; omega) fun v' => ?_
          exact a_next hT v' [31, 30, 60, 61] rfl rfl trivial trivial rfl ⟨⟨rfl, rfl, ⟨rfl, trivial⟩⟩, ⟨rfl, rfl, rfl, rfl⟩, rfl, rfl, trivial⟩
        case R5 =>
          intro M S' w' v _ hv
          exact ⟨v, trivial, Holds.keys hv rfl⟩
      case K =>
        intro D w' S' ys v hT' hs' hh'
        refine (show Code.wpIn _ _ _ _ _ _ _ from wpIn_seq (wpIn_region_list ?_))
        have hk' : Holds (or2 S' c.X) w' [(50, .ext B), (0, .ext (objA D (.deferred (some [])))), (31, boxU g v), (30, rowL v ys)] S' := Holds.keys hh' rfl
        refine tail_in (P := Try.prog) hT (n := 13) (a1 := .row v 30) (a2 := .row v 30) rfl rfl rfl ?_ rfl hs'.env hk' fun fc3 he3 => ?_
        · exact OT.of rfl
        refine wpIn_ret ?_
        obtain ⟨hD, _⟩ := obj_at (k := 0) hk' rfl
        refine ⟨by simp, .inl ⟨D, _, rfl, run_takeDeferred hD, ?_⟩⟩
        refine ⟨_, results_tmp rfl _ _ _, ?_⟩
        obtain ⟨hs5, hh5⟩ := obj_turn (k := 0) (.deferred none) hs' hk' rfl
        obtain ⟨R1, R2, eR, dR, cB, R3, R4, eR3, dR3, cD, R5, R6, eR5, dR5, cX, R7, R8, eR7, dR7, cV, hno⟩ := hh5
        have hno : ∀ b, ¬ R8 b := hno
        have hv := he3.eval (n := 13) (.tmp 4)
        have hv : Rep (or2 S' c.X) w' (.row v 30) (ev 13 fc3 (.tmp 4)) := hv
        rw [← act_eval] at hv
        have hm : ∀ b, or2 (or2 R1 R7) c.X b → or2 S' c.X b := fun b h => by
          rcases h with (h | h) | h
          · exact .inl ((eR b).2 (.inl h))
          · exact .inl ((eR b).2 (.inr ((eR3 b).2 (.inr ((eR5 b).2 (.inr ((eR7 b).2 (.inl h))))))))
          · exact .inr h
        refine ⟨_, .row v 1, [.ext B, rowL v ys], or2 R1 R7, rfl, ⟨v, ys, hT', rfl, rfl⟩, by unfold Rep at hv ⊢; exact hv, ?_, hs5.ev, fun b hb => ?_⟩
        · refine Holds.of (M := or2 S' c.X) ⟨R1, R7, fun b => Iff.rfl, fun b hb h => dR b hb ((eR3 b).2 (.inr ((eR5 b).2 (.inr ((eR7 b).2 (.inl h)))))), cB, R7, no, fun b => ⟨.inl, fun h => h.elim id fun h => h.elim⟩, fun b _ h => h, cV, fun b h => h⟩ fun b _ h => hm b h
        · rcases hb with h | h
          · exact hs5.sub b ((eR b).2 (.inl h))
          · exact hs5.sub b ((eR b).2 (.inr ((eR3 b).2 (.inr ((eR5 b).2 (.inr ((eR7 b).2 (.inl h))))))))
    | _ => exact hx.elim
  | _ => exact hx.elim
end Go.Proofs.Ytepjnmocepkfjaa
end

section
/- maps.Keys of the client's calls: its iterator. -/
set_option linter.unusedVariables false
set_option linter.unusedSimpArgs false
set_option maxRecDepth 100000
namespace Go.Proofs.Ytepjnmocepkfjaa
open V A
abbrev mBlk (gb r : Nat) : Chunk := .blk gb 64 [.v (.map (some r)) 11]
theorem keys1_spec {l h h2 gb r : Nat} {L : List (Int × Nat)} {J : List Int → Asrt} (hY : ∀ pre x, (∃ b, (x, b) ∈ L) → pre.length < L.length → YSpec Try.prog l [.v (kU x) 0] (J pre) (J (pre ++ [x]))) :
    FSpec Try.prog 58 [.v (.func (.yield l) #[] #[]) h, .v (.pointer (some ⟨gb, 0, none⟩)) h2] [mBlk gb r, .map r (mapG kU bV40 L), .ext (J [])] fun _ cs => ∃ ys : List Int, ys.Perm (L.map (·.1)) ∧ cs = [mBlk gb r, .map r (mapG kU bV40 L), .ext (J ys)] := by
  refine a_enter hT [.v (.func (.yield l) #[] #[]) 0, .v (.pointer (some ⟨gb, 0, none⟩)) 10] [10, 11, 12] Try.func58 rfl rfl rfl ⟨rfl, rfl, trivial⟩ fun c => ?_
  refine a_rangeG hT (kv := kU) (va := bV40) L rfl rfl rfl mtK rfl rfl rfl rfl fun it => ?_
  refine a_loop hT [0, 5] (fun x : List (Bool × (Int × Nat)) × Option (Value × AV) × List Int => [.v (.func (.yield l) #[] #[]) 0, .v (.pointer (some ⟨it, 0, none⟩)) 11]) (fun x => [(11, .ext (iterA r it (iterG kU bV40 x.1) x.2.1)), (10, mBlk gb r), (12, .ext (J x.2.2))]) (fun x => x.1.map (·.2) = L ∧ x.2.2.Perm ((x.1.filter (·.1)).map (·.2.1))) (fun x => left x.1) (L.map fun p => (false, p), none, []) [11, 10, 12] rfl rfl ⟨by simp [List.map_map, Function.comp_def], by simp⟩ ⟨rfl, rfl, trivial⟩ rfl ⟨rfl, ⟨rfl, rfl, ⟨rfl, trivial⟩⟩, rfl, trivial⟩ ?_
  rintro ⟨e, cur, ys⟩ ⟨h1, h2⟩
  dsimp only at h1 h2 ⊢
  refine a_inextG hT (kv := kU) (va := bV40) e rfl rfl rfl rfl rfl rfl rfl (fun hq => ?_) (fun i k b hi => ?_)
  · refine a_f hT rfl rfl rfl ?_
    refine a_iendG 11 (kv := kU) (va := bV40) e rfl rfl rfl ?_
    refine a_end hT [10, 11, 12] rfl rfl rfl rfl rfl rfl ?_
    refine ⟨ys, ?_, by rw [h1]⟩
    rw [List.filter_eq_self.2 hq] at h2
    rw [← h1, List.map_map]
    exact h2
  · refine a_t hT rfl rfl rfl ?_
    refine a_ientry hT rfl rfl rfl rfl rfl rfl ?_
    have hil := (List.getElem?_eq_some_iff.1 hi).1
    have hsp : e = e.take i ++ (false, (k, b)) :: e.drop (i + 1) := by
      have := (List.getElem?_eq_some_iff.1 hi).2
      rw [← this, ← List.drop_eq_getElem_cons hil, List.take_append_drop]
    have hst : e.set i (true, (k, b)) = e.take i ++ (true, (k, b)) :: e.drop (i + 1) := List.set_eq_take_append_cons_drop ▸ by rw [if_pos hil]
    have hmem : ∃ b, (k, b) ∈ L := ⟨b, by rw [← h1, hsp]; simp⟩
    have hlen : ys.length < L.length := by
      rw [h2.length_eq, List.length_map, ← h1, List.length_map]
      rw [hsp, List.filter_append, List.filter_cons_of_neg (by simp)]
      have u1 := List.length_filter_le (fun x : Bool × (Int × Nat) => x.1) (e.take i)
      have u2 := List.length_filter_le (fun x : Bool × (Int × Nat) => x.1) (e.drop (i + 1))
      simp only [List.length_append, List.length_cons]
      omega
    refine a_yieldR hT 5 rfl rfl rfl rfl rfl rfl rfl rfl rfl rfl rfl (kA := 12) rfl (hY ys k hmem hlen) ?_
    refine a_f hT rfl rfl rfl ?_
    refine a_next hT (e.set i (true, (k, b)), some (kU k, bV40 b), ys ++ [k]) [11, 10, 12] rfl rfl ⟨⟨?_, ?_⟩, ?_⟩ ⟨rfl, rfl, trivial⟩ rfl ⟨rfl, ⟨rfl, rfl, ⟨rfl, trivial⟩⟩, rfl, trivial⟩
    · show (e.set i (true, (k, b))).map (·.2) = L
      rw [hst, ← h1]
      conv => rhs; rw [hsp]
      simp
    · show (ys ++ [k]).Perm (((e.set i (true, (k, b))).filter (·.1)).map (·.2.1))
      rw [hst, List.filter_append, List.filter_cons_of_pos (by simp), List.map_append, List.map_cons]
      rw [hsp, List.filter_append, List.filter_cons_of_neg (by simp), List.map_append] at h2
      refine (List.Perm.append_right [k] h2).trans ?_
      rw [List.append_assoc]
      refine List.Perm.append_left _ ?_
      exact List.perm_append_comm
    · show left (e.set i (true, (k, b))) < left e
      have := left_set hi (k, b)
      omega
end Go.Proofs.Ytepjnmocepkfjaa
end

section
/- The client's Open: slices.Sorted(maps.Keys(calls)). -/
set_option linter.unusedVariables false
set_option linter.unusedSimpArgs false
set_option maxRecDepth 100000
namespace Go.Proofs.Ytepjnmocepkfjaa
open V A
theorem collect_spec {gf N h : Nat} {caps : List AV} {B : Asrt} {T : List Int → Prop} (hN : N ≤ 1000000) (hb : callOk Try.prog gf = true)
    (hit : ∀ l (J : List Int → Asrt), (∀ pre x, pre.length < N → YSpec Try.prog l [.v (kU x) 0] (J pre) (J (pre ++ [x]))) → FSpec Try.prog gf (.v (.func (.yield l) #[] #[]) 0 :: caps) [.ext B, .ext (J [])] fun _ cs' => ∃ ys, T ys ∧ cs' = [.ext B, .ext (J ys)]) :
    FSpec Try.prog 57 [.fn gf caps] [.ext B] fun a cs' => ∃ v ys, T ys ∧ a = .row v 1 ∧ cs' = [.ext B, rowL v ys] := by
  refine a_enter hT [.fn gf caps] [50] Try.func57 rfl rfl rfl (Fits.refl _) fun c => ?_
  refine a_call hT rfl rfl rfl (by kernel_rfl) (appendSeq_spec (h := 0) hN hb hit) [50] [50, 1] rfl rfl ?_
  rintro _ _ ⟨v, ys, hT1, rfl, rfl⟩
  refine a_ret hT [50, 1] rfl rfl rfl rfl rfl rfl ?_
  exact ⟨v, ys, hT1, rfl, rfl⟩
theorem sorted_spec {gf N h : Nat} {caps : List AV} {B : Asrt} {T : List Int → Prop} (hN : N ≤ 1000000) (hb : callOk Try.prog gf = true) (hl : ∀ ys, T ys → ys.length ≤ 16)
    (hit : ∀ l (J : List Int → Asrt), (∀ pre x, pre.length < N → YSpec Try.prog l [.v (kU x) 0] (J pre) (J (pre ++ [x]))) → FSpec Try.prog gf (.v (.func (.yield l) #[] #[]) 0 :: caps) [.ext B, .ext (J [])] fun _ cs' => ∃ ys, T ys ∧ cs' = [.ext B, .ext (J ys)]) :
    FSpec Try.prog 36 [.fn gf caps] [.ext B] fun a cs' => ∃ v ys, T ys ∧ a = .row v 1 ∧ cs' = [.ext B, rowL v (sortL ys)] := by
  refine a_enter hT [.fn gf caps] [50] Try.func36 rfl rfl rfl (Fits.refl _) fun c => ?_
  refine a_call hT rfl rfl rfl (by kernel_rfl) (collect_spec (h := 0) hN hb hit) [50] [50, 1] rfl rfl ?_
  rintro _ _ ⟨v, ys, hT1, rfl, rfl⟩
  refine a_rowfact 1 rfl rfl fun hf => ?_
  have hf : (v = .slice none 0 0 ∧ ys = []) ∨ ∃ g cap, v = .slice (some ⟨g, 0, none⟩) ys.length cap := by
    rcases hf with ⟨h1, h2⟩ | ⟨g, cap, h1⟩
    · exact .inl ⟨h1, by simpa using h2⟩
    · exact .inr ⟨g, cap, by rw [h1]; simp⟩
  refine a_call hT rfl rfl rfl (by kernel_rfl) (sort_spec (h := 1) hf (hl ys hT1)) [1] [1] rfl rfl ?_
  rintro _ _ rfl
  refine a_ret hT [50, 1] rfl rfl rfl rfl rfl rfl ?_
  exact ⟨v, ys, hT1, rfl, rfl⟩
theorem keys_spec {h r : Nat} {L : List (Int × Nat)} : FSpec Try.prog 37 [.v (.map (some r)) h] [.map r (mapG kU bV40 L)] fun a cs => ∃ gb, a = .fn 58 [.v (.pointer (some ⟨gb, 0, none⟩)) 10] ∧ cs = [mBlk gb r, .map r (mapG kU bV40 L)] := by
  refine a_enter hT [.v (.map (some r)) 11] [11] Try.func37 rfl rfl rfl ⟨rfl, trivial⟩ fun c => ?_
  refine a_box hT 10 rfl rfl rfl rfl fun g => ?_
  refine a_ret hT [10, 11] rfl rfl rfl rfl rfl rfl ?_
  exact ⟨g, rfl, rfl⟩
theorem keys_hit {gb r : Nat} {L : List (Int × Nat)} : ∀ l (J : List Int → Asrt), (∀ pre x, pre.length < L.length → YSpec Try.prog l [.v (kU x) 0] (J pre) (J (pre ++ [x]))) → FSpec Try.prog 58 (.v (.func (.yield l) #[] #[]) 0 :: [.v (.pointer (some ⟨gb, 0, none⟩)) 10]) [.ext (listA [mBlk gb r, .map r (mapG kU bV40 L)]), .ext (J [])]
    fun _ cs' => ∃ ys : List Int, ys.Perm (L.map (·.1)) ∧ cs' = [.ext (listA [mBlk gb r, .map r (mapG kU bV40 L)]), .ext (J ys)] := by
  intro l J hY
  refine FSpec.ent (cs' := [mBlk gb r, .map r (mapG kU bV40 L), .ext (J [])]) ((keys1_spec fun pre x _ hl => hY pre x hl).weak ?_) (Ent.app (b := [.ext (J [])]) (b' := [.ext (J [])]) (ent_open [mBlk gb r, .map r (mapG kU bV40 L)]) (Ent.refl _))
  rintro a cs ⟨ys, hp, rfl⟩
  exact ⟨a, [.ext (listA [mBlk gb r, .map r (mapG kU bV40 L)]), .ext (J ys)], [], Fit.refl _, by rw [List.append_nil]; exact Ent.app (b := [.ext (J ys)]) (b' := [.ext (J ys)]) (ent_shut [mBlk gb r, .map r (mapG kU bV40 L)]) (Ent.refl _), ys, hp, rfl⟩
theorem copen_spec {g h : Nat} {C : CS} (hC : C.ok) (h16 : C.calls.length ≤ 16) : FSpec Try.prog 16 [ptrA g h] [.ext (cliA g C)] fun a cs => ∃ C', (C' = C ∧ a = .d (.sl 1 ((C.calls.map (·.tok)).map eU))) ∧ cs = [.ext (cliA g C')] := by
  refine cl_spec (R := fun a C' => C' = C ∧ a = .d (.sl 1 ((C.calls.map (·.tok)).map eU))) fun y hy => ?_
  have hn0 := hC.n0
  refine a_enter hT [ptrA g 10] [10, 11, 14, 13] Try.func16 rfl rfl rfl ⟨rfl, trivial⟩ fun c => ?_
  refine a_callZ hT rfl rfl rfl (by kernel_rfl) none_spec [10] [] [] rfl rfl rfl ⟨rfl, trivial⟩ trivial (by rintro _ _ ⟨rfl, rfl⟩; exact ⟨inferInstance, inferInstance⟩) ?_
  rintro _ _ ⟨rfl, rfl⟩
  refine a_if hT rfl rfl (fun h1 => ?_) (fun h1 => ?_)
  · have h1 := eq_of_beq h1
    (exfalso; first | omega | contradiction)
  · have h1 := ne_of_beq_false h1
    refine a_call hT rfl rfl rfl (by kernel_rfl) (keys_spec (r := y.gm) (h := 11) (L := cmap y.L)) [11] [20, 11] rfl rfl ?_
    rintro _ _ ⟨gb, rfl, rfl⟩
    refine a_ent [20, 11] [50] [.ext (listA [mBlk gb y.gm, .map y.gm (mapG kU bV40 (cmap y.L))])] rfl rfl (ent_shut [mBlk gb y.gm, .map y.gm (mapG kU bV40 (cmap y.L))]) ?_
    have hk : (cmap y.L).map (·.1) = C.calls.map (·.tok) := by unfold cmap; rw [List.map_map, ← toks hy]; rfl
    have hkl : (cmap y.L).length = C.calls.length := by rw [← List.length_map (f := fun p : Int × Nat => p.1), hk, List.length_map]
    refine a_call hT rfl rfl rfl (by kernel_rfl) (sorted_spec (h := 0) (N := (cmap y.L).length) (T := fun ys => ys.Perm ((cmap y.L).map (·.1))) (by omega) (by kernel_rfl) (fun ys hp => by rw [hp.length_eq, List.length_map]; omega) keys_hit) [50] [50, 1] rfl rfl ?_
    rintro _ _ ⟨v, ys, hp, rfl, rfl⟩
    have hsl : sortL ys = C.calls.map (·.tok) := sortL_of (by rw [← hk]; exact hp.symm) hC.s
    rw [hsl]
    refine a_ent [50] [20, 11] [mBlk gb y.gm, .map y.gm (mapG kU bV40 (cmap y.L))] rfl rfl (ent_open [mBlk gb y.gm, .map y.gm (mapG kU bV40 (cmap y.L))]) ?_
    refine a_freeze 10 1 rfl rfl rfl rfl ?_
    refine a_ret hT [10, 11, 14, 13] rfl rfl rfl rfl rfl rfl ?_
    exact ⟨_, CX.cs g C y, C, Fit.refl _, Ent.refl _, cl_pack hy, rfl, rfl⟩
end Go.Proofs.Ytepjnmocepkfjaa
end

section
/- What is the same is told as the same: events, frames, rows of both, and of tokens. -/
set_option linter.unusedVariables false
set_option linter.unusedSimpArgs false
set_option maxRecDepth 100000
namespace Go.Proofs.Ytepjnmocepkfjaa
open V A
theorem sameEv_spec {e : Evt} : FSpec Try.prog 42 [evtA e, evtA e] [] fun a cs => a = .v (.bool true) 0 ∧ cs = [] := by
  refine a_enter hT [evtA e, evtA e] [] Try.func42 rfl rfl rfl ⟨⟨rfl, rfl, rfl, rfl, rfl, rfl, trivial⟩, ⟨rfl, rfl, rfl, rfl, rfl, rfl, trivial⟩, trivial⟩ fun c => ?_
  refine a_box hT 20 rfl rfl rfl rfl fun g => ?_
  refine a_box hT 21 rfl rfl rfl rfl fun g2 => ?_
  refine a_gt hT rfl rfl rfl (beq_self_eq_true _) ?_
  refine a_gt hT rfl rfl rfl (beq_self_eq_true _) ?_
  refine a_gt hT rfl rfl rfl (beq_self_eq_true _) ?_
  refine a_gt hT rfl rfl rfl (beq_self_eq_true _) ?_
  refine a_gt hT rfl rfl rfl (beq_self_eq_true _) ?_
  refine a_str hT (l := e.bytes) rfl rfl rfl rfl rfl rfl rfl rfl ?_
  refine a_str hT (l := e.bytes) rfl rfl rfl rfl rfl rfl rfl rfl ?_
  refine a_ret hT [] rfl rfl rfl rfl rfl rfl ?_
  exact ⟨by show AV.v (.bool (_ == _)) 0 = _; rw [beq_self_eq_true], rfl⟩
theorem sameFr_spec {f : Fr} : FSpec Try.prog 43 [frA f, frA f] [] fun a cs => a = .v (.bool true) 0 ∧ cs = [] := by
  refine a_enter hT [frA f, frA f] [] Try.func43 rfl rfl rfl ⟨⟨rfl, rfl, rfl, rfl, rfl, rfl, rfl, rfl, rfl, trivial⟩, ⟨rfl, rfl, rfl, rfl, rfl, rfl, rfl, rfl, rfl, trivial⟩, trivial⟩ fun c => ?_
  refine a_box hT 20 rfl rfl rfl rfl fun g => ?_
  refine a_box hT 21 rfl rfl rfl rfl fun g2 => ?_
  refine a_gt hT rfl rfl rfl (beq_self_eq_true _) ?_
  refine a_gt hT rfl rfl rfl (beq_self_eq_true _) ?_
  refine a_gt hT rfl rfl rfl (beq_self_eq_true _) ?_
  refine a_gt hT rfl rfl rfl (beq_self_eq_true _) ?_
  refine a_gt hT rfl rfl rfl (beq_self_eq_true _) ?_
  refine a_gt hT rfl rfl rfl (beq_self_eq_true _) ?_
  refine a_gt hT rfl rfl rfl (beq_self_eq_true _) ?_
  refine a_gt hT rfl rfl rfl (beq_self_eq_true _) ?_
  refine a_str hT (l := f.pay) rfl rfl rfl rfl rfl rfl rfl rfl ?_
  refine a_str hT (l := f.pay) rfl rfl rfl rfl rfl rfl rfl rfl ?_
  refine a_ret hT [] rfl rfl rfl rfl rfl rfl ?_
  exact ⟨by show AV.v (.bool (_ == _)) 0 = _; rw [beq_self_eq_true], rfl⟩
theorem sameToks_spec {l : List Int} (hl : l.length < 1000000) : FSpec Try.prog 21 [.d (.sl 1 (l.map eU)), .d (.sl 1 (l.map eU))] [] fun a cs => a = .v (.bool true) 0 ∧ cs = [] := by
  refine a_enter hT [.d (.sl 1 (l.map eU)), .d (.sl 1 (l.map eU))] [] Try.func21 rfl rfl rfl ⟨rfl, rfl, trivial⟩ fun c => ?_
  refine a_f hT rfl rfl (by show ((_ : Int) != _) = false; simp) ?_
  refine a_loop hT [0, 1, 12, 13] (fun i : Nat => [.d (.sl 1 (l.map eU)), .d (.sl 1 (l.map eU)), nI l.length, nI i]) (fun _ => []) (fun i => i ≤ l.length) (fun i => l.length - i) 0 [] rfl rfl (Nat.zero_le _) ⟨rfl, rfl, by show Value.int .i64 ((l.map eU).length : Int) = .int .i64 (l.length : Int); rw [List.length_map], rfl, trivial⟩ rfl trivial ?_
  intro i hi
  have hw : IntKind.i64.wrap ((i : Int) + 1) = ((i + 1 : Nat) : Int) := by rw [w64 (by omega) (by omega)]; omega
  refine a_if hT rfl rfl (fun h2 => ?_) (fun h2 => ?_)
  · have h2 : (i : Int) < l.length := of_decide_eq_true h2
    have hi1 : i < l.length := by omega
    have hd : (l.map eU)[((i : Nat) : Int).toNat]? = some (eU l[i]) := by simp [hi1]
    refine a_draw hT [] false [(0, false), (1, false), (2, false), (3, false), (4, false), (5, false), (6, false), (7, false), (8, true)] rfl rfl (by kernel_rfl) (by kernel_rfl) rfl ?_
    refine a_ix hT _ rfl rfl rfl rfl rfl rfl (by first | omega | assumption) (by first | assumption | rfl) ?_
    refine a_ix hT _ rfl rfl rfl rfl rfl rfl (by first | omega | assumption) (by first | assumption | rfl) ?_
    refine a_if hT rfl rfl (fun h => ?_) (fun h => ?_)
    · have h := bne_iff_ne.1 h
      (exfalso; first | omega | contradiction)
    · simp at h
      exact a_next hT (i + 1) [] rfl rfl ⟨by show i + 1 ≤ l.length; omega, by show l.length - (i + 1) < l.length - i; omega⟩ ⟨rfl, rfl, rfl, by show Value.int .i64 _ = Value.int .i64 _; rw [hw], trivial⟩ rfl trivial
  · have h2 : ¬ (i : Int) < l.length := of_decide_eq_false h2
    refine a_ret hT [] rfl rfl rfl rfl rfl rfl ?_
    exact ⟨rfl, rfl⟩
theorem sameEvs_spec {l : List Evt} (hl : l.length < 1000000) : FSpec Try.prog 47 [.d (evsD l), .d (evsD l)] [] fun a cs => a = .v (.bool true) 0 ∧ cs = [] := by
  refine a_enter hT [.d (evsD l), .d (evsD l)] [] Try.func47 rfl rfl rfl ⟨rfl, rfl, trivial⟩ fun c => ?_
  refine a_f hT rfl rfl (by show ((_ : Int) != _) = false; simp) ?_
  refine a_loop hT [0, 1, 12, 13] (fun i : Nat => [.d (evsD l), .d (evsD l), nI l.length, nI i]) (fun _ => []) (fun i => i ≤ l.length) (fun i => l.length - i) 0 [] rfl rfl (Nat.zero_le _) ⟨rfl, rfl, by show Value.int .i64 ((l.map evD).length : Int) = .int .i64 (l.length : Int); rw [List.length_map], rfl, trivial⟩ rfl trivial ?_
  intro i hi
  have hw : IntKind.i64.wrap ((i : Int) + 1) = ((i + 1 : Nat) : Int) := by rw [w64 (by omega) (by omega)]; omega
  refine a_if hT rfl rfl (fun h2 => ?_) (fun h2 => ?_)
  · have h2 : (i : Int) < l.length := of_decide_eq_true h2
    have hi1 : i < l.length := by omega
    have hd : (l.map evD)[((i : Nat) : Int).toNat]? = some (evD l[i]) := by simp [hi1]
    refine a_drawX hT [] 8 [(0, false), (1, false), (2, false), (3, false), (4, false), (5, false), (6, false), (7, false), (8, true)] rfl rfl (by kernel_rfl) (by kernel_rfl) rfl ?_
    refine a_ix hT _ rfl rfl rfl rfl rfl rfl (by first | omega | assumption) (by first | assumption | rfl) ?_
    refine a_ix hT _ rfl rfl rfl rfl rfl rfl (by first | omega | assumption) (by first | assumption | rfl) ?_
    refine a_call hT rfl rfl rfl (by kernel_rfl) (sameEv_spec (e := l[i])) [] [] rfl rfl ?_
    rintro _ _ ⟨rfl, rfl⟩
    refine a_rest hT [(9, true)] rfl rfl (by kernel_rfl) ?_
    refine a_f hT rfl rfl rfl ?_
    exact a_next hT (i + 1) [] rfl rfl ⟨by show i + 1 ≤ l.length; omega, by show l.length - (i + 1) < l.length - i; omega⟩ ⟨rfl, rfl, rfl, by show Value.int .i64 _ = Value.int .i64 _; rw [hw], trivial⟩ rfl trivial
  · have h2 : ¬ (i : Int) < l.length := of_decide_eq_false h2
    refine a_ret hT [] rfl rfl rfl rfl rfl rfl ?_
    exact ⟨rfl, rfl⟩
theorem sameFrs_spec {l : List Fr} (hl : l.length < 1000000) : FSpec Try.prog 48 [.d (frsD l), .d (frsD l)] [] fun a cs => a = .v (.bool true) 0 ∧ cs = [] := by
  refine a_enter hT [.d (frsD l), .d (frsD l)] [] Try.func48 rfl rfl rfl ⟨rfl, rfl, trivial⟩ fun c => ?_
  refine a_f hT rfl rfl (by show ((_ : Int) != _) = false; simp) ?_
  refine a_loop hT [0, 1, 12, 13] (fun i : Nat => [.d (frsD l), .d (frsD l), nI l.length, nI i]) (fun _ => []) (fun i => i ≤ l.length) (fun i => l.length - i) 0 [] rfl rfl (Nat.zero_le _) ⟨rfl, rfl, by show Value.int .i64 ((l.map frD).length : Int) = .int .i64 (l.length : Int); rw [List.length_map], rfl, trivial⟩ rfl trivial ?_
  intro i hi
  have hw : IntKind.i64.wrap ((i : Int) + 1) = ((i + 1 : Nat) : Int) := by rw [w64 (by omega) (by omega)]; omega
  refine a_if hT rfl rfl (fun h2 => ?_) (fun h2 => ?_)
  · have h2 : (i : Int) < l.length := of_decide_eq_true h2
    have hi1 : i < l.length := by omega
    have hd : (l.map frD)[((i : Nat) : Int).toNat]? = some (frD l[i]) := by simp [hi1]
    refine a_drawX hT [] 8 [(0, false), (1, false), (2, false), (3, false), (4, false), (5, false), (6, false), (7, false), (8, true)] rfl rfl (by kernel_rfl) (by kernel_rfl) rfl ?_
    refine a_ix hT _ rfl rfl rfl rfl rfl rfl (by first | omega | assumption) (by first | assumption | rfl) ?_
    refine a_ix hT _ rfl rfl rfl rfl rfl rfl (by first | omega | assumption) (by first | assumption | rfl) ?_
    refine a_call hT rfl rfl rfl (by kernel_rfl) (sameFr_spec (f := l[i])) [] [] rfl rfl ?_
    rintro _ _ ⟨rfl, rfl⟩
    refine a_rest hT [(9, true)] rfl rfl (by kernel_rfl) ?_
    refine a_f hT rfl rfl rfl ?_
    exact a_next hT (i + 1) [] rfl rfl ⟨by show i + 1 ≤ l.length; omega, by show l.length - (i + 1) < l.length - i; omega⟩ ⟨rfl, rfl, rfl, by show Value.int .i64 _ = Value.int .i64 _; rw [hw], trivial⟩ rfl trivial
  · have h2 : ¬ (i : Int) < l.length := of_decide_eq_false h2
    refine a_ret hT [] rfl rfl rfl rfl rfl rfl ?_
    exact ⟨rfl, rfl⟩
end Go.Proofs.Ytepjnmocepkfjaa
end

section
/- In a drawn region, behind something that happened, what is told otherwise: rows are frozen. It holds of any program. -/
set_option linter.unusedVariables false
set_option linter.unusedSimpArgs false
set_option maxRecDepth 100000
namespace Go.Proofs.Ytepjnmocepkfjaa.A
open V
section
variable {P : Program} {L : List TD} {n : Nat} {Q : Exit → Act → World → Prop} {c : Ctx}
variable {s : AMS} {f f1 : AEnv} {σ σ1 σp : Store} {κ : List Kt} {all : Array Oper} {dec : List Nat} {rest : List (Oper × Bool)} {m : Mode} {ex : Ex}
theorem a_ghostR (hm : m = .reg false σp ex) (hg : ∀ (Y S : Nat → Prop) (w : World) (fc : Env), (∀ b, S b → ¬ Y b) → Holds (or2 S Y) w σ S → EnvRep (or2 S Y) w f fc → ∃ S', Holds (or2 S' Y) w σ1 S' ∧ EnvRep (or2 S' Y) w f1 fc ∧ ∀ b, S' b → S b)
    (hk : DenA c P n Q (.ops m κ all dec rest) f1 σ1) : DenA c P n Q (.ops m κ all dec rest) f σ := by
  subst hm
  refine ⟨fun hok w S fc Sg hs hh => ?_⟩
  obtain ⟨ws, U, Sp, Su, h⟩ := hh
  have hdisX : ∀ b, S b → ¬ c.X b := fun b hb hx => (hs.sub b hb).elim (fun h => c.dis b h hx) fun h => Nat.lt_irrefl _ (Nat.lt_of_le_of_lt h (c.old b hx))
  have hM1 : ∀ b, or2 Su (or2 Sp c.X) b → or2 S c.X b := fun b hb => hb.elim (fun hb => .inl ((h.all b).2 (.inr hb))) fun hb => hb.elim (fun hb => .inl ((h.all b).2 (.inl hb))) .inr
  obtain ⟨S', h1, h2, h3⟩ := hg (or2 Sp c.X) Su w fc (fun b hb hy => hy.elim (fun hp => h.dis b hp hb) (hdisX b ((h.all b).2 (.inr hb)))) (h.hu.of fun b _ hb => hM1 b hb) (hs.env.of fun b _ hb => hM1 b hb)
  have hM2 : ∀ b, or2 (or2 Sp S') c.X b → or2 S' (or2 Sp c.X) b := fun b hb => hb.elim (fun hb => hb.elim (fun hb => .inr (.inl hb)) .inl) fun hb => .inr (.inr hb)
  have hM3 : ∀ b, or2 (or2 Sp S') c.X b → or2 S c.X b := fun b hb => hb.elim (fun hb => hb.elim (fun hb => .inl ((h.all b).2 (.inl hb))) fun hb => .inl ((h.all b).2 (.inr (h3 b hb)))) .inr
  refine hk.out hok w (or2 Sp S') fc Sg ⟨h2.of fun b _ hb => hM2 b hb, hs.ev, fun b hb => hb.elim (fun hb => hs.sub b ((h.all b).2 (.inl hb))) fun hb => hs.sub b ((h.all b).2 (.inr (h3 b hb)))⟩ ?_
  exact ⟨ws, U, Sp, S', h.sg, h.now, h.size, h.hp.of fun b _ hb => hM3 b hb, h1.of fun b _ hb => hM2 b hb, fun b => Iff.rfl, fun b hb hs' => h.dis b hb (h3 b hs'), fun b hb => h.un b (h3 b hb), h.kept, fun e => by cases e⟩
theorem fz_slot (t : Nat) {h : Nat} {a : AV} {x : Value} {e k : Nat} {es : List (List Dat)} (hl : look σ h = some (.row x e k es)) (ha : ∀ (Y S S2 : Nat → Prop) (w : World) (v : Value), (∀ b, or2 S2 Y b → or2 S Y b) → DRep (or2 S2 Y) w (.sl k es) x → Rep (or2 S Y) w (getA f t) v → Rep (or2 S2 Y) w a v) :
    ∀ (Y S : Nat → Prop) (w : World) (fc : Env), (∀ b, S b → ¬ Y b) → Holds (or2 S Y) w σ S → EnvRep (or2 S Y) w f fc → ∃ S', Holds (or2 S' Y) w (del σ h) S' ∧ EnvRep (or2 S' Y) w ((t, a) :: f) fc ∧ ∀ b, S' b → S b := by
  intro Y S w fc hdY hh he
  obtain ⟨S1, S2, hS, hd, hc, hr⟩ := hh.take hl
  have hM : ∀ b, or2 S2 Y b → or2 S Y b := fun b h => h.elim (fun h => .inl ((hS b).2 (.inr h))) .inr
  have hfz := row_frozen hc hS hd hdY
  refine ⟨S2, hr.of fun b _ h => hM b h, fun t' => ?_, fun b h => (hS b).2 (.inr h)⟩
  rw [getA_cons]
  split
  · rename_i e
    subst e
    exact ha Y S S2 w _ hM hfz (he t')
  · exact (he t').of fun b _ h => hM b h
/-- A row is frozen; the slot t holds it. -/
theorem a_freezeR (t h : Nat) {x x' : Value} {e k : Nat} {es : List (List Dat)} (hm : m = .reg false σp ex) (ht : getA f t = .row x h) (hl : look σ h = some (.row x' e k es)) (hx : x = x') (hk : DenA c P n Q (.ops m κ all dec rest) ((t, .d (.sl k es)) :: f) (del σ h)) : DenA c P n Q (.ops m κ all dec rest) f σ := by
  subst hx
  refine a_ghostR hm (fz_slot t hl fun Y S S2 w v hM hfz hr => ?_) hk
  rw [ht] at hr
  unfold Rep at hr ⊢
  rw [hr.1]
  exact hfz
/-- A row that a struct's field holds is frozen. -/
theorem a_freezeAR (t off h : Nat) {cs : List AV} {x x' : Value} {hx0 e k : Nat} {es : List (List Dat)} (hm : m = .reg false σp ex) (ht : getA f t = .agg cs) (ht2 : cs[off]? = some (.row x hx0)) (hl : look σ h = some (.row x' e k es)) (hx : x = x') (hk : DenA c P n Q (.ops m κ all dec rest) ((t, .agg (cs.set off (.d (.sl k es)))) :: f) (del σ h)) : DenA c P n Q (.ops m κ all dec rest) f σ := by
  subst hx
  refine a_ghostR hm (fz_slot t hl fun Y S S2 w v hM hfz hr => ?_) hk
  rw [ht] at hr
  unfold Rep at hr ⊢
  obtain ⟨xs, e, hrx, h2⟩ := hr
  refine ⟨xs, e, ?_, h2⟩
  have hrx' := hrx.of (M' := or2 S2 Y) fun b _ h => hM b h
  obtain ⟨y, hy, hry⟩ := hrx'.get _ _ ht2
  have hlt := (List.getElem?_eq_some_iff.1 hy).1
  have := hrx'.set off (.d (.sl k es)) y (by unfold Rep at hry ⊢; rw [hry.1]; exact hfz)
  have e : xs.set off y = xs := by
    apply List.ext_getElem?
    intro j
    rw [List.getElem?_set]
    split
    · rename_i e; subst e; exact hy.symm
    · rfl
  rwa [e] at this
end
end Go.Proofs.Ytepjnmocepkfjaa.A
end

section
/- The document's client: Floor, find, Open, Wake, frame. -/
set_option linter.unusedVariables false
set_option linter.unusedSimpArgs false
set_option maxRecDepth 100000
namespace Go.Proofs.Ytepjnmocepkfjaa
open V A
def cpD (x : CP) : List A.Dat := [.v (kU x.tok), .v (kI x.meth), A.bytesD x.arg, .v (kI x.dl), .v (kI x.att), .v (kI x.made)]
def cpA (x : CP) : AV := .agg [.v (kU x.tok) 0, .v (kI x.meth) 0, .d (A.bytesD x.arg), .v (kI x.dl) 0, .v (kI x.att) 0, .v (kI x.made) 0]
def cpsD (l : List CP) : A.Dat := .sl 6 (l.map cpD)
abbrev refBlk (g : Nat) (num last : Int) (l : List CP) : Chunk := .blk g 57 [.v (kI num) 0, .v (kU last) 0, .d (cpsD l)]
abbrev refC (g : Nat) (C : CS) : Chunk := refBlk g C.num C.last C.calls
theorem cpD_at {l : List CP} {i : Nat} (hi : i < l.length) : (l.map cpD)[((i : Nat) : Int).toNat]? = some (cpD l[i]) := by simp [hi]
def refD (C : CS) : AV := .d (.p [.v (kI C.num), .v (kU C.last), cpsD C.calls])
end Go.Proofs.Ytepjnmocepkfjaa
namespace Go.Proofs.Ytepjnmocepkfjaa.A
open V
theorem u64s_free {M M' : Nat → Prop} {w : World} : ∀ (l : List Int) {xs : List Value}, VRep M w (l.map fun n => A.Dat.v (kU n)) xs → VRep M' w (l.map fun n => A.Dat.v (kU n)) xs
  | [], xs, h => by unfold VRep at h ⊢; exact h
  | b :: l, xs, h => by
    simp only [List.map_cons] at h ⊢
    unfold VRep at h
    obtain ⟨x, r, rfl, h1, h2⟩ := h
    refine VRep.cons ?_ (u64s_free l h2)
    unfold DRep at h1 ⊢
    exact h1
theorem flat_eU : ∀ l : List Int, (l.map eU).flatten = l.map fun n => A.Dat.v (kU n)
  | [] => rfl
  | x :: l => by rw [List.map_cons, List.flatten_cons, flat_eU l]; rfl
instance FreeC.rowU (x : Value) (e : TypeId) (l : List Int) : FreeC (.row x e 1 (l.map eU)) := ⟨fun M M' w S ⟨h1, h2, xs, h3, h4⟩ => by
  refine ⟨h1, h2, xs, h3, ?_⟩
  rw [flat_eU] at h4 ⊢
  exact u64s_free l h4⟩
end Go.Proofs.Ytepjnmocepkfjaa.A
namespace Go.Proofs.Ytepjnmocepkfjaa
open V A
theorem rfloor_spec {C : CS} (h0 : 0 ≤ C.last) (h1 : C.last < 1000000) : FSpec Try.prog 23 [refD C] [] fun a cs => a = .v (kU C.fl) 0 ∧ cs = [] := by
  have hw1 : IntKind.u64.wrap (C.last + 1) = C.last + 1 := wrapU (by omega) (by omega)
  obtain ⟨num, last, l⟩ := C
  refine a_enter hT [refD ⟨num, last, l⟩] [] Try.func23 rfl rfl rfl ⟨rfl, trivial⟩ fun c => ?_
  cases l with
  | nil => 
    refine a_t hT rfl rfl rfl ?_
    refine a_ret hT [] rfl rfl rfl rfl rfl rfl ?_
    exact ⟨by show AV.v (.int .u64 _) 0 = AV.v (.int .u64 _) 0; rw [hw1]; rfl, rfl⟩
  | cons x l =>
    refine a_f hT rfl rfl (by show (((((x :: l).map cpD).length : Nat) : Int) == 0) = false; simp; omega) ?_
    refine a_ix hT _ rfl rfl rfl rfl rfl rfl (by first | omega | assumption) (by first | assumption | rfl) ?_
    refine a_ret hT [] rfl rfl rfl rfl rfl rfl ?_
    first | exact ⟨rfl, rfl⟩ | rfl
theorem ropen_spec {C : CS} (hl : C.calls.length < 1000000) : FSpec Try.prog 22 [refD C] [] fun a cs => ∃ v, a = .row v 1 ∧ cs = [rowL v (C.calls.map (·.tok))] := by
  refine a_enter hT [refD C] [] Try.func22 rfl rfl rfl ⟨rfl, trivial⟩ fun c => ?_
  refine a_run hT 8 rfl rfl ?_
  refine a_nilrow 3 1 25 1 rfl rfl ?_
  refine a_loop hT [0, 3, 9, 10] (fun x : Nat × Value => [refD C, .row x.2 1, nI C.calls.length, nI x.1]) (fun x => [(1, rowL x.2 ((C.calls.take x.1).map (·.tok)))]) (fun x => x.1 ≤ C.calls.length) (fun x => C.calls.length - x.1) (0, .slice none 0 0) [1] rfl rfl (Nat.zero_le _) ⟨rfl, rfl, by show Value.int .i64 ((C.calls.map cpD).length : Int) = .int .i64 (C.calls.length : Int); rw [List.length_map], rfl, trivial⟩ rfl ⟨⟨rfl, rfl, rfl, rfl⟩, trivial⟩ ?_
  rintro ⟨i, v⟩ hi
  dsimp only at hi ⊢
  have hw : IntKind.i64.wrap ((i : Int) + 1) = ((i + 1 : Nat) : Int) := by rw [w64 (by omega) (by omega)]; omega
  refine a_if hT rfl rfl (fun h2 => ?_) (fun h2 => ?_)
  · have h2 : (i : Int) < C.calls.length := of_decide_eq_true h2
    have hi1 : i < C.calls.length := by omega
    have hd := cpD_at hi1
    have ht : ((C.calls.take i).map (·.tok)).map eU ++ [eU C.calls[i].tok] = ((C.calls.take (i + 1)).map (·.tok)).map eU := by rw [take_one hi1 rfl, List.map_append, List.map_append]; rfl
    refine a_ix hT _ rfl rfl rfl rfl rfl rfl (by first | omega | assumption) (by first | assumption | rfl) ?_
    refine a_lit hT 31 rfl rfl rfl rfl (by kernel_rfl) rfl rfl rfl rfl fun x31 => ?_
    refine a_app hT 1 (((C.calls.take (i + 1)).map (fun x : CP => x.tok)).map eU) rfl rfl rfl rfl (by kernel_rfl) rfl rfl rfl rfl rfl ht (by simp; unfold lim; omega) fun v' => ?_
    exact a_next hT (i + 1, v') [1] rfl rfl ⟨by show i + 1 ≤ C.calls.length; omega, by show C.calls.length - (i + 1) < C.calls.length - i; omega⟩ ⟨rfl, rfl, rfl, by show Value.int .i64 _ = Value.int .i64 _; rw [hw], trivial⟩ rfl ⟨⟨rfl, rfl, rfl, rfl⟩, trivial⟩
  · have h2 : ¬ (i : Int) < C.calls.length := of_decide_eq_false h2
    have e : i = C.calls.length := by omega
    subst e
    rw [List.take_length]
    refine a_ret hT [1] rfl rfl rfl rfl rfl rfl ?_
    exact ⟨v, rfl, rfl⟩
theorem rframe_spec {C : CS} {x : CP} (h0 : 0 ≤ C.last) (h1 : C.last < 1000000) (hx : x.arg.length ≤ lim) : FSpec Try.prog 61 [refD C, cpA x] [] fun a cs => ∃ v, a = .agg [.v (kI 1) 0, .v (kI C.num) 0, .v (kU x.tok) 0, .v (kI x.att) 0, .v (kU C.fl) 0, .v (kI x.meth) 0, .v (kI x.dl) 0, .v (kI 0) 0, .row v 1] ∧ cs = [.row v 5 1 (x.arg.map eB)] := by
  refine a_enter hT [refD C, cpA x] [] Try.func61 rfl rfl rfl ⟨rfl, ⟨rfl, rfl, rfl, rfl, rfl, rfl, trivial⟩, trivial⟩ fun c => ?_
  refine a_box hT 20 rfl rfl rfl rfl fun g1 => ?_
  refine a_new hT hZ 21 rfl rfl rfl rfl fun g2 => ?_
  refine a_treeN hT [4] (fun v : Value => [.v (Value.pointer (some { block := g2, off := 0 })) 21]) (fun v => [(21, .blk g2 30 [.v (kI 1) 0, .v (kI C.num) 0, .v (kU x.tok) 0, .v (kI x.att) 0, .v (kU C.fl) 0, .v (kI x.meth) 0, .v (kI x.dl) 0, .v (kI 0) 0, .row v 1]), (1, .row v 5 1 (x.arg.map eB))]) (fun _ => True) [21] 20 [(0, false), (1, false), (2, false), (4, false), (6, false), (8, false), (10, false), (12, false), (15, false), (3, false), (5, false), (7, false), (11, false), (13, false), (16, false)] rfl rfl (by kernel_rfl) (by kernel_rfl) rfl ?_ ?_
  · refine a_alt hT [([(9, true), (14, true), (17, true), (18, true), (19, true)], true), ([(14, true), (9, true), (17, true), (18, true), (19, true)], true)] rfl rfl (by kernel_rfl) ⟨?_, ?_, trivial⟩
    · refine a_call hT rfl rfl rfl (by kernel_rfl) (rfloor_spec (C := C) h0 h1) [] [] rfl rfl ?_
      rintro _ _ ⟨rfl, rfl⟩
      refine a_lit hT 22 rfl rfl rfl rfl (by kernel_rfl) rfl rfl rfl rfl fun x22 => ?_
      refine a_app hT 22 (x.arg.map eB) rfl rfl rfl rfl (by kernel_rfl) rfl rfl rfl rfl rfl (by simp) (by simpa using hx) fun x1 => ?_
      refine a_build hT hZ [.v (Value.int IntKind.i64 1) 0, .v (kI C.num) 0, .v (kU x.tok) 0, .v (kI x.att) 0, .v (kU C.fl) 0, .v (kI x.meth) 0, .v (kI x.dl) 0, .v (Value.int IntKind.i64 0) 0, .row x1 22] rfl rfl rfl rfl rfl rfl ?_
      exact a_next hT x1 [21, 22] rfl rfl trivial ⟨rfl, trivial⟩ rfl ⟨⟨rfl, rfl, rfl, rfl, rfl, rfl, rfl, rfl, rfl, rfl, rfl, trivial⟩, ⟨rfl, rfl, rfl, rfl⟩, trivial⟩
    · refine a_lit hT 22 rfl rfl rfl rfl (by kernel_rfl) rfl rfl rfl rfl fun x22 => ?_
      refine a_call hT rfl rfl rfl (by kernel_rfl) (rfloor_spec (C := C) h0 h1) [] [] rfl rfl ?_
      rintro _ _ ⟨rfl, rfl⟩
      refine a_app hT 22 (x.arg.map eB) rfl rfl rfl rfl (by kernel_rfl) rfl rfl rfl rfl rfl (by simp) (by simpa using hx) fun x1 => ?_
      refine a_build hT hZ [.v (Value.int IntKind.i64 1) 0, .v (kI C.num) 0, .v (kU x.tok) 0, .v (kI x.att) 0, .v (kU C.fl) 0, .v (kI x.meth) 0, .v (kI x.dl) 0, .v (Value.int IntKind.i64 0) 0, .row x1 22] rfl rfl rfl rfl rfl rfl ?_
      exact a_next hT x1 [21, 22] rfl rfl trivial ⟨rfl, trivial⟩ rfl ⟨⟨rfl, rfl, rfl, rfl, rfl, rfl, rfl, rfl, rfl, rfl, rfl, trivial⟩, ⟨rfl, rfl, rfl, rfl⟩, trivial⟩
  · rintro v _
    refine a_ret hT [1] rfl rfl rfl rfl rfl rfl ?_
    exact ⟨v, rfl, rfl⟩
structure RAt (C : CS) (t : Int) (i : Nat) (x : CP) : Prop where
  g : C.calls[i]? = some x
  tt : x.tok = t
  f : C.find t = some x
  d : (C.drop t).calls = C.calls.take i ++ C.calls.drop (i + 1)
theorem rat_of {C : CS} (hC : C.ok) {t : Int} {i : Nat} (hi : i < C.calls.length) (ht : C.calls[i].tok = t) : RAt C t i C.calls[i] := by
  have hsp : C.calls = C.calls.take i ++ C.calls[i] :: C.calls.drop (i + 1) := by rw [List.getElem_cons_drop, List.take_append_drop]
  have hs := nodup_of_lt hC.s
  rw [hsp, List.map_append, List.map_cons, List.nodup_append] at hs
  obtain ⟨h1, h2, h3⟩ := hs
  rw [List.nodup_cons] at h2
  have ha : ∀ y ∈ C.calls.take i, y.tok ≠ t := fun y hy => by rw [← ht]; exact h3 _ (List.mem_map.2 ⟨y, hy, rfl⟩) _ (by simp)
  have hc : ∀ y ∈ C.calls.drop (i + 1), y.tok ≠ t := fun y hy e => h2.1 (List.mem_map.2 ⟨y, hy, by rw [e, ht]⟩)
  refine ⟨List.getElem?_eq_getElem hi, ht, ?_, ?_⟩
  · unfold CS.find
    conv => lhs; rw [hsp]
    rw [List.find?_append, List.find?_eq_none.2 (fun y hy => by simpa using ha y hy), List.find?_cons_of_pos (by simpa using ht)]
    simp
  · unfold CS.drop
    dsimp only
    conv => lhs; rw [hsp]
    rw [List.filter_append, List.filter_cons_of_neg (by simpa using ht), List.filter_eq_self.2 fun y hy => by simpa using ha y hy, List.filter_eq_self.2 fun y hy => by simpa using hc y hy]
theorem rfind_spec {C : CS} {t : Int} {h : Nat} (hC : C.ok) (hl : C.calls.length < 1000000) : FSpec Try.prog 62 [refD C, .v (kU t) h] [] fun a cs => ∃ i : Int, ((i = -1 ∧ C.find t = none) ∨ ∃ k x, i = (k : Nat) ∧ RAt C t k x) ∧ a = .v (kI i) 0 ∧ cs = [] := by
  refine a_enter hT [refD C, .v (kU t) 0] [] Try.func62 rfl rfl rfl ⟨rfl, rfl, trivial⟩ fun c => ?_
  refine a_loop hT [0, 1, 10, 11] (fun i : Nat => [refD C, .v (kU t) 0, nI C.calls.length, nI i]) (fun _ => []) (fun i => i ≤ C.calls.length ∧ ∀ y ∈ C.calls.take i, y.tok ≠ t) (fun i => C.calls.length - i) 0 [] rfl rfl ⟨Nat.zero_le _, by simp⟩ ⟨rfl, rfl, by show Value.int .i64 ((C.calls.map cpD).length : Int) = .int .i64 (C.calls.length : Int); rw [List.length_map], rfl, trivial⟩ rfl trivial ?_
  rintro i ⟨hi, hno⟩
  have hw : IntKind.i64.wrap ((i : Int) + 1) = ((i + 1 : Nat) : Int) := by rw [w64 (by omega) (by omega)]; omega
  refine a_if hT rfl rfl (fun h2 => ?_) (fun h2 => ?_)
  · have h2 : (i : Int) < C.calls.length := of_decide_eq_true h2
    have hi1 : i < C.calls.length := by omega
    have hd := cpD_at hi1
    refine a_ix hT _ rfl rfl rfl rfl rfl rfl (by first | omega | assumption) (by first | assumption | rfl) ?_
    refine a_if hT rfl rfl (fun h3 => ?_) (fun h3 => ?_)
    · have h3 := eq_of_beq h3
      refine a_ret hT [] rfl rfl rfl rfl rfl rfl ?_
      exact ⟨i, .inr ⟨i, _, rfl, rat_of hC hi1 h3⟩, rfl, rfl⟩
    · have h3 := ne_of_beq_false h3
      exact a_next hT (i + 1) [] rfl rfl ⟨⟨by show i + 1 ≤ C.calls.length; omega, fun y hy => by
        rw [take_one hi1 rfl] at hy
        rcases List.mem_append.1 hy with hy | hy
        · exact hno y hy
        · simp at hy; subst hy; exact h3⟩, by show C.calls.length - (i + 1) < C.calls.length - i; omega⟩ ⟨rfl, rfl, rfl, by show Value.int .i64 _ = Value.int .i64 _; rw [hw], trivial⟩ rfl trivial
  · have h2 : ¬ (i : Int) < C.calls.length := of_decide_eq_false h2
    have e : i = C.calls.length := by omega
    subst e
    rw [List.take_length] at hno
    refine a_ret hT [] rfl rfl rfl rfl rfl rfl ?_
    exact ⟨-1, .inl ⟨rfl, List.find?_eq_none.2 fun y hy => by simpa using hno y hy⟩, rfl, rfl⟩
end Go.Proofs.Ytepjnmocepkfjaa
end

section
/- The document's client: Wake, Call. -/
set_option linter.unusedVariables false
set_option linter.unusedSimpArgs false
set_option maxRecDepth 100000
namespace Go.Proofs.Ytepjnmocepkfjaa
open V A
structure LeastP (C : CS) (m : Int) : Prop where
  e : ∃ x ∈ C.calls, wakeP x = m
  l : ∀ x ∈ C.calls, m ≤ wakeP x
theorem IsMin.least {C : CS} {p : Int × Int} (h : IsMin (due C.calls) p) {m : Int} (hm : LeastP C m) : m = p.2 := by
  obtain ⟨x, hx, hxe⟩ := hm.e
  obtain ⟨y, hy, hye⟩ := List.mem_map.1 h.m
  have h1 := hm.l y hy
  have h2 := h.l (x.tok, wakeP x) (List.mem_map.2 ⟨x, hx, rfl⟩)
  unfold LK at h2
  dsimp only at h2
  rw [← hye] at h2 ⊢
  dsimp only at h2 ⊢
  omega
end Go.Proofs.Ytepjnmocepkfjaa
namespace Go.Proofs.Ytepjnmocepkfjaa.A
open V
section
variable {P : Program} {L : List TD} {Z : List (List Value)} {n : Nat} {Q : Exit → Act → World → Prop} {c : Ctx}
variable {s : AMS} {f f' : AEnv} {σ σ' : Store} {ob : Obs} {κ : List Kt} {all : Array Oper} {dec : List Nat} {o : Oper} {al : Bool} {rest : List (Oper × Bool)} {m : Mode}
/-- The least of three. -/
theorem a_min3 (hT : TOk P L) {x y z : Operand} {ts : Array TypeId} {k : IntKind} {a b d : Int} {h1 h2 h3 : Nat} (h : machA L n fuel s f σ [] = ⟨.op m κ all dec o al rest, f', σ', ob⟩) (hob : ob.map (·.1) = ob.map (·.2)) (ho : o.op = .call ⟨.builtin .min, #[x, y, z], ts⟩)
    (hx : evN n f' x = .v (.int k a) h1) (hy : evN n f' y = .v (.int k b) h2) (hz : evN n f' z = .v (.int k d) h3) (hk : DenA c P n Q (.ops m κ all dec rest) (putA f' o.dst (.v (.int k (if d < (if b < a then b else a) then d else (if b < a then b else a))) 0)) σ') : DenA c P n Q s f σ := by
  refine a_pure hT _ h hob (fun M w fc he => ⟨_, fun w' => ?_, mk_v⟩) hk
  have e1 := he.evalN (n := n) x
  have e2 := he.evalN (n := n) y
  have e3 := he.evalN (n := n) z
  rw [hx] at e1
  rw [hy] at e2
  rw [hz] at e3
  unfold execOp
  simp [ho, resolve, invoke, builtin, Builtin.min_, Builtin.min2, rep_v e1, rep_v e2, rep_v e3]
end
end Go.Proofs.Ytepjnmocepkfjaa.A
namespace Go.Proofs.Ytepjnmocepkfjaa
open V A
theorem rwake_spec {C : CS} (hC : C.ok) (hl : C.calls.length < 1000000) : FSpec Try.prog 25 [refD C] [] fun a cs => ((C.calls = [] ∧ a = .tup [.v (kI 0) 0, .v (.bool false) 0]) ∨ ∃ m, LeastP C m ∧ a = .tup [.v (kI m) 0, .v (.bool true) 0]) ∧ cs = [] := by
  refine a_enter hT [refD C] [] Try.func25 rfl rfl rfl ⟨rfl, trivial⟩ fun c => ?_
  refine a_if hT rfl rfl (fun h1 => ?_) (fun h1 => ?_)
  · have h1 := eq_of_beq h1
    have h1 : ((C.calls.map cpD).length : Int) = 0 := h1
    refine a_ret hT [] rfl rfl rfl rfl rfl rfl ?_
    exact ⟨.inl ⟨by simpa using h1, rfl⟩, rfl⟩
  have h1 := ne_of_beq_false h1
  have h1 : ¬ ((C.calls.map cpD).length : Int) = 0 := h1
  rw [List.length_map] at h1
  refine a_loop hT [0, 4, 16, 17] (fun x : Nat × Int => [refD C, .v (kI x.2) 0, nI C.calls.length, nI x.1]) (fun _ => []) (fun x => x.1 ≤ C.calls.length ∧ (x.1 = 0 ∧ x.2 = 9223372036854775807 ∨ ∃ y ∈ C.calls.take x.1, wakeP y = x.2) ∧ ∀ y ∈ C.calls.take x.1, x.2 ≤ wakeP y) (fun x => C.calls.length - x.1) (0, 9223372036854775807) [] rfl rfl ⟨Nat.zero_le _, .inl ⟨rfl, rfl⟩, by simp⟩ ⟨rfl, rfl, by show Value.int .i64 ((C.calls.map cpD).length : Int) = .int .i64 (C.calls.length : Int); rw [List.length_map], rfl, trivial⟩ rfl trivial ?_
  rintro ⟨i, m⟩ ⟨hi, hm, hle⟩
  dsimp only at hi hm hle ⊢
  have hw : IntKind.i64.wrap ((i : Int) + 1) = ((i + 1 : Nat) : Int) := by rw [w64 (by omega) (by omega)]; omega
  refine a_if hT rfl rfl (fun h2 => ?_) (fun h2 => ?_)
  · have h2 : (i : Int) < C.calls.length := of_decide_eq_true h2
    have hi1 : i < C.calls.length := by omega
    have hd := cpD_at hi1
    have hxo := hC.c C.calls[i] (List.getElem_mem hi1)
    have htk := take_one hi1 (x := C.calls[i]) rfl
    generalize C.calls[i] = x at hd hxo htk
    obtain ⟨a, ha⟩ : ∃ a : Nat, x.att = a := ⟨x.att.toNat, by have := hxo.a1; omega⟩
    have ha6 : a < 6 := by have := hxo.a2; omega
    have hsp := refdelay_spec (h := 0) ha6
    rw [← ha] at hsp
    refine a_draw hT [] false [(0, false), (1, false), (2, false), (3, false), (4, false), (5, false), (6, false), (7, false), (8, false), (9, false), (10, false), (11, false), (12, false), (13, false), (14, false), (15, false), (16, false), (17, false), (18, false), (19, false), (20, false), (21, false), (22, false), (23, false), (24, false), (25, true), (26, true), (27, true), (28, true)] rfl rfl (by kernel_rfl) (by kernel_rfl) rfl ?_
    refine a_ix hT _ rfl rfl rfl rfl rfl rfl (by first | omega | assumption) (by first | assumption | rfl) ?_
    refine a_ix hT _ rfl rfl rfl rfl rfl rfl (by first | omega | assumption) (by first | assumption | rfl) ?_
    refine a_ix hT _ rfl rfl rfl rfl rfl rfl (by first | omega | assumption) (by first | assumption | rfl) ?_
    refine a_call hT rfl rfl rfl (by kernel_rfl) hsp [] [] rfl rfl ?_
    rintro _ _ ⟨rfl, rfl⟩
    refine a_min3 hT rfl rfl rfl rfl rfl rfl ?_
    have hwk : (if IntKind.i64.wrap (x.made + delayP x.att) < (if x.dl < m then x.dl else m) then IntKind.i64.wrap (x.made + delayP x.att) else (if x.dl < m then x.dl else m)) = if wakeP x < m then wakeP x else m := by
      have hdl := delayP_le x.att
      have := hxo.m
      have := hxo.md
      have := hxo.d
      rw [w64 (by omega) (by omega)]
      unfold wakeP mnI
      (repeat' split) <;> first | rfl | omega
    refine a_next hT (i + 1, if wakeP x < m then wakeP x else m) [] rfl rfl ⟨⟨by show i + 1 ≤ C.calls.length; omega, .inr ?_, fun y hy => ?_⟩, by show C.calls.length - (i + 1) < C.calls.length - i; omega⟩ ⟨rfl, by show Value.int .i64 _ = Value.int .i64 _; rw [hwk], rfl, by show Value.int .i64 _ = Value.int .i64 _; rw [hw], trivial⟩ rfl trivial
    · show ∃ y ∈ C.calls.take (i + 1), wakeP y = if wakeP x < m then wakeP x else m
      rw [htk]
      by_cases hlt : wakeP x < m
      · rw [if_pos hlt]; exact ⟨x, by simp, rfl⟩
      · rw [if_neg hlt]
        rcases hm with ⟨rfl, rfl⟩ | ⟨y, hy, e⟩
        · have hdl := delayP_le x.att
          have := hxo.m
          have := hxo.md
          have := hxo.d
          unfold wakeP mnI at hlt
          split at hlt <;> omega
        · exact ⟨y, List.mem_append.2 (.inl hy), e⟩
    · show (if wakeP x < m then wakeP x else m) ≤ wakeP y
      have hy : y ∈ C.calls.take (i + 1) := hy
      rw [htk] at hy
      rcases List.mem_append.1 hy with hy | hy
      · have := hle y hy
        split <;> omega
      · simp at hy; subst hy
        split <;> omega
  · have h2 : ¬ (i : Int) < C.calls.length := of_decide_eq_false h2
    have e : i = C.calls.length := by omega
    subst e
    rw [List.take_length] at hle hm
    refine a_ret hT [] rfl rfl rfl rfl rfl rfl ?_
    exact ⟨.inr ⟨m, ⟨hm.resolve_left fun h => by omega, hle⟩, rfl⟩, rfl⟩
abbrev evZ (g : Nat) : Chunk := .blk g 28 [.v (.int .i64 0) 0, .v (.int .i64 0) 0, .v (.int .u64 0) 0, .v (.int .i64 0) 0, .v (.int .i64 0) 0, .v (.slice none 0 0) 0]
abbrev frZ (g : Nat) : Chunk := .blk g 30 [.v (.int .i64 0) 0, .v (.int .i64 0) 0, .v (.int .u64 0) 0, .v (.int .i64 0) 0, .v (.int .u64 0) 0, .v (.int .i64 0) 0, .v (.int .i64 0) 0, .v (.int .i64 0) 0, .v (.slice none 0 0) 0]
abbrev cpBlk (g : Nat) (x : CP) : Chunk := .blk g 93 [.v (kU x.tok) 0, .v (kI x.meth) 0, .d (A.bytesD x.arg), .v (kI x.dl) 0, .v (kI x.att) 0, .v (kI x.made) 0]
theorem callr_e {g : Nat} {C : CS} {meth dl now : Int} {arg : List UInt8} (e : Int) (he : callP C meth arg dl now = (C, noev, nofr, e)) {a : AV} (hf : Fit a (.tup [evtA noev, frA nofr, .v (kI e) 0])) :
    ∃ a', Fit a a' ∧ a' = .tup [evtA (callP C meth arg dl now).2.1, frA (callP C meth arg dl now).2.2.1, .v (kI (callP C meth arg dl now).2.2.2) 0] ∧ Ent [refC g C] [refC g (callP C meth arg dl now).1] := by
  rw [he]
  exact ⟨_, hf, rfl, Ent.refl _⟩
theorem rcall_spec {g h h1 h2 h3 : Nat} {C : CS} {meth dl now : Int} {arg : List UInt8} (hC : C.ok) (ha : arg.length ≤ lim) (hl1 : C.last < 900000) : FSpec Try.prog 41 [ptrA g h, .v (kI meth) h1, .d (A.bytesD arg), .v (kI dl) h2, .v (kI now) h3] [refC g C]
    fun a cs => a = .tup [evtA (callP C meth arg dl now).2.1, frA (callP C meth arg dl now).2.2.1, .v (kI (callP C meth arg dl now).2.2.2) 0] ∧ cs = [refC g (callP C meth arg dl now).1] := by
  have hL : ((arg.map eB).length : Int) = arg.length := by rw [List.length_map]
  have hn0 := hC.n0
  have hl0 := hC.l0
  have hl2 := hC.l1
  have hfl := hC.fl1
  have hw1 : IntKind.u64.wrap (C.last + 1) = C.last + 1 := wrapU (by omega) (by omega)
  have hw2 : IntKind.u64.wrap (C.fl + 16) = C.fl + 16 := wrapU (by omega) (by omega)
  refine FSpec.weak (R := fun a cs => ∃ a', Fit a a' ∧ a' = .tup [evtA (callP C meth arg dl now).2.1, frA (callP C meth arg dl now).2.2.1, .v (kI (callP C meth arg dl now).2.2.2) 0] ∧ Ent cs [refC g (callP C meth arg dl now).1]) ?_ fun a cs ⟨a', h1, h2, h3⟩ => ⟨a', [refC g (callP C meth arg dl now).1], [], h1, by rw [List.append_nil]; exact h3, h2, rfl⟩
  refine a_enter hT [ptrA g 10, .v (kI meth) 0, .d (A.bytesD arg), .v (kI dl) 0, .v (kI now) 0] [10] Try.func41 rfl rfl rfl ⟨rfl, rfl, rfl, rfl, rfl, trivial⟩ fun c => ?_
  refine a_new hT hZ 20 rfl rfl rfl rfl fun g1 => ?_
  refine a_new hT hZ 21 rfl rfl rfl rfl fun g2 => ?_
  refine a_g hT rfl rfl rfl (fun h4 => ?_) (fun h4 => ?_)
  · have h4 := of_decide_eq_true h4
    refine a_gt hT rfl rfl rfl rfl ?_
    refine a_t hT rfl rfl rfl ?_
    refine a_build hT hZ [.v (Value.int IntKind.i64 0) 0, .v (Value.int IntKind.i64 0) 0, .v (Value.int IntKind.u64 0) 0, .v (Value.int IntKind.i64 0) 0, .v (Value.int IntKind.i64 0) 0, .v (Value.slice none 0 0) 0] rfl rfl rfl rfl rfl rfl ?_
    refine a_build hT hZ [.v (Value.int IntKind.i64 0) 0, .v (Value.int IntKind.i64 0) 0, .v (Value.int IntKind.u64 0) 0, .v (Value.int IntKind.i64 0) 0, .v (Value.int IntKind.u64 0) 0, .v (Value.int IntKind.i64 0) 0, .v (Value.int IntKind.i64 0) 0, .v (Value.int IntKind.i64 0) 0, .v (Value.slice none 0 0) 0] rfl rfl rfl rfl rfl rfl ?_
    refine a_ret hT [10] rfl rfl rfl rfl rfl rfl ?_
    refine callr_e 1 (by unfold callP; rw [if_pos (by omega)]) ⟨⟨rfl, rfl, rfl, rfl, rfl, ⟨rfl, rfl⟩, trivial⟩, ⟨rfl, rfl, rfl, rfl, rfl, rfl, rfl, rfl, ⟨rfl, rfl⟩, trivial⟩, rfl, trivial⟩
  · have h4 := of_decide_eq_false h4
    refine a_g hT rfl rfl rfl (fun h5 => ?_) (fun h5 => ?_)
    · have h5 := of_decide_eq_true h5
      refine a_t hT rfl rfl rfl ?_
      refine a_build hT hZ [.v (Value.int IntKind.i64 0) 0, .v (Value.int IntKind.i64 0) 0, .v (Value.int IntKind.u64 0) 0, .v (Value.int IntKind.i64 0) 0, .v (Value.int IntKind.i64 0) 0, .v (Value.slice none 0 0) 0] rfl rfl rfl rfl rfl rfl ?_
      refine a_build hT hZ [.v (Value.int IntKind.i64 0) 0, .v (Value.int IntKind.i64 0) 0, .v (Value.int IntKind.u64 0) 0, .v (Value.int IntKind.i64 0) 0, .v (Value.int IntKind.u64 0) 0, .v (Value.int IntKind.i64 0) 0, .v (Value.int IntKind.i64 0) 0, .v (Value.int IntKind.i64 0) 0, .v (Value.slice none 0 0) 0] rfl rfl rfl rfl rfl rfl ?_
      refine a_ret hT [10] rfl rfl rfl rfl rfl rfl ?_
      refine callr_e 1 (by unfold callP; rw [if_pos (by omega)]) ⟨⟨rfl, rfl, rfl, rfl, rfl, ⟨rfl, rfl⟩, trivial⟩, ⟨rfl, rfl, rfl, rfl, rfl, rfl, rfl, rfl, ⟨rfl, rfl⟩, trivial⟩, rfl, trivial⟩
    · have h5 := of_decide_eq_false h5
      refine a_if hT rfl rfl (fun h6 => ?_) (fun h6 => ?_)
      · have h6 := of_decide_eq_true h6
        refine a_build hT hZ [.v (Value.int IntKind.i64 0) 0, .v (Value.int IntKind.i64 0) 0, .v (Value.int IntKind.u64 0) 0, .v (Value.int IntKind.i64 0) 0, .v (Value.int IntKind.i64 0) 0, .v (Value.slice none 0 0) 0] rfl rfl rfl rfl rfl rfl ?_
        refine a_build hT hZ [.v (Value.int IntKind.i64 0) 0, .v (Value.int IntKind.i64 0) 0, .v (Value.int IntKind.u64 0) 0, .v (Value.int IntKind.i64 0) 0, .v (Value.int IntKind.u64 0) 0, .v (Value.int IntKind.i64 0) 0, .v (Value.int IntKind.i64 0) 0, .v (Value.int IntKind.i64 0) 0, .v (Value.slice none 0 0) 0] rfl rfl rfl rfl rfl rfl ?_
        refine a_ret hT [10] rfl rfl rfl rfl rfl rfl ?_
        refine callr_e 1 (by unfold callP; rw [if_pos (by omega)]) ⟨⟨rfl, rfl, rfl, rfl, rfl, ⟨rfl, rfl⟩, trivial⟩, ⟨rfl, rfl, rfl, rfl, rfl, rfl, rfl, rfl, ⟨rfl, rfl⟩, trivial⟩, rfl, trivial⟩
      · have h6 := of_decide_eq_false h6
        refine a_g hT rfl rfl rfl (fun h7 => ?_) (fun h7 => ?_)
        · have h7 := of_decide_eq_true h7
          refine a_gt hT rfl rfl rfl rfl ?_
          refine a_t hT rfl rfl rfl ?_
          refine a_build hT hZ [.v (Value.int IntKind.i64 0) 0, .v (Value.int IntKind.i64 0) 0, .v (Value.int IntKind.u64 0) 0, .v (Value.int IntKind.i64 0) 0, .v (Value.int IntKind.i64 0) 0, .v (Value.slice none 0 0) 0] rfl rfl rfl rfl rfl rfl ?_
          refine a_build hT hZ [.v (Value.int IntKind.i64 0) 0, .v (Value.int IntKind.i64 0) 0, .v (Value.int IntKind.u64 0) 0, .v (Value.int IntKind.i64 0) 0, .v (Value.int IntKind.u64 0) 0, .v (Value.int IntKind.i64 0) 0, .v (Value.int IntKind.i64 0) 0, .v (Value.int IntKind.i64 0) 0, .v (Value.slice none 0 0) 0] rfl rfl rfl rfl rfl rfl ?_
          refine a_ret hT [10] rfl rfl rfl rfl rfl rfl ?_
          refine callr_e 3 (by unfold callP; rw [if_neg (by omega), if_pos (by omega)]) ⟨⟨rfl, rfl, rfl, rfl, rfl, ⟨rfl, rfl⟩, trivial⟩, ⟨rfl, rfl, rfl, rfl, rfl, rfl, rfl, rfl, ⟨rfl, rfl⟩, trivial⟩, rfl, trivial⟩
        · have h7 := of_decide_eq_false h7
          refine a_g hT rfl rfl rfl (fun h8 => ?_) (fun h8 => ?_)
          · have h8 := of_decide_eq_true h8
            refine a_t hT rfl rfl rfl ?_
            refine a_build hT hZ [.v (Value.int IntKind.i64 0) 0, .v (Value.int IntKind.i64 0) 0, .v (Value.int IntKind.u64 0) 0, .v (Value.int IntKind.i64 0) 0, .v (Value.int IntKind.i64 0) 0, .v (Value.slice none 0 0) 0] rfl rfl rfl rfl rfl rfl ?_
            refine a_build hT hZ [.v (Value.int IntKind.i64 0) 0, .v (Value.int IntKind.i64 0) 0, .v (Value.int IntKind.u64 0) 0, .v (Value.int IntKind.i64 0) 0, .v (Value.int IntKind.u64 0) 0, .v (Value.int IntKind.i64 0) 0, .v (Value.int IntKind.i64 0) 0, .v (Value.int IntKind.i64 0) 0, .v (Value.slice none 0 0) 0] rfl rfl rfl rfl rfl rfl ?_
            refine a_ret hT [10] rfl rfl rfl rfl rfl rfl ?_
            refine callr_e 3 (by unfold callP; rw [if_neg (by omega), if_pos (by omega)]) ⟨⟨rfl, rfl, rfl, rfl, rfl, ⟨rfl, rfl⟩, trivial⟩, ⟨rfl, rfl, rfl, rfl, rfl, rfl, rfl, rfl, ⟨rfl, rfl⟩, trivial⟩, rfl, trivial⟩
          · have h8 := of_decide_eq_false h8
            refine a_if hT rfl rfl (fun h9 => ?_) (fun h9 => ?_)
            · have h9 := of_decide_eq_true h9
              refine a_build hT hZ [.v (Value.int IntKind.i64 0) 0, .v (Value.int IntKind.i64 0) 0, .v (Value.int IntKind.u64 0) 0, .v (Value.int IntKind.i64 0) 0, .v (Value.int IntKind.i64 0) 0, .v (Value.slice none 0 0) 0] rfl rfl rfl rfl rfl rfl ?_
              refine a_build hT hZ [.v (Value.int IntKind.i64 0) 0, .v (Value.int IntKind.i64 0) 0, .v (Value.int IntKind.u64 0) 0, .v (Value.int IntKind.i64 0) 0, .v (Value.int IntKind.u64 0) 0, .v (Value.int IntKind.i64 0) 0, .v (Value.int IntKind.i64 0) 0, .v (Value.int IntKind.i64 0) 0, .v (Value.slice none 0 0) 0] rfl rfl rfl rfl rfl rfl ?_
              refine a_ret hT [10] rfl rfl rfl rfl rfl rfl ?_
              refine callr_e 3 (by unfold callP; rw [if_neg (by omega), if_pos (by omega)]) ⟨⟨rfl, rfl, rfl, rfl, rfl, ⟨rfl, rfl⟩, trivial⟩, ⟨rfl, rfl, rfl, rfl, rfl, rfl, rfl, rfl, ⟨rfl, rfl⟩, trivial⟩, rfl, trivial⟩
            · have h9 := of_decide_eq_false h9
              refine a_draw hT [] false [(0, false), (1, false), (2, false), (3, false), (4, false), (5, false), (6, true), (7, true), (8, true), (9, true)] rfl rfl (by kernel_rfl) (by kernel_rfl) rfl ?_
              refine a_callZ hT rfl rfl rfl (by kernel_rfl) (rfloor_spec (C := C) (by omega) (by omega)) [10] [] [] rfl rfl rfl ⟨rfl, trivial⟩ trivial (by rintro _ _ ⟨rfl, rfl⟩; exact ⟨inferInstance, inferInstance⟩) ?_
              rintro _ _ ⟨rfl, rfl⟩
              refine a_if hT rfl rfl (fun h10 => ?_) (fun h10 => ?_)
              · have h10 := of_decide_eq_true h10
                refine a_build hT hZ [.v (Value.int IntKind.i64 0) 0, .v (Value.int IntKind.i64 0) 0, .v (Value.int IntKind.u64 0) 0, .v (Value.int IntKind.i64 0) 0, .v (Value.int IntKind.i64 0) 0, .v (Value.slice none 0 0) 0] rfl rfl rfl rfl rfl rfl ?_
                refine a_build hT hZ [.v (Value.int IntKind.i64 0) 0, .v (Value.int IntKind.i64 0) 0, .v (Value.int IntKind.u64 0) 0, .v (Value.int IntKind.i64 0) 0, .v (Value.int IntKind.u64 0) 0, .v (Value.int IntKind.i64 0) 0, .v (Value.int IntKind.i64 0) 0, .v (Value.int IntKind.i64 0) 0, .v (Value.slice none 0 0) 0] rfl rfl rfl rfl rfl rfl ?_
                refine a_ret hT [10] rfl rfl rfl rfl rfl rfl ?_
                refine callr_e 14 (by unfold callP; rw [if_neg (by omega), if_neg (by omega), if_pos (by omega)]) ⟨⟨rfl, rfl, rfl, rfl, rfl, ⟨rfl, rfl⟩, trivial⟩, ⟨rfl, rfl, rfl, rfl, rfl, rfl, rfl, rfl, ⟨rfl, rfl⟩, trivial⟩, rfl, trivial⟩
              · have h10 := of_decide_eq_false h10
                have h11 : ¬ C.last + 1 - C.fl ≥ 16 := by omega
                have hq : Value.int .u64 (IntKind.u64.wrap (C.last + 1)) = kU (C.last + 1) := by rw [hw1]; rfl
                have hcl : C.calls.length < 900001 := by have := hC.len1 hl1; omega
                refine a_treeN hT [0, 1, 2, 10, 11, 13] (fun v : Nat × Value => [ptrA g 10, .v (kI meth) 0, .d (A.bytesD arg), ptrA g1 20, ptrA g2 21, ptrA v.1 40]) (fun v => [(10, refBlk g C.num (C.last + 1) C.calls), (20, evZ g1), (21, frZ g2), (40, .blk v.1 93 [.v (kU (C.last + 1)) 0, .v (kI meth) 0, .row v.2 41, .v (kI dl) 0, .v (kI 0) 0, .v (kI now) 0]), (41, .row v.2 5 1 (arg.map eB))]) (fun _ => True) [] 13 [(0, false), (1, false), (2, false), (3, false), (4, false), (6, false), (8, false), (9, false)] rfl rfl (by kernel_rfl) (by kernel_rfl) rfl ?_ ?_
                · refine a_alt hT [([(5, true)], false), ([(11, true), (5, true), (7, true), (10, true), (12, true)], true)] rfl rfl (by kernel_rfl) ⟨?_, ?_, trivial⟩
                  · refine a_lit hT 22 rfl rfl rfl rfl (by kernel_rfl) rfl rfl rfl rfl fun x22 => ?_
                    refine a_alt hT [([(7, true), (10, false), (11, true), (12, true)], true), ([(11, true), (7, true), (10, true), (12, true)], true)] rfl rfl (by kernel_rfl) ⟨?_, ?_, trivial⟩
                    · refine a_app hT 22 _ rfl rfl rfl rfl (by kernel_rfl) rfl rfl rfl rfl rfl rfl (by first | (simp; done) | (simp; omega) | (simp; unfold lim; omega) | (simp; assumption)) fun v => ?_
                      refine a_build hT hZ [.v (Value.int IntKind.u64 (IntKind.wrap IntKind.u64 (CS.last C + 1))) 0, .v (kI meth) 0, .row v 22, .v (kI dl) 0, .v (Value.int IntKind.i64 0) 0, .v (kI now) 0] rfl rfl rfl rfl rfl rfl ?_
                      refine a_new hT hZ 23 rfl rfl rfl rfl fun g3 => ?_
                      exact a_next hT (g3, v) [10, 20, 21, 23, 22] rfl rfl trivial ⟨rfl, rfl, rfl, rfl, rfl, rfl, trivial⟩ rfl ⟨⟨rfl, rfl, rfl, hq, rfl, trivial⟩, ⟨rfl, rfl, Fits.refl _⟩, ⟨rfl, rfl, Fits.refl _⟩, ⟨rfl, rfl, hq, rfl, rfl, rfl, rfl, rfl, trivial⟩, ⟨rfl, rfl, rfl, rfl⟩, trivial⟩
                    · refine a_new hT hZ 23 rfl rfl rfl rfl fun g3 => ?_
                      refine a_app hT 22 _ rfl rfl rfl rfl (by kernel_rfl) rfl rfl rfl rfl rfl rfl (by first | (simp; done) | (simp; omega) | (simp; unfold lim; omega) | (simp; assumption)) fun v => ?_
                      refine a_build hT hZ [.v (Value.int IntKind.u64 (IntKind.wrap IntKind.u64 (CS.last C + 1))) 0, .v (kI meth) 0, .row v 22, .v (kI dl) 0, .v (Value.int IntKind.i64 0) 0, .v (kI now) 0] rfl rfl rfl rfl rfl rfl ?_
                      exact a_next hT (g3, v) [10, 20, 21, 23, 22] rfl rfl trivial ⟨rfl, rfl, rfl, rfl, rfl, rfl, trivial⟩ rfl ⟨⟨rfl, rfl, rfl, hq, rfl, trivial⟩, ⟨rfl, rfl, Fits.refl _⟩, ⟨rfl, rfl, Fits.refl _⟩, ⟨rfl, rfl, hq, rfl, rfl, rfl, rfl, rfl, trivial⟩, ⟨rfl, rfl, rfl, rfl⟩, trivial⟩
                  · refine a_new hT hZ 22 rfl rfl rfl rfl fun g3 => ?_
                    refine a_lit hT 23 rfl rfl rfl rfl (by kernel_rfl) rfl rfl rfl rfl fun x23 => ?_
                    refine a_app hT 23 _ rfl rfl rfl rfl (by kernel_rfl) rfl rfl rfl rfl rfl rfl (by first | (simp; done) | (simp; omega) | (simp; unfold lim; omega) | (simp; assumption)) fun v => ?_
                    refine a_build hT hZ [.v (Value.int IntKind.u64 (IntKind.wrap IntKind.u64 (CS.last C + 1))) 0, .v (kI meth) 0, .row v 23, .v (kI dl) 0, .v (Value.int IntKind.i64 0) 0, .v (kI now) 0] rfl rfl rfl rfl rfl rfl ?_
                    exact a_next hT (g3, v) [10, 20, 21, 22, 23] rfl rfl trivial ⟨rfl, rfl, rfl, rfl, rfl, rfl, trivial⟩ rfl ⟨⟨rfl, rfl, rfl, hq, rfl, trivial⟩, ⟨rfl, rfl, Fits.refl _⟩, ⟨rfl, rfl, Fits.refl _⟩, ⟨rfl, rfl, hq, rfl, rfl, rfl, rfl, rfl, trivial⟩, ⟨rfl, rfl, rfl, rfl⟩, trivial⟩
                · rintro ⟨g3, v⟩ _
                  refine a_freezeB 40 2 41 rfl rfl rfl rfl rfl ?_
                  refine a_treeN hT [0, 1, 2, 10, 11, 13] (fun v : Value => [ptrA g 10, .v (kI meth) 0, .d (A.bytesD arg), ptrA g1 20, ptrA g2 21, ptrA g3 40]) (fun v => [(10, .blk g 57 [.v (kI C.num) 0, .v (kU (C.last + 1)) 0, .row v 42]), (42, .row v 93 6 ((C.calls ++ [newC C meth arg dl now]).map cpD)), (20, evZ g1), (21, frZ g2), (40, cpBlk g3 (newC C meth arg dl now))]) (fun _ => True) [] 12 [(0, false), (2, false), (3, false), (4, false), (5, false), (7, false)] rfl rfl (by kernel_rfl) (by kernel_rfl) rfl ?_ ?_
                  · refine a_alt hT [([(1, true)], false), ([(8, true), (1, true), (6, true), (9, true), (10, true), (11, true), (12, true)], true)] rfl rfl (by kernel_rfl) ⟨?_, ?_, trivial⟩
                    · refine a_lit hT 41 rfl rfl rfl rfl (by kernel_rfl) rfl rfl rfl rfl fun x41 => ?_
                      refine a_alt hT [([(6, true), (8, true), (9, true), (10, true), (11, true), (12, true)], true), ([(8, true), (6, true), (9, true), (10, true), (11, true), (12, true)], true)] rfl rfl (by kernel_rfl) ⟨?_, ?_, trivial⟩
                      · refine a_app hT 41 _ rfl rfl rfl rfl (by kernel_rfl) rfl rfl rfl rfl rfl rfl (by first | (simp; done) | (simp; omega) | (simp; unfold lim; omega) | (simp; assumption)) fun v1 => ?_
                        refine a_lit hT 42 rfl rfl rfl rfl (by kernel_rfl) rfl rfl rfl rfl fun x42 => ?_
                        refine a_app hT 41 _ rfl rfl rfl rfl (by kernel_rfl) rfl rfl rfl rfl rfl rfl (by first | (simp; done) | (simp; omega) | (simp; unfold lim; omega) | (simp; assumption)) fun v2 => ?_
                        exact a_next hT v2 [10, 41, 20, 21, 40] rfl rfl trivial ⟨rfl, rfl, rfl, rfl, rfl, rfl, trivial⟩ rfl ⟨⟨rfl, rfl, rfl, rfl, rfl, trivial⟩, ⟨rfl, rfl, rfl, by rw [List.map_append]; rfl⟩, ⟨rfl, rfl, Fits.refl _⟩, ⟨rfl, rfl, Fits.refl _⟩, ⟨rfl, rfl, rfl, rfl, rfl, rfl, rfl, rfl, trivial⟩, trivial⟩
                      · refine a_lit hT 42 rfl rfl rfl rfl (by kernel_rfl) rfl rfl rfl rfl fun x42 => ?_
                        refine a_app hT 41 _ rfl rfl rfl rfl (by kernel_rfl) rfl rfl rfl rfl rfl rfl (by first | (simp; done) | (simp; omega) | (simp; unfold lim; omega) | (simp; assumption)) fun v1 => ?_
                        refine a_app hT 41 _ rfl rfl rfl rfl (by kernel_rfl) rfl rfl rfl rfl rfl rfl (by first | (simp; done) | (simp; omega) | (simp; unfold lim; omega) | (simp; assumption)) fun v2 => ?_
                        exact a_next hT v2 [10, 41, 20, 21, 40] rfl rfl trivial ⟨rfl, rfl, rfl, rfl, rfl, rfl, trivial⟩ rfl ⟨⟨rfl, rfl, rfl, rfl, rfl, trivial⟩, ⟨rfl, rfl, rfl, by rw [List.map_append]; rfl⟩, ⟨rfl, rfl, Fits.refl _⟩, ⟨rfl, rfl, Fits.refl _⟩, ⟨rfl, rfl, rfl, rfl, rfl, rfl, rfl, rfl, trivial⟩, trivial⟩
                    · refine a_lit hT 41 rfl rfl rfl rfl (by kernel_rfl) rfl rfl rfl rfl fun x41 => ?_
                      refine a_lit hT 42 rfl rfl rfl rfl (by kernel_rfl) rfl rfl rfl rfl fun x42 => ?_
                      refine a_app hT 42 _ rfl rfl rfl rfl (by kernel_rfl) rfl rfl rfl rfl rfl rfl (by first | (simp; done) | (simp; omega) | (simp; unfold lim; omega) | (simp; assumption)) fun v1 => ?_
                      refine a_app hT 42 _ rfl rfl rfl rfl (by kernel_rfl) rfl rfl rfl rfl rfl rfl (by first | (simp; done) | (simp; omega) | (simp; unfold lim; omega) | (simp; assumption)) fun v2 => ?_
                      exact a_next hT v2 [10, 42, 20, 21, 40] rfl rfl trivial ⟨rfl, rfl, rfl, rfl, rfl, rfl, trivial⟩ rfl ⟨⟨rfl, rfl, rfl, rfl, rfl, trivial⟩, ⟨rfl, rfl, rfl, by rw [List.map_append]; rfl⟩, ⟨rfl, rfl, Fits.refl _⟩, ⟨rfl, rfl, Fits.refl _⟩, ⟨rfl, rfl, rfl, rfl, rfl, rfl, rfl, rfl, trivial⟩, trivial⟩
                  · rintro v1 _
                    refine a_freezeB 10 2 42 rfl rfl rfl rfl rfl ?_
                    refine a_treeN hT [0, 10, 11, 13, 14] (fun v : Nat × Value => [ptrA g 10, ptrA g1 20, ptrA g2 21, ptrA g3 40, ptrA v.1 43]) (fun v => [(10, refC g (newS C (newC C meth arg dl now))), (20, evZ g1), (21, frZ g2), (40, cpBlk g3 (newC C meth arg dl now)), (43, .blk v.1 28 [.v (kI 1) 0, .v (kI C.num) 0, .v (kU (C.last + 1)) 0, .v (kI meth) 0, .v (kI 0) 0, .row v.2 44]), (44, .row v.2 5 1 (arg.map eB))]) (fun _ => True) [] 13 [(0, false), (4, false), (6, false), (8, false), (1, false), (5, false), (2, false), (3, false)] rfl rfl (by kernel_rfl) (by kernel_rfl) rfl ?_ ?_
                    · refine a_alt hT [([(7, true)], false), ([(11, true), (7, true), (9, true), (10, true), (12, true)], true)] rfl rfl (by kernel_rfl) ⟨?_, ?_, trivial⟩
                      · refine a_lit hT 41 rfl rfl rfl rfl (by kernel_rfl) rfl rfl rfl rfl fun x41 => ?_
                        refine a_alt hT [([(9, true), (10, false), (11, true), (12, true)], true), ([(11, true), (9, true), (10, true), (12, true)], true)] rfl rfl (by kernel_rfl) ⟨?_, ?_, trivial⟩
                        · refine a_app hT 41 _ rfl rfl rfl rfl (by kernel_rfl) rfl rfl rfl rfl rfl rfl (by first | (simp; done) | (simp; omega) | (simp; unfold lim; omega) | (simp; assumption)) fun v2 => ?_
                          refine a_build hT hZ [.v (Value.int IntKind.i64 1) 0, .v (kI (CS.num C)) 0, .v (kU (CP.tok (newC C meth arg dl now))) 0, .v (kI meth) 0, .v (Value.int IntKind.i64 0) 0, .row v2 41] rfl rfl rfl rfl rfl rfl ?_
                          refine a_new hT hZ 42 rfl rfl rfl rfl fun g4 => ?_
                          exact a_next hT (g4, v2) [10, 20, 21, 40, 42, 41] rfl rfl trivial ⟨rfl, rfl, rfl, rfl, rfl, trivial⟩ rfl ⟨⟨rfl, rfl, Fits.refl _⟩, ⟨rfl, rfl, Fits.refl _⟩, ⟨rfl, rfl, Fits.refl _⟩, ⟨rfl, rfl, Fits.refl _⟩, ⟨rfl, rfl, rfl, rfl, rfl, rfl, rfl, rfl, trivial⟩, ⟨rfl, rfl, rfl, rfl⟩, trivial⟩
                        · refine a_new hT hZ 42 rfl rfl rfl rfl fun g4 => ?_
                          refine a_app hT 41 _ rfl rfl rfl rfl (by kernel_rfl) rfl rfl rfl rfl rfl rfl (by first | (simp; done) | (simp; omega) | (simp; unfold lim; omega) | (simp; assumption)) fun v2 => ?_
                          refine a_build hT hZ [.v (Value.int IntKind.i64 1) 0, .v (kI (CS.num C)) 0, .v (kU (CP.tok (newC C meth arg dl now))) 0, .v (kI meth) 0, .v (Value.int IntKind.i64 0) 0, .row v2 41] rfl rfl rfl rfl rfl rfl ?_
                          exact a_next hT (g4, v2) [10, 20, 21, 40, 42, 41] rfl rfl trivial ⟨rfl, rfl, rfl, rfl, rfl, trivial⟩ rfl ⟨⟨rfl, rfl, Fits.refl _⟩, ⟨rfl, rfl, Fits.refl _⟩, ⟨rfl, rfl, Fits.refl _⟩, ⟨rfl, rfl, Fits.refl _⟩, ⟨rfl, rfl, rfl, rfl, rfl, rfl, rfl, rfl, trivial⟩, ⟨rfl, rfl, rfl, rfl⟩, trivial⟩
                      · refine a_new hT hZ 41 rfl rfl rfl rfl fun g4 => ?_
                        refine a_lit hT 42 rfl rfl rfl rfl (by kernel_rfl) rfl rfl rfl rfl fun x42 => ?_
                        refine a_app hT 42 _ rfl rfl rfl rfl (by kernel_rfl) rfl rfl rfl rfl rfl rfl (by first | (simp; done) | (simp; omega) | (simp; unfold lim; omega) | (simp; assumption)) fun v2 => ?_
                        refine a_build hT hZ [.v (Value.int IntKind.i64 1) 0, .v (kI (CS.num C)) 0, .v (kU (CP.tok (newC C meth arg dl now))) 0, .v (kI meth) 0, .v (Value.int IntKind.i64 0) 0, .row v2 42] rfl rfl rfl rfl rfl rfl ?_
                        exact a_next hT (g4, v2) [10, 20, 21, 40, 41, 42] rfl rfl trivial ⟨rfl, rfl, rfl, rfl, rfl, trivial⟩ rfl ⟨⟨rfl, rfl, Fits.refl _⟩, ⟨rfl, rfl, Fits.refl _⟩, ⟨rfl, rfl, Fits.refl _⟩, ⟨rfl, rfl, Fits.refl _⟩, ⟨rfl, rfl, rfl, rfl, rfl, rfl, rfl, rfl, trivial⟩, ⟨rfl, rfl, rfl, rfl⟩, trivial⟩
                    · rintro ⟨g4, v2⟩ _
                      refine a_freezeB 43 5 44 rfl rfl rfl rfl rfl ?_
                      refine a_draw hT [20, 21] false [(0, false), (1, false), (2, false), (3, true), (4, true), (5, true), (6, true)] rfl rfl (by kernel_rfl) (by kernel_rfl) rfl ?_
                      refine a_callZ hT rfl rfl rfl (by kernel_rfl) (rframe_spec (C := newS C (newC C meth arg dl now)) (x := newC C meth arg dl now) (show 0 ≤ C.last + 1 by omega) (show C.last + 1 < 1000000 by omega) ha) [10] [] [1] rfl rfl rfl ⟨rfl, ⟨rfl, rfl, rfl, rfl, rfl, rfl, trivial⟩, trivial⟩ trivial (by rintro _ _ ⟨v, rfl, rfl⟩; exact ⟨inferInstance, inferInstance⟩) ?_
                      rintro _ _ ⟨v3, rfl, rfl⟩
                      refine a_run hT 4 rfl rfl ?_
                      refine a_freezeB 21 8 1 rfl rfl rfl rfl rfl ?_
                      refine a_ret hT [10] rfl rfl rfl rfl rfl rfl ?_
                      have hcp : callP C meth arg dl now = (newS C (newC C meth arg dl now), ⟨1, C.num, C.last + 1, meth, 0, arg⟩, (newS C (newC C meth arg dl now)).frame (newC C meth arg dl now), 0) := by unfold callP; rw [if_neg (by omega), if_neg (by omega), if_neg h11]; rfl
                      rw [hcp]
                      exact ⟨_, Fit.refl _, rfl, Ent.refl _⟩
end Go.Proofs.Ytepjnmocepkfjaa
end

section
/- The document's client: complete, Cancel, Take. -/
set_option linter.unusedVariables false
set_option linter.unusedSimpArgs false
set_option maxRecDepth 100000
namespace Go.Proofs.Ytepjnmocepkfjaa
open V A
theorem rcomplete_spec {g h h1 h2 : Nat} {C : CS} {t st : Int} {i : Nat} {x : CP} {bs : List UInt8} (hC : C.ok) (hl : C.calls.length < 999999) (hb : bs.length ≤ lim) (hr : RAt C t i x) : FSpec Try.prog 63 [ptrA g h, .v (kI (i : Int)) h1, .v (kI st) h2, .d (A.bytesD bs)] [refC g C]
    fun a cs => a = evtA ⟨3, C.num, t, x.meth, st, bs⟩ ∧ cs = [refC g (C.drop t)] := by
  have hi : i < C.calls.length := (List.getElem?_eq_some_iff.1 hr.g).1
  have hg : (C.calls.map cpD)[((i : Nat) : Int).toNat]? = some (cpD x) := by simp [hr.g]
  have hw : IntKind.i64.wrap ((i : Int) + 1) = ((i + 1 : Nat) : Int) := by rw [w64 (by omega) (by omega)]; omega
  have hlen : (C.calls.map cpD).length = C.calls.length := List.length_map _
  refine FSpec.weak (R := fun a cs => a = evtA ⟨3, C.num, t, x.meth, st, bs⟩ ∧ Ent cs [refC g (C.drop t)]) ?_ fun a cs ⟨h1, h3⟩ => ⟨a, [refC g (C.drop t)], [], Fit.refl _, by rw [List.append_nil]; exact h3, h1, rfl⟩
  refine a_enter hT [ptrA g 10, .v (kI (i : Int)) 0, .v (kI st) 0, .d (A.bytesD bs)] [10] Try.func63 rfl rfl rfl ⟨rfl, rfl, rfl, rfl, trivial⟩ fun c => ?_
  refine a_new hT hZ 20 rfl rfl rfl rfl fun g1 => ?_
  refine a_ix hT _ rfl rfl rfl rfl rfl rfl (by first | omega | assumption) (by first | assumption | rfl) ?_
  refine a_new hT hZ 21 rfl rfl rfl rfl fun g2 => ?_
  refine a_draw hT [] true [(0, false), (2, false), (3, false), (4, false), (5, false), (6, false), (7, false), (9, false), (10, false), (11, false), (12, false), (13, false), (14, false), (15, false), (1, true), (8, true), (16, true), (17, true), (18, true), (19, true)] rfl rfl (by kernel_rfl) (by kernel_rfl) rfl ?_
  refine a_sl hT 0 i ((C.calls.map cpD).take i) rfl rfl rfl rfl rfl rfl ⟨.i64, 0, rfl⟩ (by omega) (by omega) (by simp) ?_
  refine a_sl hT (i + 1) C.calls.length ((C.calls.map cpD).drop (i + 1)) rfl rfl rfl rfl rfl ⟨.i64, 0, by show AV.v (.int .i64 (IntKind.i64.wrap ((i : Int) + 1))) 0 = _; rw [hw]⟩ hlen.symm (by omega) (by omega) (List.take_of_length_le (by rw [List.length_drop, hlen]; omega)) ?_
  refine a_lit hT 22 rfl rfl rfl rfl (by kernel_rfl) rfl rfl rfl rfl fun x22 => ?_
  refine a_app hT 22 _ rfl rfl rfl rfl (by kernel_rfl) rfl rfl rfl rfl rfl rfl (by first | (simp; done) | (simp; omega) | (simp; unfold lim; omega) | (simp; assumption)) fun v => ?_
  refine a_app hT 22 ((C.drop t).calls.map cpD) rfl rfl rfl rfl (by kernel_rfl) rfl rfl rfl rfl rfl (by rw [hr.d, List.map_append, List.map_take, List.map_drop]; rfl) (by first | (simp; done) | (simp; omega) | (simp; unfold lim; omega) | (simp; assumption)) fun v1 => ?_
  refine a_run hT 6 rfl rfl ?_
  refine a_freezeB 10 2 22 rfl rfl rfl rfl rfl ?_
  refine a_draw hT [] true [(0, false), (1, false), (2, false), (3, false), (4, false), (5, false), (6, false), (7, false), (8, false), (10, false), (9, true), (11, true), (12, true), (13, true)] rfl rfl (by kernel_rfl) (by kernel_rfl) rfl ?_
  refine a_lit hT 23 rfl rfl rfl rfl (by kernel_rfl) rfl rfl rfl rfl fun x23 => ?_
  refine a_app hT 23 _ rfl rfl rfl rfl (by kernel_rfl) rfl rfl rfl rfl rfl rfl (by first | (simp; done) | (simp; omega) | (simp; unfold lim; omega) | (simp; assumption)) fun v2 => ?_
  refine a_build hT hZ [.v (Value.int IntKind.i64 3) 0, .v (kI (CS.num C)) 0, .v (kU (CP.tok x)) 0, .v (kI (CP.meth x)) 0, .v (kI st) 0, .row v2 23] rfl rfl rfl rfl rfl rfl ?_
  refine a_run hT 4 rfl rfl ?_
  refine a_freezeB 20 5 23 rfl rfl rfl rfl rfl ?_
  refine a_ret hT [10] rfl rfl rfl rfl rfl rfl ?_
  rw [← hr.tt]
  exact ⟨rfl, Ent.refl _⟩
theorem rcancel_spec {g h h1 : Nat} {C : CS} {t : Int} (hC : C.ok) (hl : C.calls.length < 999999) : FSpec Try.prog 44 [ptrA g h, .v (kU t) h1] [refC g C]
    fun a cs => a = .tup [evtA (cancelP C t).2.1, frA (cancelP C t).2.2.1, bA (cancelP C t).2.2.2] ∧ cs = [refC g (cancelP C t).1] := by
  refine FSpec.weak (R := fun a cs => ∃ a', Fit a a' ∧ a' = .tup [evtA (cancelP C t).2.1, frA (cancelP C t).2.2.1, bA (cancelP C t).2.2.2] ∧ Ent cs [refC g (cancelP C t).1]) ?_ fun a cs ⟨a', h1, h2, h3⟩ => ⟨a', [refC g (cancelP C t).1], [], h1, by rw [List.append_nil]; exact h3, h2, rfl⟩
  refine a_enter hT [ptrA g 10, .v (kU t) 0] [10] Try.func44 rfl rfl rfl ⟨rfl, rfl, trivial⟩ fun c => ?_
  refine a_new hT hZ 20 rfl rfl rfl rfl fun g1 => ?_
  refine a_new hT hZ 21 rfl rfl rfl rfl fun g2 => ?_
  refine a_callZ hT rfl rfl rfl (by kernel_rfl) (rfind_spec (h := 0) (t := t) hC (by omega)) [10] [] [] rfl rfl rfl ⟨rfl, rfl, trivial⟩ trivial (by rintro _ _ ⟨_, _, rfl, rfl⟩; exact ⟨inferInstance, inferInstance⟩) ?_
  rintro _ _ ⟨i, hi, rfl, rfl⟩
  rcases hi with ⟨rfl, hf⟩ | ⟨k, x, rfl, hr⟩
  · refine a_t hT rfl rfl rfl ?_
    have he : cancelP C t = (C, noev, nofr, false) := by unfold cancelP; rw [hf]
    rw [he]
    refine a_build hT hZ [.v (Value.int IntKind.i64 0) 0, .v (Value.int IntKind.i64 0) 0, .v (Value.int IntKind.u64 0) 0, .v (Value.int IntKind.i64 0) 0, .v (Value.int IntKind.i64 0) 0, .v (Value.slice none 0 0) 0] rfl rfl rfl rfl rfl rfl ?_
    refine a_build hT hZ [.v (Value.int IntKind.i64 0) 0, .v (Value.int IntKind.i64 0) 0, .v (Value.int IntKind.u64 0) 0, .v (Value.int IntKind.i64 0) 0, .v (Value.int IntKind.u64 0) 0, .v (Value.int IntKind.i64 0) 0, .v (Value.int IntKind.i64 0) 0, .v (Value.int IntKind.i64 0) 0, .v (Value.slice none 0 0) 0] rfl rfl rfl rfl rfl rfl ?_
    refine a_ret hT [10] rfl rfl rfl rfl rfl rfl ?_
    exact ⟨_, nofit, rfl, Ent.refl _⟩
  · have he : cancelP C t = (C.drop t, ⟨3, C.num, t, x.meth, 1, []⟩, ⟨3, C.num, t, x.att, C.fl, x.meth, x.dl, 0, []⟩, true) := by unfold cancelP; rw [hr.f]
    rw [he]
    have hxo := hC.c x (List.mem_of_getElem? hr.g)
    have hi : k < C.calls.length := (List.getElem?_eq_some_iff.1 hr.g).1
    have hg : (C.calls.map cpD)[((k : Nat) : Int).toNat]? = some (cpD x) := by simp [hr.g]
    refine a_if hT rfl rfl (fun h => ?_) (fun h => ?_)
    · have h : (k : Int) < 0 := of_decide_eq_true h
      omega
    have hl0 := hC.l0
    have hl1 := hC.l1
    refine a_ix hT _ rfl rfl rfl rfl rfl rfl (by first | omega | assumption) (by first | assumption | rfl) ?_
    refine a_callZ hT rfl rfl rfl (by kernel_rfl) (rframe_spec (C := C) (x := x) hC.l0 hC.l1 (show x.arg.length ≤ lim from Nat.le_trans hxo.a (by decide))) [10] [] [1] rfl rfl rfl ⟨rfl, ⟨rfl, rfl, rfl, rfl, rfl, rfl, trivial⟩, trivial⟩ trivial (by rintro _ _ ⟨v, rfl, rfl⟩; exact ⟨inferInstance, inferInstance⟩) ?_
    rintro _ _ ⟨v3, rfl, rfl⟩
    refine a_new hT hZ 22 rfl rfl rfl rfl fun g3 => ?_
    refine a_draw hT [10, 20, 21] false [(0, false), (1, false), (3, false), (2, true), (4, true), (5, true), (6, true)] rfl rfl (by kernel_rfl) (by kernel_rfl) rfl ?_
    refine a_callF hT rfl rfl rfl (by kernel_rfl) (rcomplete_spec (g := g) (h := 10) (h1 := 0) (h2 := 0) (st := 1) (bs := []) hC hl (by decide) hr) [10] [10] ⟨rfl, rfl, rfl, ⟨rfl, rfl⟩, trivial⟩ rfl ⟨⟨rfl, rfl, ⟨rfl, rfl, rfl, trivial⟩⟩, trivial⟩ ?_
    rintro _ _ ⟨rfl, rfl⟩
    refine a_ret hT [10] rfl rfl rfl rfl rfl rfl ?_
    rw [hr.tt]
    exact ⟨.tup [evtA ⟨3, C.num, t, x.meth, 1, []⟩, frA ⟨3, C.num, t, x.att, C.fl, x.meth, x.dl, 0, []⟩, bA true], ⟨⟨rfl, rfl, rfl, rfl, rfl, rfl, trivial⟩, ⟨rfl, rfl, rfl, rfl, rfl, rfl, rfl, rfl, ⟨rfl, rfl⟩, trivial⟩, rfl, trivial⟩, rfl, Ent.refl _⟩
theorem formed_iff {f : Fr} (h : 0 ≤ f.floor) : formedR f ↔ formed f := by
  unfold formedR formed
  constructor <;> intro h1 <;> omega
theorem take_rej {C : CS} {f : Fr} (h : ¬ formed f ∨ f.kind ≠ 2 ∨ f.client ≠ C.num ∨ f.status = 1 ∨ f.status = 4 ∨ f.status = 14) : takeP C f = (C, noev, false) := by
  unfold takeP
  split
  · rfl
  rename_i h1
  split
  · rfl
  rename_i x hx
  rw [if_pos]
  rcases h with h | h | h | h | h | h
  · exact absurd (.inl h) h1
  · exact absurd (.inr (.inl h)) h1
  · exact absurd (.inr (.inr h)) h1
  · exact .inr (by rw [h]; simp)
  · exact .inr (by rw [h]; simp)
  · exact .inr (by rw [h]; simp)
theorem rtake_spec {g h : Nat} {C : CS} {f : Fr} (hC : C.ok) (hl : C.calls.length < 999999) (hf : f.pay.length ≤ lim) (hfl : 0 ≤ f.floor) : FSpec Try.prog 45 [ptrA g h, frA f] [refC g C]
    fun a cs => a = .tup [evtA (takeP C f).2.1, bA (takeP C f).2.2] ∧ cs = [refC g (takeP C f).1] := by
  have hfi := formed_iff hfl
  refine FSpec.weak (R := fun a cs => ∃ a', Fit a a' ∧ a' = .tup [evtA (takeP C f).2.1, bA (takeP C f).2.2] ∧ Ent cs [refC g (takeP C f).1]) ?_ fun a cs ⟨a', h1, h2, h3⟩ => ⟨a', [refC g (takeP C f).1], [], h1, by rw [List.append_nil]; exact h3, h2, rfl⟩
  refine a_enter hT [ptrA g 10, frA f] [10] Try.func45 rfl rfl rfl ⟨rfl, ⟨rfl, rfl, rfl, rfl, rfl, rfl, rfl, rfl, rfl, trivial⟩, trivial⟩ fun c => ?_
  refine a_box hT 20 rfl rfl rfl rfl fun g1 => ?_
  refine a_new hT hZ 21 rfl rfl rfl rfl fun g2 => ?_
  refine a_draw hT [] false [(0, false), (1, true), (2, false), (3, false), (4, false), (5, false), (6, false), (7, false), (8, false), (9, false), (11, false), (10, false), (12, false), (13, false), (14, false), (15, false), (16, false), (17, false), (18, false), (19, false), (20, false), (21, false), (22, false), (23, false), (24, false), (25, false), (26, false), (27, false), (28, false), (29, false), (30, false), (31, false)] rfl rfl (by kernel_rfl) (by kernel_rfl) rfl ?_
  refine a_call hT rfl rfl rfl (by kernel_rfl) (formedR_spec (f := f)) [] [] rfl rfl ?_
  rintro _ _ ⟨rfl, rfl⟩
  refine a_g hT rfl rfl rfl (fun h1 => ?_) (fun h1 => ?_)
  · simp at h1
    refine a_gt hT rfl rfl rfl rfl ?_
    refine a_gt hT rfl rfl rfl rfl ?_
    refine a_gt hT rfl rfl rfl rfl ?_
    refine a_gt hT rfl rfl rfl rfl ?_
    refine a_t hT rfl rfl rfl ?_
    refine a_build hT hZ [.v (Value.int IntKind.i64 0) 0, .v (Value.int IntKind.i64 0) 0, .v (Value.int IntKind.u64 0) 0, .v (Value.int IntKind.i64 0) 0, .v (Value.int IntKind.i64 0) 0, .v (Value.slice none 0 0) 0] rfl rfl rfl rfl rfl rfl ?_
    refine a_ret hT [10] rfl rfl rfl rfl rfl rfl ?_
    rw [take_rej (.inl fun h => h1 (hfi.2 h))]
    exact ⟨_, nofit2, rfl, Ent.refl _⟩
  · simp at h1
    refine a_g hT rfl rfl rfl (fun h2 => ?_) (fun h2 => ?_)
    · have h2 := bne_iff_ne.1 h2
      refine a_gt hT rfl rfl rfl rfl ?_
      refine a_gt hT rfl rfl rfl rfl ?_
      refine a_gt hT rfl rfl rfl rfl ?_
      refine a_t hT rfl rfl rfl ?_
      refine a_build hT hZ [.v (Value.int IntKind.i64 0) 0, .v (Value.int IntKind.i64 0) 0, .v (Value.int IntKind.u64 0) 0, .v (Value.int IntKind.i64 0) 0, .v (Value.int IntKind.i64 0) 0, .v (Value.slice none 0 0) 0] rfl rfl rfl rfl rfl rfl ?_
      refine a_ret hT [10] rfl rfl rfl rfl rfl rfl ?_
      rw [take_rej (.inr (.inl h2))]
      exact ⟨_, nofit2, rfl, Ent.refl _⟩
    · simp at h2
      refine a_g hT rfl rfl rfl (fun h3 => ?_) (fun h3 => ?_)
      · have h3 := bne_iff_ne.1 h3
        refine a_gt hT rfl rfl rfl rfl ?_
        refine a_gt hT rfl rfl rfl rfl ?_
        refine a_t hT rfl rfl rfl ?_
        refine a_build hT hZ [.v (Value.int IntKind.i64 0) 0, .v (Value.int IntKind.i64 0) 0, .v (Value.int IntKind.u64 0) 0, .v (Value.int IntKind.i64 0) 0, .v (Value.int IntKind.i64 0) 0, .v (Value.slice none 0 0) 0] rfl rfl rfl rfl rfl rfl ?_
        refine a_ret hT [10] rfl rfl rfl rfl rfl rfl ?_
        rw [take_rej (.inr (.inr (.inl h3)))]
        exact ⟨_, nofit2, rfl, Ent.refl _⟩
      · simp at h3
        refine a_g hT rfl rfl rfl (fun h4 => ?_) (fun h4 => ?_)
        · have h4 := eq_of_beq h4
          refine a_gt hT rfl rfl rfl rfl ?_
          refine a_t hT rfl rfl rfl ?_
          refine a_build hT hZ [.v (Value.int IntKind.i64 0) 0, .v (Value.int IntKind.i64 0) 0, .v (Value.int IntKind.u64 0) 0, .v (Value.int IntKind.i64 0) 0, .v (Value.int IntKind.i64 0) 0, .v (Value.slice none 0 0) 0] rfl rfl rfl rfl rfl rfl ?_
          refine a_ret hT [10] rfl rfl rfl rfl rfl rfl ?_
          rw [take_rej (.inr (.inr (.inr (.inl h4))))]
          exact ⟨_, nofit2, rfl, Ent.refl _⟩
        · have h4 := ne_of_beq_false h4
          refine a_g hT rfl rfl rfl (fun h5 => ?_) (fun h5 => ?_)
          · have h5 := eq_of_beq h5
            refine a_t hT rfl rfl rfl ?_
            refine a_build hT hZ [.v (Value.int IntKind.i64 0) 0, .v (Value.int IntKind.i64 0) 0, .v (Value.int IntKind.u64 0) 0, .v (Value.int IntKind.i64 0) 0, .v (Value.int IntKind.i64 0) 0, .v (Value.slice none 0 0) 0] rfl rfl rfl rfl rfl rfl ?_
            refine a_ret hT [10] rfl rfl rfl rfl rfl rfl ?_
            rw [take_rej (.inr (.inr (.inr (.inr (.inl h5)))))]
            exact ⟨_, nofit2, rfl, Ent.refl _⟩
          · have h5 := ne_of_beq_false h5
            refine a_if hT rfl rfl (fun h6 => ?_) (fun h6 => ?_)
            · have h6 := eq_of_beq h6
              refine a_build hT hZ [.v (Value.int IntKind.i64 0) 0, .v (Value.int IntKind.i64 0) 0, .v (Value.int IntKind.u64 0) 0, .v (Value.int IntKind.i64 0) 0, .v (Value.int IntKind.i64 0) 0, .v (Value.slice none 0 0) 0] rfl rfl rfl rfl rfl rfl ?_
              refine a_ret hT [10] rfl rfl rfl rfl rfl rfl ?_
              rw [take_rej (.inr (.inr (.inr (.inr (.inr h6)))))]
              exact ⟨_, nofit2, rfl, Ent.refl _⟩
            · have h6 := ne_of_beq_false h6
              have hfo := hfi.1 h1
              refine a_callZ hT rfl rfl rfl (by kernel_rfl) (rfind_spec (h := 0) (t := f.token) hC (by omega)) [10] [] [] rfl rfl rfl ⟨rfl, rfl, trivial⟩ trivial (by rintro _ _ ⟨_, _, rfl, rfl⟩; exact ⟨inferInstance, inferInstance⟩) ?_
              rintro _ _ ⟨i, hi, rfl, rfl⟩
              rcases hi with ⟨rfl, hf0⟩ | ⟨k, x, rfl, hr⟩
              · have he : takeP C f = (C, noev, false) := by unfold takeP; rw [hf0, if_neg (by simp [hfo, h2, h3])]
                rw [he]
                refine a_draw hT [] false [(0, false), (1, false), (2, false), (3, false), (4, false), (5, false), (6, false), (7, false), (8, false), (9, false), (10, false), (11, false), (12, false), (13, false), (14, true)] rfl rfl (by kernel_rfl) (by kernel_rfl) rfl ?_
                refine a_gt hT rfl rfl rfl rfl ?_
                refine a_t hT rfl rfl rfl ?_
                refine a_build hT hZ [.v (Value.int IntKind.i64 0) 0, .v (Value.int IntKind.i64 0) 0, .v (Value.int IntKind.u64 0) 0, .v (Value.int IntKind.i64 0) 0, .v (Value.int IntKind.i64 0) 0, .v (Value.slice none 0 0) 0] rfl rfl rfl rfl rfl rfl ?_
                refine a_ret hT [10] rfl rfl rfl rfl rfl rfl ?_
                exact ⟨_, nofit2, rfl, Ent.refl _⟩
              · have hxo := hC.c x (List.mem_of_getElem? hr.g)
                have hi : k < C.calls.length := (List.getElem?_eq_some_iff.1 hr.g).1
                have hg : (C.calls.map cpD)[((k : Nat) : Int).toNat]? = some (cpD x) := by simp [hr.g]
                refine a_draw hT [] false [(0, false), (1, false), (2, false), (3, false), (4, false), (5, false), (6, false), (7, false), (8, false), (9, false), (10, false), (11, false), (12, false), (13, false), (14, true)] rfl rfl (by kernel_rfl) (by kernel_rfl) rfl ?_
                refine a_gf hT rfl rfl rfl rfl ?_
                refine a_ix hT _ rfl rfl rfl rfl rfl rfl (by first | omega | assumption) (by first | assumption | rfl) ?_
                refine a_if hT rfl rfl (fun h7 => ?_) (fun h7 => ?_)
                · have h7 := bne_iff_ne.1 h7
                  refine a_build hT hZ [.v (Value.int IntKind.i64 0) 0, .v (Value.int IntKind.i64 0) 0, .v (Value.int IntKind.u64 0) 0, .v (Value.int IntKind.i64 0) 0, .v (Value.int IntKind.i64 0) 0, .v (Value.slice none 0 0) 0] rfl rfl rfl rfl rfl rfl ?_
                  refine a_ret hT [10] rfl rfl rfl rfl rfl rfl ?_
                  rw [take_no hr.f (.inr (.inr (.inr (.inl h7))))]
                  exact ⟨_, nofit2, rfl, Ent.refl _⟩
                · simp at h7
                  refine a_call hT rfl rfl rfl (by kernel_rfl) (rcomplete_spec (g := g) (h := 10) (h1 := 0) (h2 := 0) (st := f.status) (bs := f.pay) hC hl hf hr) [10] [10] rfl rfl ?_
                  rintro _ _ ⟨rfl, rfl⟩
                  refine a_ret hT [10] rfl rfl rfl rfl rfl rfl ?_
                  rw [take_yes hr.f hfo h2 h3 h7 (by simp [h4, h5, h6])]
                  exact ⟨_, Fit.refl _, rfl, Ent.refl _⟩
end Go.Proofs.Ytepjnmocepkfjaa
end

section
/- The document's client: Tick. -/
set_option linter.unusedVariables false
set_option linter.unusedSimpArgs false
set_option maxRecDepth 100000
set_option maxHeartbeats 1000000
namespace Go.Proofs.Ytepjnmocepkfjaa
open V A
def tickR (now : Int) (k : TK) (x : CP) : TK := if wakeP x ≤ now then tickS now k x else k
theorem tickR_fold (now : Int) : ∀ (l : List CP) (k : TK), l.foldl (tickR now) k = (l.filter fun x => decide (wakeP x ≤ now)).foldl (tickS now) k
  | [], k => rfl
  | x :: l, k => by
    rw [List.foldl_cons, tickR_fold now l]
    unfold tickR
    by_cases h : wakeP x ≤ now
    · rw [if_pos h, List.filter_cons_of_pos (by simpa using h), List.foldl_cons]
    · rw [if_neg h, List.filter_cons_of_neg (by simpa using h)]
theorem tk_all {C : CS} (hC : C.ok) : TkI C ⟨C, [], []⟩ C.calls := ⟨hC, rfl, rfl, fun x h => h, hC.s, by simp, Nat.le_refl _⟩
theorem tk_skip {C : CS} {k : TK} {x : CP} {R : List CP} (h : TkI C k (x :: R)) : TkI C k R := by
  have hnd := h.nd
  rw [List.map_cons, List.pairwise_cons] at hnd
  exact ⟨h.ok, h.num, h.last, fun y hy => h.sub y (by simp [hy]), hnd.2, fun y hy => ⟨(h.ag y hy).1, fun hm => (h.ag y hy).2 (by rw [List.map_cons]; exact List.mem_cons_of_mem _ hm)⟩, h.len⟩
theorem tk_stepR {C : CS} {k : TK} {x : CP} {R : List CP} {now : Int} (h : TkI C k (x :: R)) : TkI C (tickR now k x) R := by
  unfold tickR
  split
  · rename_i hw; exact tk_step h hw
  · exact tk_skip h
structure TRx where
  i : Nat
  k : TK
  v6 : Value
  v7 : Value
structure TRx.ok (C : CS) (now : Int) (x : TRx) : Prop where
  i : x.i ≤ C.calls.length
  k : x.k = (C.calls.take x.i).foldl (tickR now) ⟨C, [], []⟩
  t : TkI C x.k (C.calls.drop x.i)
  e : x.k.ev.length ≤ x.i
  g : x.k.ag.length ≤ x.i
theorem ticks_len {now : Int} {k : TK} {x : CP} : (tickR now k x).ev.length ≤ k.ev.length + 1 ∧ (tickR now k x).ag.length ≤ k.ag.length + 1 := by
  unfold tickR tickS
  split
  · split
    · simp
    · split <;> simp
  · simp
theorem trx_next {C : CS} {now : Int} {i : Nat} {k : TK} {v6 v7 v6' v7' : Value} (h : TRx.ok C now ⟨i, k, v6, v7⟩) {x : CP} (hi : i < C.calls.length) (hx : C.calls[i] = x) {k' : TK} (hk : k' = tickR now k x) : TRx.ok C now ⟨i + 1, k', v6', v7'⟩ := by
  subst hk
  have hl := ticks_len (now := now) (k := k) (x := x)
  have he := h.e
  have hg := h.g
  have ht := h.t
  have hk := h.k
  dsimp only at he hg ht hk
  rw [← List.getElem_cons_drop (h := hi), hx] at ht
  refine ⟨hi, ?_, tk_stepR ht, by show (tickR now k x).ev.length ≤ i + 1; omega, by show (tickR now k x).ag.length ≤ i + 1; omega⟩
  show tickR now k x = (C.calls.take (i + 1)).foldl (tickR now) ⟨C, [], []⟩
  rw [take_one hi hx, List.foldl_append, ← hk]
  rfl
theorem upd_set {C : CS} (hC : C.ok) {j : Nat} {y z : CP} (hj : C.calls[j]? = some y) (hz : z.tok = y.tok) : C.calls.set j z = (C.upd z).calls := by
  have hj1 : j < C.calls.length := (List.getElem?_eq_some_iff.1 hj).1
  have hy : C.calls[j] = y := (List.getElem?_eq_some_iff.1 hj).2
  show C.calls.set j z = C.calls.map fun y => if y.tok = z.tok then z else y
  apply List.ext_getElem (by simp)
  intro i h1 h2
  rw [List.getElem_set]
  have hi : i < C.calls.length := by simpa using h1
  rw [List.getElem_map]
  split
  · rename_i e
    subst e
    rw [if_pos (by rw [hy, hz])]
  · rename_i e
    rw [if_neg]
    intro e2
    have : C.calls[i] = C.calls[j] := tok_inj hC (List.getElem_mem hi) (List.getElem_mem hj1) (by rw [e2, hz, hy])
    have hp := List.pairwise_iff_getElem.1 hC.s
    rcases Nat.lt_trichotomy i j with h | h | h
    · have := hp i j (by simpa using hi) (by simpa using hj1) h
      simp at this; rw [e2, hz, hy] at this; omega
    · exact e h.symm
    · have := hp j i (by simpa using hj1) (by simpa using hi) h
      simp at this; rw [e2, hz, hy] at this; omega
theorem rtick_spec {g h h1 : Nat} {C : CS} {now : Int} (hC : C.ok) (hl : C.calls.length ≤ 16) : FSpec Try.prog 46 [ptrA g h, .v (kI now) h1] [refC g C]
    fun a cs => a = .tup [.d (evsD (tickP C now).2.1), .d (frsD (tickP C now).2.2)] ∧ cs = [refC g (tickP C now).1] := by
  refine FSpec.weak (R := fun a cs => ∃ a', Fit a a' ∧ a' = .tup [.d (evsD (tickP C now).2.1), .d (frsD (tickP C now).2.2)] ∧ Ent cs [refC g (tickP C now).1]) ?_ fun a cs ⟨a', h1, h2, h3⟩ => ⟨a', [refC g (tickP C now).1], [], h1, by rw [List.append_nil]; exact h3, h2, rfl⟩
  refine a_enter hT [ptrA g 10, .v (kI now) 0] [10] Try.func46 rfl rfl rfl ⟨rfl, rfl, trivial⟩ fun c => ?_
  refine a_run hT 14 rfl rfl ?_
  refine a_nilrow 6 30 28 6 rfl rfl ?_
  refine a_nilrow 7 31 25 1 rfl rfl ?_
  refine a_callZ hT rfl rfl rfl (by kernel_rfl) (ropen_spec (C := C) (by omega)) [10] [] [1] rfl rfl rfl ⟨rfl, trivial⟩ trivial (by rintro _ _ ⟨_, rfl, rfl⟩; exact ⟨inferInstance, inferInstance⟩) ?_
  rintro _ _ ⟨v8, rfl, rfl⟩
  refine a_run hT 2 rfl rfl ?_
  refine a_freeze 8 1 rfl rfl rfl rfl ?_
  refine a_loop hT [0, 1, 6, 7, 8, 18, 19] (fun x : TRx => [ptrA g 10, .v (kI now) 0, .row x.v6 30, .row x.v7 31, .d (.sl 1 ((C.calls.map (·.tok)).map eU)), nI C.calls.length, nI x.i]) (fun x => [(10, refC g x.k.C), (30, .row x.v6 28 6 (x.k.ev.map evD)), (31, rowL x.v7 (x.k.ag.map (·.tok)))]) (TRx.ok C now) (fun x => C.calls.length - x.i) ⟨0, ⟨C, [], []⟩, .slice none 0 0, .slice none 0 0⟩ [10, 30, 31] rfl rfl ⟨Nat.zero_le _, rfl, tk_all hC, Nat.le_refl _, Nat.le_refl _⟩ ⟨rfl, rfl, rfl, rfl, rfl, by show Value.int .i64 (((C.calls.map (·.tok)).map eU).length : Int) = .int .i64 (C.calls.length : Int); rw [List.length_map, List.length_map], rfl, trivial⟩ rfl ⟨⟨rfl, rfl, Fits.refl _⟩, ⟨rfl, rfl, rfl, rfl⟩, ⟨rfl, rfl, rfl, rfl⟩, trivial⟩ ?_
  rintro ⟨i, k, v6, v7⟩ hq
  have q1 := hq.i
  have q2 := hq.k
  have q3 := hq.t
  have q4 := hq.e
  have q5 := hq.g
  dsimp only at q1 q2 q3 q4 q5 ⊢
  have q6 : k.C.calls.length ≤ C.calls.length := q3.len
  have hw : IntKind.i64.wrap ((i : Int) + 1) = ((i + 1 : Nat) : Int) := by rw [w64 (by omega) (by omega)]; omega
  refine a_if hT rfl rfl (fun h2 => ?_) (fun h2 => ?_)
  · have h2 : (i : Int) < C.calls.length := of_decide_eq_true h2
    have hi1 : i < C.calls.length := by omega
    have hd : ((C.calls.map (·.tok)).map eU)[((i : Nat) : Int).toNat]? = some (eU C.calls[i].tok) := by simp [hi1]
    obtain ⟨x, hx⟩ : ∃ x, C.calls[i] = x := ⟨_, rfl⟩
    rw [hx] at hd
    have hxk : x ∈ k.C.calls := q3.sub x (by rw [← List.getElem_cons_drop (h := hi1), hx]; simp)
    refine a_ix hT _ rfl rfl rfl rfl rfl rfl (by omega) hd ?_
    refine a_callZ hT rfl rfl rfl (by kernel_rfl) (rfind_spec (C := k.C) (h := 0) (t := x.tok) q3.ok (by omega)) [10] [] [] rfl rfl rfl ⟨rfl, rfl, trivial⟩ trivial (by rintro _ _ ⟨_, _, rfl, rfl⟩; exact ⟨inferInstance, inferInstance⟩) ?_
    rintro _ _ ⟨j, hj, rfl, rfl⟩
    rcases hj with ⟨rfl, hf0⟩ | ⟨j, y, rfl, hr⟩
    · exact absurd (List.find?_eq_none.1 hf0 x hxk) (by simp)
    have hyx : y = x := tok_inj q3.ok (List.mem_of_getElem? hr.g) hxk hr.tt
    subst hyx
    have hxo := q3.ok.c y hxk
    have hj1 : j < k.C.calls.length := (List.getElem?_eq_some_iff.1 hr.g).1
    have hdj : (k.C.calls.map cpD)[((j : Nat) : Int).toNat]? = some (cpD y) := by simp [hr.g]
    obtain ⟨a, ha⟩ : ∃ a : Nat, y.att = a := ⟨y.att.toNat, by have := hxo.a1; omega⟩
    have ha6 : a < 6 := by have := hxo.a2; omega
    have hsp := refdelay_spec (h := 0) ha6
    rw [← ha] at hsp
    have hdl := delayP_le y.att
    have h00 := hxo.m
    have h01 := hxo.md
    have h02 := hxo.d
    have hw2 : IntKind.i64.wrap (y.made + delayP y.att) = y.made + delayP y.att := w64 (by omega) (by omega)
    refine a_ix hT _ rfl rfl rfl rfl rfl rfl (by omega) hdj ?_
    refine a_new hT hZ 33 rfl rfl rfl rfl fun g3 => ?_
    refine a_if hT rfl rfl (fun h3 => ?_) (fun h3 => ?_)
    · have h3 : y.dl ≤ now := of_decide_eq_true h3
      refine a_callF hT rfl rfl rfl (by kernel_rfl) (rcomplete_spec (C := k.C) (g := g) (h := 10) (h1 := 0) (h2 := 0) (st := 4) (bs := []) q3.ok (by omega) (by decide) hr) [10] [10] ⟨rfl, rfl, rfl, ⟨rfl, rfl⟩, trivial⟩ rfl ⟨⟨rfl, rfl, ⟨rfl, rfl, rfl, trivial⟩⟩, trivial⟩ ?_
      rintro _ _ ⟨rfl, rfl⟩
      refine a_lit hT 34 rfl rfl rfl rfl (by kernel_rfl) rfl rfl rfl rfl fun x34 => ?_
      refine a_app hT 30 _ rfl rfl rfl rfl (by kernel_rfl) rfl rfl rfl rfl rfl rfl (by first | (simp; done) | (simp; omega) | (simp; unfold lim; omega) | (simp; assumption)) fun v => ?_
      have hk : TK.mk (k.C.drop y.tok) (k.ev ++ [⟨3, k.C.num, y.tok, y.meth, 4, []⟩]) k.ag = tickR now k y := by unfold tickR tickS; rw [if_pos (by unfold wakeP mnI; split <;> omega), if_pos h3]
      exact a_next hT (TRx.mk (i + 1) ⟨k.C.drop y.tok, k.ev ++ [⟨3, k.C.num, y.tok, y.meth, 4, []⟩], k.ag⟩ v v7) [10, 30, 31] rfl rfl ⟨trx_next hq hi1 hx hk, by show C.calls.length - (i + 1) < C.calls.length - i; omega⟩ ⟨rfl, rfl, rfl, rfl, rfl, rfl, by show Value.int .i64 _ = Value.int .i64 _; rw [hw], trivial⟩ rfl ⟨⟨rfl, rfl, Fits.refl _⟩, ⟨rfl, rfl, rfl, by rw [List.map_append]; rfl⟩, ⟨rfl, rfl, rfl, rfl⟩, trivial⟩
    · have h3 : ¬ y.dl ≤ now := of_decide_eq_false h3
      refine a_draw hT [] false [(0, false), (1, false), (2, false), (3, false), (4, false), (5, true), (6, true), (7, true), (8, true)] rfl rfl (by kernel_rfl) (by kernel_rfl) rfl ?_
      refine a_call hT rfl rfl rfl (by kernel_rfl) hsp [] [] rfl rfl ?_
      rintro _ _ ⟨rfl, rfl⟩
      refine a_if hT rfl rfl (fun h4 => ?_) (fun h4 => ?_)
      · have h4 := of_decide_eq_true h4
        have h4 : now < IntKind.i64.wrap (y.made + delayP y.att) := h4
        rw [hw2] at h4
        have hk : k = tickR now k y := by unfold tickR; rw [if_neg (by unfold wakeP mnI; split <;> omega)]
        exact a_next hT (TRx.mk (i + 1) k v6 v7) [10, 30, 31] rfl rfl ⟨trx_next hq hi1 hx hk, by show C.calls.length - (i + 1) < C.calls.length - i; omega⟩ ⟨rfl, rfl, rfl, rfl, rfl, rfl, by show Value.int .i64 _ = Value.int .i64 _; rw [hw], trivial⟩ rfl ⟨⟨rfl, rfl, Fits.refl _⟩, ⟨rfl, rfl, rfl, rfl⟩, ⟨rfl, rfl, rfl, rfl⟩, trivial⟩
      · have h4 := of_decide_eq_false h4
        refine a_if hT rfl rfl (fun h5 => ?_) (fun h5 => ?_)
        · have h5 := eq_of_beq h5
          refine a_callF hT rfl rfl rfl (by kernel_rfl) (rcomplete_spec (C := k.C) (g := g) (h := 10) (h1 := 0) (h2 := 0) (st := 14) (bs := []) q3.ok (by omega) (by decide) hr) [10] [10] ⟨rfl, rfl, rfl, ⟨rfl, rfl⟩, trivial⟩ rfl ⟨⟨rfl, rfl, ⟨rfl, rfl, rfl, trivial⟩⟩, trivial⟩ ?_
          rintro _ _ ⟨rfl, rfl⟩
          refine a_lit hT 34 rfl rfl rfl rfl (by kernel_rfl) rfl rfl rfl rfl fun x34 => ?_
          refine a_app hT 30 _ rfl rfl rfl rfl (by kernel_rfl) rfl rfl rfl rfl rfl rfl (by first | (simp; done) | (simp; omega) | (simp; unfold lim; omega) | (simp; assumption)) fun v => ?_
          have h4 : ¬ now < IntKind.i64.wrap (y.made + delayP y.att) := h4
          rw [hw2] at h4
          have hk : TK.mk (k.C.drop y.tok) (k.ev ++ [⟨3, k.C.num, y.tok, y.meth, 14, []⟩]) k.ag = tickR now k y := by unfold tickR tickS; rw [if_pos (by unfold wakeP mnI; split <;> omega), if_neg h3, if_pos h5]
          exact a_next hT (TRx.mk (i + 1) ⟨k.C.drop y.tok, k.ev ++ [⟨3, k.C.num, y.tok, y.meth, 14, []⟩], k.ag⟩ v v7) [10, 30, 31] rfl rfl ⟨trx_next hq hi1 hx hk, by show C.calls.length - (i + 1) < C.calls.length - i; omega⟩ ⟨rfl, rfl, rfl, rfl, rfl, rfl, by show Value.int .i64 _ = Value.int .i64 _; rw [hw], trivial⟩ rfl ⟨⟨rfl, rfl, Fits.refl _⟩, ⟨rfl, rfl, rfl, by rw [List.map_append]; rfl⟩, ⟨rfl, rfl, rfl, rfl⟩, trivial⟩
        · have h5 := ne_of_beq_false h5
          refine a_lit hT 34 rfl rfl rfl rfl (by kernel_rfl) rfl rfl rfl rfl fun x34 => ?_
          refine a_app hT 34 _ rfl rfl rfl rfl (by kernel_rfl) rfl rfl rfl rfl rfl rfl (by first | (simp; done) | (simp; omega) | (simp; unfold lim; omega) | (simp; assumption)) fun v => ?_
          have h4 : ¬ now < IntKind.i64.wrap (y.made + delayP y.att) := h4
          rw [hw2] at h4
          have hwa : IntKind.i64.wrap (y.att + 1) = y.att + 1 := w64 (by omega) (by omega)
          have hk : TK.mk (k.C.upd (y.next now)) k.ev (k.ag ++ [y.next now]) = tickR now k y := by unfold tickR tickS; rw [if_pos (by unfold wakeP mnI; split <;> omega), if_neg h3, if_neg h5]
          refine a_run hT 2 rfl rfl ?_
          refine a_rowfact 34 rfl rfl fun hf => ?_
          rcases hf with ⟨_, h⟩ | ⟨gr, capr, rfl⟩
          · have h : k.C.calls = [] := by simpa using h
            rw [h] at hj1
            simp at hj1
          have hjl : j < ([] ++ k.C.calls.map cpD).length := by simpa using hj1
          refine a_rix hT (j) rfl rfl rfl rfl rfl rfl (by first | rfl | omega) (by omega) ?_
          have ej : ([] ++ k.C.calls.map cpD)[j]? = some (cpD y) := by simp [hr.g]
          refine a_rst hT j 4 (cpD y) (.v (kI (IntKind.i64.wrap (y.att + 1)))) rfl rfl rfl rfl rfl rfl rfl rfl ej (by omega) rfl ?_
          refine a_rix hT (j) rfl rfl rfl rfl rfl rfl (by first | rfl | omega) (by omega) ?_
          refine a_rst hT j 5 ((cpD y).set 4 (.v (kI (IntKind.i64.wrap (y.att + 1))))) (.v (kI now)) rfl rfl rfl rfl rfl rfl rfl rfl (List.getElem?_set_self hjl) (by omega) rfl ?_
          refine a_lit hT 35 rfl rfl rfl rfl (by kernel_rfl) rfl rfl rfl rfl fun x35 => ?_
          refine a_app hT 31 _ rfl rfl rfl rfl (by kernel_rfl) rfl rfl rfl rfl rfl rfl (by first | (simp; done) | (simp; omega) | (simp; unfold lim; omega) | (simp; assumption)) fun v => ?_
          refine a_run hT 2 rfl rfl ?_
          refine a_freezeB 10 2 34 rfl rfl rfl rfl rfl ?_
          have hset : (([] ++ k.C.calls.map cpD).set j ((cpD y).set 4 (.v (kI (IntKind.i64.wrap (y.att + 1)))))).set j (((cpD y).set 4 (.v (kI (IntKind.i64.wrap (y.att + 1))))).set 5 (.v (kI now))) = (k.C.upd (y.next now)).calls.map cpD := by rw [List.set_set, hwa, ← upd_set q3.ok hr.g rfl (z := y.next now), List.map_set]; rfl
          exact a_next hT (TRx.mk (i + 1) ⟨k.C.upd (y.next now), k.ev, k.ag ++ [y.next now]⟩ v6 v) [10, 30, 31] rfl rfl ⟨trx_next hq hi1 hx hk, by show C.calls.length - (i + 1) < C.calls.length - i; omega⟩ ⟨rfl, rfl, rfl, rfl, rfl, rfl, by show Value.int .i64 _ = Value.int .i64 _; rw [hw], trivial⟩ rfl ⟨⟨rfl, rfl, rfl, rfl, congrArg (A.Dat.sl 6) hset, trivial⟩, ⟨rfl, rfl, rfl, rfl⟩, ⟨rfl, rfl, rfl, by rw [List.map_append, List.map_append]; rfl⟩, trivial⟩

  · have h2 : ¬ (i : Int) < C.calls.length := of_decide_eq_false h2
    have e : i = C.calls.length := by omega
    subst e
    rw [List.take_length] at q2
    rw [List.drop_length] at q3
    have hkT : tickT C now = k := by rw [q2, tickR_fold]; rfl
    refine a_freeze 6 30 rfl rfl rfl rfl ?_
    refine a_freeze 7 31 rfl rfl rfl rfl ?_
    refine a_run hT 6 rfl rfl ?_
    refine a_nilrow 13 40 30 9 rfl rfl ?_
    refine a_loop hT [0, 6, 7, 13, 94, 95] (fun x : Nat × Value => [ptrA g 10, .d (evsD k.ev), .d (.sl 1 ((k.ag.map (·.tok)).map eU)), .row x.2 40, nI k.ag.length, nI x.1]) (fun x => [(10, refC g k.C), (40, .row x.2 30 9 (((k.ag.take x.1).map k.C.frame).map frD))]) (fun x => x.1 ≤ k.ag.length) (fun x => k.ag.length - x.1) (0, .slice none 0 0) [10, 40] rfl rfl (Nat.zero_le _) ⟨rfl, rfl, rfl, rfl, by show Value.int .i64 ((k.ag.map (·.tok)).map eU).length = .int .i64 (k.ag.length : Int); rw [List.length_map, List.length_map], rfl, trivial⟩ rfl ⟨⟨rfl, rfl, Fits.refl _⟩, ⟨rfl, rfl, rfl, rfl⟩, trivial⟩ ?_
    rintro ⟨j, v13⟩ hj
    dsimp only at hj ⊢
    have hw : IntKind.i64.wrap ((j : Int) + 1) = ((j + 1 : Nat) : Int) := by rw [w64 (by omega) (by omega)]; omega
    refine a_if hT rfl rfl (fun h3 => ?_) (fun h3 => ?_)
    · have h3 : (j : Int) < k.ag.length := of_decide_eq_true h3
      have hj1 : j < k.ag.length := by omega
      obtain ⟨x, hx⟩ : ∃ x, k.ag[j] = x := ⟨_, rfl⟩
      have hxk : x ∈ k.C.calls := (q3.ag x (by rw [← hx]; exact List.getElem_mem _)).1
      have hd : ((k.ag.map (·.tok)).map eU)[((j : Nat) : Int).toNat]? = some (eU x.tok) := by simp [hj1, hx]
      refine a_draw hT [40] false [(0, false), (1, false), (2, false), (3, false), (4, false), (5, false), (6, false), (7, false), (8, false), (9, false), (10, false), (11, true), (12, true), (13, true), (14, true), (15, true), (16, true), (17, true)] rfl rfl (by kernel_rfl) (by kernel_rfl) rfl ?_
      refine a_ix hT _ rfl rfl rfl rfl rfl rfl (by first | omega | assumption) (by first | assumption | rfl) ?_
      refine a_callZ hT rfl rfl rfl (by kernel_rfl) (rfind_spec (C := k.C) (h := 0) (t := x.tok) q3.ok (by omega)) [10] [] [] rfl rfl rfl ⟨rfl, rfl, trivial⟩ trivial (by rintro _ _ ⟨_, _, rfl, rfl⟩; exact ⟨inferInstance, inferInstance⟩) ?_
      rintro _ _ ⟨n, hn, rfl, rfl⟩
      rcases hn with ⟨rfl, hf0⟩ | ⟨n, y, rfl, hr⟩
      · exact absurd (List.find?_eq_none.1 hf0 x hxk) (by simp)
      have hyx : y = x := tok_inj q3.ok (List.mem_of_getElem? hr.g) hxk hr.tt
      subst hyx
      have hyo := q3.ok.c y hxk
      have hl0 := q3.ok.l0
      have hl1 := q3.ok.l1
      have hn1 : n < k.C.calls.length := (List.getElem?_eq_some_iff.1 hr.g).1
      have hdn : (k.C.calls.map cpD)[((n : Nat) : Int).toNat]? = some (cpD y) := by simp [hr.g]
      refine a_ix hT _ rfl rfl rfl rfl rfl rfl (by omega) hdn ?_
      refine a_callZ hT rfl rfl rfl (by kernel_rfl) (rframe_spec (C := k.C) (x := y) hl0 hl1 (Nat.le_trans hyo.a (by decide))) [10] [] [1] rfl rfl rfl ⟨rfl, ⟨rfl, rfl, rfl, rfl, rfl, rfl, trivial⟩, trivial⟩ trivial (by rintro _ _ ⟨v, rfl, rfl⟩; exact ⟨inferInstance, inferInstance⟩) ?_
      rintro _ _ ⟨v3, rfl, rfl⟩
      refine a_freezeAR 112 8 1 rfl rfl rfl rfl rfl ?_
      have htk : k.ag.take (j + 1) = k.ag.take j ++ [y] := take_one hj1 hx
      refine a_lit hT 41 rfl rfl rfl rfl (by kernel_rfl) rfl rfl rfl rfl fun x41 => ?_
      refine a_app hT 40 (((k.ag.take (j + 1)).map k.C.frame).map frD) rfl rfl rfl rfl (by kernel_rfl) rfl rfl rfl rfl rfl (by rw [htk, List.map_append, List.map_append]; rfl) (by simp; unfold lim; omega) fun v' => ?_
      exact a_next hT (j + 1, v') [10, 40] rfl rfl ⟨by show j + 1 ≤ k.ag.length; omega, by show k.ag.length - (j + 1) < k.ag.length - j; omega⟩ ⟨rfl, rfl, rfl, rfl, rfl, by show Value.int .i64 _ = Value.int .i64 _; rw [hw], trivial⟩ rfl ⟨⟨rfl, rfl, Fits.refl _⟩, ⟨rfl, rfl, rfl, rfl⟩, trivial⟩
    · have h3 : ¬ (j : Int) < k.ag.length := of_decide_eq_false h3
      have e : j = k.ag.length := by omega
      subst e
      rw [List.take_length]
      refine a_freeze 13 40 rfl rfl rfl rfl ?_
      refine a_ret hT [10] rfl rfl rfl rfl rfl rfl ?_
      unfold tickP
      rw [hkT]
      exact ⟨_, Fit.refl _, rfl, Ent.refl _⟩
end Go.Proofs.Ytepjnmocepkfjaa
end

section
/- ClientPlays: a call on both clients. -/
set_option linter.unusedVariables false
set_option linter.unusedSimpArgs false
set_option maxRecDepth 100000
set_option maxHeartbeats 4000000
namespace Go.Proofs.Ytepjnmocepkfjaa
open V A
def stepP (C : CS) (o : COp) : CS := if o.kind = 1 then (callP C o.method o.bytes o.deadline o.now).1 else if o.kind = 2 then (cancelP C o.token).1 else if o.kind = 3 then (takeP C o.f).1 else if o.kind = 4 then (tickP C o.now).1 else C
theorem stepP_ok {C : CS} (hC : C.ok) (hl : C.last < 900000) (h16 : C.calls.length ≤ 16) (o : COp) : (stepP C o).ok ∧ (stepP C o).last ≤ C.last + 1 ∧ (stepP C o).calls.length ≤ 16 := by
  unfold stepP
  split
  · exact ⟨(callP_ok hC hl _ _ _ _).1, (callP_ok hC hl _ _ _ _).2.1, call_len hC h16 _ _ _ _⟩
  split
  · have := cancelP_ok hC o.token
    exact ⟨this.1, by rw [this.2.1]; omega, Nat.le_trans (cancel_len _) h16⟩
  split
  · have := takeP_ok hC o.f
    exact ⟨this.1, by rw [this.2.1]; omega, Nat.le_trans (take_len _) h16⟩
  split
  · have := tickP_ok hC o.now
    exact ⟨this.1, by rw [this.2.1]; omega, Nat.le_trans this.2.2.2 h16⟩
  · exact ⟨hC, by omega, h16⟩
abbrev opA (o : COp) : AV := .agg [.v (kI o.kind) 0, .v (kI o.method) 0, .v (kU o.token) 0, .v (kI o.deadline) 0, .v (kI o.now) 0, .d (A.bytesD o.bytes), .v (kI o.f.kind) 0, .v (kI o.f.client) 0, .v (kU o.f.token) 0, .v (kI o.f.attempt) 0, .v (kU o.f.floor) 0, .v (kI o.f.method) 0, .v (kI o.f.deadline) 0, .v (kI o.f.status) 0, .d (A.bytesD o.f.pay)]
theorem step_spec {g r h h2 : Nat} {C : CS} {o : COp} (hC : C.ok) (hl : C.last < 900000) (h16 : C.calls.length ≤ 16) (hb : o.bytes.length ≤ 30000) (hp : o.f.pay.length ≤ 6000) (hf : 0 ≤ o.f.floor) : FSpec Try.prog 20 [ptrA g h, ptrA r h2, opA o] [.ext (cliA g C), refC r C]
    fun a cs => a = .v (.bool true) 0 ∧ cs = [.ext (cliA g (stepP C o)), refC r (stepP C o)] := by
  refine a_enter hT [ptrA g 10, ptrA r 11, opA o] [10, 11] Try.func20 rfl rfl rfl ⟨rfl, rfl, ⟨rfl, rfl, rfl, rfl, rfl, rfl, rfl, rfl, rfl, rfl, rfl, rfl, rfl, rfl, rfl, trivial⟩, trivial⟩ fun c => ?_
  refine a_box hT 20 rfl rfl rfl rfl fun g1 => ?_
  have b1 : o.bytes.length ≤ lim := Nat.le_trans hb (by decide)
  have b2 : o.f.pay.length ≤ lim := Nat.le_trans hp (by decide)
  refine a_if hT rfl rfl (fun h => ?_) (fun h => ?_)
  · have h := eq_of_beq h
    refine a_call hT rfl rfl rfl (by kernel_rfl) (ccall_spec (g := g) (h := 10) (h1 := 0) (h2 := 0) (h3 := 0) (C := C) (meth := o.method) (dl := o.deadline) (now := o.now) (arg := o.bytes) hC b1 (by omega)) [10] [10] rfl rfl ?_
    rintro _ _ ⟨C', ⟨rfl, rfl⟩, rfl⟩
    refine a_new hT hZ 21 rfl rfl rfl rfl fun g2 => ?_
    refine a_new hT hZ 22 rfl rfl rfl rfl fun g3 => ?_
    refine a_call hT rfl rfl rfl (by kernel_rfl) (rcall_spec (g := r) (h := 11) (h1 := 0) (h2 := 0) (h3 := 0) (C := C) (meth := o.method) (dl := o.deadline) (now := o.now) (arg := o.bytes) hC b1 (by omega)) [11] [11] rfl rfl ?_
    rintro _ _ ⟨rfl, rfl⟩
    refine a_new hT hZ 23 rfl rfl rfl rfl fun g4 => ?_
    refine a_new hT hZ 24 rfl rfl rfl rfl fun g5 => ?_
    refine a_call hT rfl rfl rfl (by kernel_rfl) sameEv_spec [] [] rfl rfl ?_
    rintro _ _ ⟨rfl, rfl⟩
    refine a_gt hT rfl rfl rfl rfl ?_
    refine a_call hT rfl rfl rfl (by kernel_rfl) sameFr_spec [] [] rfl rfl ?_
    rintro _ _ ⟨rfl, rfl⟩
    refine a_gt hT rfl rfl rfl rfl ?_
    refine a_ret hT [10, 11] rfl rfl rfl rfl rfl rfl ?_
    exact ⟨by show AV.v (.bool (_ == _)) 0 = _; rw [beq_self_eq_true], by unfold stepP; rw [if_pos h]⟩
  · have h := ne_of_beq_false h
    refine a_if hT rfl rfl (fun h2 => ?_) (fun h2 => ?_)
    · have h2 := eq_of_beq h2
      refine a_call hT rfl rfl rfl (by kernel_rfl) (ccancel_spec (g := g) (h := 10) (h1 := 0) (h2 := 0) (C := C) (t := o.token) (now := o.now) hC (by omega)) [10] [10] rfl rfl ?_
      rintro _ _ ⟨C', ⟨rfl, rfl⟩, rfl⟩
      refine a_new hT hZ 21 rfl rfl rfl rfl fun g2 => ?_
      refine a_new hT hZ 22 rfl rfl rfl rfl fun g3 => ?_
      refine a_call hT rfl rfl rfl (by kernel_rfl) (rcancel_spec (g := r) (h := 11) (h1 := 0) (C := C) (t := o.token) hC (by omega)) [11] [11] rfl rfl ?_
      rintro _ _ ⟨rfl, rfl⟩
      refine a_new hT hZ 23 rfl rfl rfl rfl fun g4 => ?_
      refine a_new hT hZ 24 rfl rfl rfl rfl fun g5 => ?_
      refine a_call hT rfl rfl rfl (by kernel_rfl) sameEv_spec [] [] rfl rfl ?_
      rintro _ _ ⟨rfl, rfl⟩
      refine a_gt hT rfl rfl rfl rfl ?_
      refine a_call hT rfl rfl rfl (by kernel_rfl) sameFr_spec [] [] rfl rfl ?_
      rintro _ _ ⟨rfl, rfl⟩
      refine a_gt hT rfl rfl rfl rfl ?_
      refine a_ret hT [10, 11] rfl rfl rfl rfl rfl rfl ?_
      exact ⟨by show AV.v (.bool (_ == _)) 0 = _; rw [beq_self_eq_true], by unfold stepP; rw [if_neg h, if_pos h2]⟩
    · have h2 := ne_of_beq_false h2
      refine a_if hT rfl rfl (fun h3 => ?_) (fun h3 => ?_)
      · have h3 := eq_of_beq h3
        refine a_call hT rfl rfl rfl (by kernel_rfl) (ctake_spec (g := g) (h := 10) (C := C) (f := o.f) hC (by omega) b2) [10] [10] rfl rfl ?_
        rintro _ _ ⟨C', ⟨rfl, rfl⟩, rfl⟩
        refine a_new hT hZ 21 rfl rfl rfl rfl fun g2 => ?_
        refine a_call hT rfl rfl rfl (by kernel_rfl) (rtake_spec (g := r) (h := 11) (C := C) (f := o.f) hC (by omega) b2 hf) [11] [11] rfl rfl ?_
        rintro _ _ ⟨rfl, rfl⟩
        refine a_new hT hZ 22 rfl rfl rfl rfl fun g3 => ?_
        refine a_call hT rfl rfl rfl (by kernel_rfl) sameEv_spec [] [] rfl rfl ?_
        rintro _ _ ⟨rfl, rfl⟩
        refine a_gt hT rfl rfl rfl rfl ?_
        refine a_ret hT [10, 11] rfl rfl rfl rfl rfl rfl ?_
        exact ⟨by show AV.v (.bool (_ == _)) 0 = _; rw [beq_self_eq_true], by unfold stepP; rw [if_neg h, if_neg h2, if_pos h3]⟩
      · have h3 := ne_of_beq_false h3
        refine a_if hT rfl rfl (fun h4 => ?_) (fun h4 => ?_)
        · have h4 := eq_of_beq h4
          refine a_call hT rfl rfl rfl (by kernel_rfl) (ctick_spec (g := g) (h := 10) (h1 := 0) (C := C) (now := o.now) hC (by omega) h16) [10] [10] rfl rfl ?_
          rintro _ _ ⟨C', ⟨rfl, rfl⟩, rfl⟩
          have htf := tick_few (C := C) o.now
          refine a_call hT rfl rfl rfl (by kernel_rfl) (rtick_spec (g := r) (h := 11) (h1 := 0) (C := C) (now := o.now) hC h16) [11] [11] rfl rfl ?_
          rintro _ _ ⟨rfl, rfl⟩
          refine a_call hT rfl rfl rfl (by kernel_rfl) (sameEvs_spec (l := (tickP C o.now).2.1) (by omega)) [] [] rfl rfl ?_
          rintro _ _ ⟨rfl, rfl⟩
          refine a_gt hT rfl rfl rfl rfl ?_
          refine a_call hT rfl rfl rfl (by kernel_rfl) (sameFrs_spec (l := (tickP C o.now).2.2) (by omega)) [] [] rfl rfl ?_
          rintro _ _ ⟨rfl, rfl⟩
          refine a_ret hT [10, 11] rfl rfl rfl rfl rfl rfl ?_
          exact ⟨rfl, by unfold stepP; rw [if_neg h, if_neg h2, if_neg h3, if_pos h4]⟩
        · have h4 := ne_of_beq_false h4
          refine a_ret hT [10, 11] rfl rfl rfl rfl rfl rfl ?_
          exact ⟨rfl, by unfold stepP; rw [if_neg h, if_neg h2, if_neg h3, if_neg h4]⟩
end Go.Proofs.Ytepjnmocepkfjaa
end

section
/- ClientPlays: the walk and what it computes. -/
set_option linter.unusedVariables false
set_option linter.unusedSimpArgs false
set_option maxRecDepth 100000
set_option maxHeartbeats 4000000
namespace Go.Proofs.Ytepjnmocepkfjaa
open V A
def COp.ok2 (o : COp) : Prop := o.ok ∧ 0 ≤ o.f.floor
theorem cop_reads2 (ds : List V.Dat) (h : HasTys [.int .i64, .int .i64, .int .u64, .int .i64, .int .i64, .sl [.int .u8], .int .i64, .int .i64, .int .u64, .int .i64, .int .u64, .int .i64, .int .i64, .int .i64, .sl [.int .u8]] ds) : ∃ o : COp, cvs ds = o.d ∧ poss ds ∧ o.ok2 :=
  let ⟨o, h1, h2, h3, h4⟩ := cop_reads0 ds h
  ⟨o, h1, h2, h3, h4⟩
structure WP where
  i : Nat
  C : CS
structure WP.ok (l : List COp) (x : WP) : Prop where
  i : x.i ≤ l.length
  c : x.C.ok
  l : x.C.last ≤ x.i
  q : x.C.calls.length ≤ 16
theorem clientPlays_spec {num : Int} {h : Nat} {l : List COp} (hl : l.length ≤ reachBytes) (hok : ∀ o ∈ l, o.ok2) : FSpec Try.prog 7 [.v (kI num) h, scrD l] [] fun a _ => a = .v (.bool true) 0 := by
  refine a_enter hT [.v (kI num) 0, scrD l] [] Try.func7 rfl rfl rfl ⟨rfl, rfl, trivial⟩ fun c => ?_
  refine a_call hT rfl rfl rfl (by kernel_rfl) cawake_spec [] [] rfl rfl ?_
  rintro _ _ ⟨rfl, rfl⟩
  refine a_gf hT rfl rfl rfl rfl ?_
  refine a_call hT rfl rfl rfl (by kernel_rfl) (few_spec hl fun o ho => (hok o ho).1) [] [] rfl rfl ?_
  rintro _ _ ⟨b, hb, rfl, rfl⟩
  cases b with
  | false =>
    refine a_t hT rfl rfl rfl ?_
    refine a_call hT rfl rfl rfl (by kernel_rfl) cawake_spec [] [] rfl rfl ?_
    rintro _ _ ⟨rfl, rfl⟩
    exact a_ret hT [] rfl rfl rfl rfl rfl rfl rfl
  | true =>
    obtain ⟨hl3, hb2⟩ := hb rfl
    refine a_f hT rfl rfl rfl ?_
    by_cases hn : num < 1 ∨ num > 2147483647
    · refine a_call hT rfl rfl rfl (by kernel_rfl) (cnew_nil (num := num) (h := 0) hn) [] [] rfl rfl ?_
      rintro _ _ ⟨rfl, rfl⟩
      refine a_g hT rfl rfl rfl (fun h1 => ?_) (fun h1 => ?_)
      · have h1 := of_decide_eq_true h1
        refine a_t hT rfl rfl rfl ?_
        refine a_ret hT [] rfl rfl rfl rfl rfl rfl ?_
        first | exact ⟨rfl, rfl⟩ | rfl
      · have h1 := of_decide_eq_false h1
        refine a_if hT rfl rfl (fun h2 => ?_) (fun h2 => ?_)
        · have h2 := of_decide_eq_true h2
          refine a_ret hT [] rfl rfl rfl rfl rfl rfl ?_
          first | exact ⟨rfl, rfl⟩ | rfl
        · have h2 := of_decide_eq_false h2
          (exfalso; first | omega | contradiction)
    have hn1 : 1 ≤ num := by omega
    have hn2 : num ≤ 2147483647 := by omega
    refine a_call hT rfl rfl rfl (by kernel_rfl) (cnew_spec (num := num) (h := 0) hn1 hn2) [] [10] rfl rfl ?_
    rintro _ _ ⟨g, rfl, rfl⟩
    refine a_g hT rfl rfl rfl (fun h1 => ?_) (fun h1 => ?_)
    · have h1 := of_decide_eq_true h1
      (exfalso; first | omega | contradiction)
    · have h1 := of_decide_eq_false h1
      refine a_if hT rfl rfl (fun h2 => ?_) (fun h2 => ?_)
      · have h2 := of_decide_eq_true h2
        (exfalso; first | omega | contradiction)
      · have h2 := of_decide_eq_false h2
        refine a_f hT rfl rfl rfl ?_
        refine a_build hT hZ [.v (kI num) 0, .v (Value.int IntKind.u64 0) 0, .v (Value.slice none 0 0) 0] rfl rfl rfl rfl rfl rfl ?_
        refine a_box hT 20 rfl rfl rfl rfl fun g1 => ?_
        refine a_loop hT [1, 5, 6, 36, 37] (fun x : WP => [scrD l, ptrA g 10, ptrA g1 20, nI l.length, nI x.i]) (fun x => [(10, .ext (cliA g x.C)), (20, refC g1 x.C)]) (WP.ok l) (fun x => l.length - x.i) ⟨0, ⟨num, 0, []⟩⟩ [10, 20] rfl rfl ⟨Nat.zero_le _, CS.ok.zero (by omega), by simp, by simp⟩ ⟨rfl, rfl, rfl, by show Value.int .i64 ((l.map COp.d).length : Int) = .int .i64 (l.length : Int); rw [List.length_map], rfl, trivial⟩ rfl ⟨rfl, ⟨rfl, rfl, rfl, rfl, ⟨rfl, rfl⟩, trivial⟩, trivial⟩ ?_
        rintro ⟨i, C⟩ ⟨q1, hC, hla, hq⟩
        dsimp only at q1 hC hla hq ⊢
        have hl0 := hC.l0
        refine a_if hT rfl rfl (fun hi => ?_) (fun hi => ?_)
        · have hi : (i : Int) < l.length := of_decide_eq_true hi
          have hi' : i < l.length := by omega
          have hd : (l.map COp.d)[((i : Nat) : Int).toNat]? = some (COp.d l[i]) := by simp [hi']
          have ho := hok l[i] (List.getElem_mem hi')
          have hob := hb2 l[i] (List.getElem_mem hi')
          generalize l[i] = o at hd ho hob
          have hnx : IntKind.i64.wrap ((i : Int) + 1) = ((i + 1 : Nat) : Int) := by rw [w64 (by omega) (by omega)]; rfl
          have hst := stepP_ok hC (by omega) hq o
          obtain ⟨k1, k2, k3⟩ := hst
          refine a_ix hT (COp.d o) rfl rfl rfl rfl rfl rfl (by omega) hd ?_
          refine a_call hT rfl rfl rfl (by kernel_rfl) (step_spec (g := g) (r := g1) (h := 10) (h2 := 20) (C := C) (o := o) hC (by omega) hq hob.1 hob.2 ho.2) [10, 20] [10, 20] rfl rfl ?_
          rintro _ _ ⟨rfl, rfl⟩
          generalize stepP C o = C2 at k1 k2 k3 ⊢
          have l0 := k1.l0
          have l1 := k1.l1
          refine a_gf hT rfl rfl rfl rfl ?_
          refine a_call hT rfl rfl rfl (by kernel_rfl) (copen_spec (g := g) (h := 10) (C := C2) k1 k3) [10] [10] rfl rfl ?_
          rintro _ _ ⟨C', ⟨rfl, rfl⟩, rfl⟩
          refine a_callZ hT rfl rfl rfl (by kernel_rfl) (ropen_spec (C := C') (by omega)) [20] [] [1] rfl rfl rfl ⟨rfl, trivial⟩ trivial (by rintro _ _ ⟨_, rfl, rfl⟩; exact ⟨inferInstance, inferInstance⟩) ?_
          rintro _ _ ⟨v8, rfl, rfl⟩
          refine a_freeze 52 1 rfl rfl rfl rfl ?_
          refine a_call hT rfl rfl rfl (by kernel_rfl) (sameToks_spec (l := C'.calls.map (·.tok)) (by rw [List.length_map]; omega)) [] [] rfl rfl ?_
          rintro _ _ ⟨rfl, rfl⟩
          refine a_gf hT rfl rfl rfl rfl ?_
          refine a_call hT rfl rfl rfl (by kernel_rfl) (cfloorT_spec (g := g) (h := 10) (C := C') k1) [10] [10] rfl rfl ?_
          rintro _ _ ⟨C'', ⟨rfl, rfl⟩, rfl⟩
          refine a_callZ hT rfl rfl rfl (by kernel_rfl) (rfloor_spec (C := C'') l0 l1) [20] [] [] rfl rfl rfl ⟨rfl, trivial⟩ trivial (by rintro _ _ ⟨rfl, rfl⟩; exact ⟨inferInstance, inferInstance⟩) ?_
          rintro _ _ ⟨rfl, rfl⟩
          refine a_f hT rfl rfl (by show (_ != _) = false; simp) ?_
          refine a_call hT rfl rfl rfl (by kernel_rfl) (cwakeT_spec (g := g) (h := 10) (C := C'') k1) [10] [10] rfl rfl ?_
          rintro _ _ ⟨C3, ⟨hw1, rfl⟩, rfl⟩
          have hnxt : ∀ {x : WP}, x = ⟨i + 1, C3⟩ → WP.ok l x ∧ l.length - x.i < l.length - i := fun e => by subst e; exact ⟨⟨by show i + 1 ≤ l.length; omega, k1, by show C3.last ≤ ((i + 1 : Nat) : Int); omega, k3⟩, by show l.length - (i + 1) < l.length - i; omega⟩
          rcases hw1 with ⟨hc0, rfl⟩ | ⟨p, hp, rfl⟩
          · refine a_callZ hT rfl rfl rfl (by kernel_rfl) (rwake_spec (C := C3) k1 (by omega)) [20] [] [] rfl rfl rfl ⟨rfl, trivial⟩ trivial (by rintro _ _ ⟨⟨_, rfl⟩ | ⟨_, _, rfl⟩, rfl⟩ <;> exact ⟨inferInstance, inferInstance⟩) ?_
            rintro _ _ ⟨⟨_, rfl⟩ | ⟨m, hm, rfl⟩, rfl⟩
            · refine a_gf hT rfl rfl rfl rfl ?_
              refine a_f hT rfl rfl rfl ?_
              exact a_next hT (WP.mk (i + 1) C3) [10, 20] rfl rfl (hnxt rfl) ⟨rfl, rfl, rfl, rfl, by show Value.int .i64 _ = Value.int .i64 _; rw [hnx], trivial⟩ rfl ⟨rfl, ⟨rfl, rfl, Fits.refl _⟩, trivial⟩
            · obtain ⟨x, hx, _⟩ := hm.e
              rw [hc0] at hx
              simp at hx
          · refine a_callZ hT rfl rfl rfl (by kernel_rfl) (rwake_spec (C := C3) k1 (by omega)) [20] [] [] rfl rfl rfl ⟨rfl, trivial⟩ trivial (by rintro _ _ ⟨⟨_, rfl⟩ | ⟨_, _, rfl⟩, rfl⟩ <;> exact ⟨inferInstance, inferInstance⟩) ?_
            rintro _ _ ⟨⟨hc0, rfl⟩ | ⟨m, hm, rfl⟩, rfl⟩
            · have := hp.m
              rw [hc0] at this
              simp [due] at this
            · have hmp := hp.least hm
              subst hmp
              refine a_g hT rfl rfl rfl (fun h3 => ?_) (fun h3 => ?_)
              · have h3 := bne_iff_ne.1 h3
                (exfalso; first | omega | contradiction)
              · simp at h3
                refine a_f hT rfl rfl rfl ?_
                exact a_next hT (WP.mk (i + 1) C3) [10, 20] rfl rfl (hnxt rfl) ⟨rfl, rfl, rfl, rfl, by show Value.int .i64 _ = Value.int .i64 _; rw [hnx], trivial⟩ rfl ⟨rfl, ⟨rfl, rfl, Fits.refl _⟩, trivial⟩
        · have hi : ¬ (i : Int) < l.length := of_decide_eq_false hi
          exact a_ret hT [] rfl rfl rfl rfl rfl rfl rfl
theorem clientPlays_walk (W : World) (args : Array Value) (ha : ArgsOk Try.prog W [3, 47] [[.int .i64], [.sl [.int .i64, .int .i64, .int .u64, .int .i64, .int .i64, .sl [.int .u8], .int .i64, .int .i64, .int .u64, .int .i64, .int .u64, .int .i64, .int .i64, .int .i64, .sl [.int .u8]]]] args.toList) : Calls Try.prog 7 args W (LawR W) := by
  obtain ⟨v, v2, rfl, h1, h2⟩ := argv_two ha
  obtain ⟨m, rfl, _, _⟩ := arg_i64 h1 (by kernel_rfl)
  obtain ⟨l, hr, hl, hok⟩ := argA_many h2 (by kernel_rfl) (by simp) COp.d COp.ok2 cop_reads2
  exact law_of (clientPlays_spec (h := 0) hl hok) (Reps.cons mk_v (Reps.cons hr Reps.nil))
end Go.Proofs.Ytepjnmocepkfjaa
end
