import Derived.Test.YtepjnmocepkfjaaQClientOnce10
import Derived.RangeFuncLeaves
import Derived.Test.YtepjnmocepkfjaaQClientOnce8
import Derived.Test.YtepjnmocepkfjaaQClientOnce9
import Derived.Test.YtepjnmocepkfjaaQClientOnce7
import Derived.Test.YtepjnmocepkfjaaQClientOnce6
section
/- A range over a function: the statement. It holds of any program. -/
set_option linter.unusedVariables false
set_option linter.unusedSimpArgs false
namespace Go.Proofs.Ytepjnmocepkfjaa.A
open V
theorem obj_new {c : Ctx} {w : World} {S : Nat → Prop} {f : AEnv} {fc : Env} {σ : Store} (k : Nat) (o : Obj) (hs : Sat c w S f fc) (hh : Holds (or2 S c.X) w σ S) :
    ∃ S', Sat c (w.alloc o) S' f fc ∧ Holds (or2 S' c.X) (w.alloc o) ((k, .ext (objA w.heap.size o)) :: σ) S' := by
  have hev := Ev.alloc w o
  have hdX : ∀ b, c.X b → b < w.heap.size := fun b hb => Nat.lt_of_lt_of_le (c.old b hb) hs.ev.size
  have hm : ∀ b, b < w.heap.size → no b ∨ or2 (or2 (at1 w.heap.size) S) c.X b → or2 S c.X b := fun b hb h => by
    rcases h with h | (h | h) | h
    · exact h.elim
    · have h : b = w.heap.size := h; omega
    · exact .inl h
    · exact .inr h
  refine ⟨or2 (at1 w.heap.size) S, ⟨hs.env.pass hev hm, hs.ev.to hev, fun b hb => ?_⟩, at1 w.heap.size, S, fun b => Iff.rfl, fun b hb h => ?_, ?_, hh.ev hev hm fun b _ h => h⟩
  · rcases hb with h | h
    · have h : b = w.heap.size := h
      exact .inr (by rw [h]; exact hs.ev.size)
    · exact hs.sub b h
  · have hb : b = w.heap.size := hb
    have := hh.lt b h
    omega
  · exact ⟨fun b => Iff.rfl, World.alloc_heap_new w o⟩
theorem ent_holds {M S : Nat → Prop} {w : World} {σ σr : Store} {ks : List Nat} {cs cs' : List Chunk} (ks' : List Nat) (hh : Holds M w σ S) (ht : takes σ ks = some (cs, σr)) (he : Ent cs cs') : Holds M w (zipk ks' cs' ++ σr) S := by
  obtain ⟨S1, S2, h1, h2, hS, hdis⟩ := hh.takes ht
  exact ((he _ _ _ h1).zip ks').append h2 hdis hS
def mark (D : Nat) : Deferred := { target := .collected D, args := #[] }
def loopR (n : Nat) (fc : Env) (fn : FuncId) (ps : Array Tmp) (asg body : Code) (D : Nat) : Loop := { state := .ready, pending := none, fn, tmps := (act n fc).tmps, params := ps, assign := asg, body, defers := D }
/-- What stands between two rounds. -/
def jA {V E : Type} (Kc : V → List E → List Chunk) (l D : Nat) (r : Loop) (pre : List E) : Asrt := exA (fun _ : V => True) fun v => Kc v pre ++ [.ext (objA l (.loop r)), .ext (objA D (.deferred (some [])))]
section
variable {P : Program} {L : List TD} {n : Nat}
theorem range_in {V E : Type} {gx : Operand} {ps : Array Tmp} {asg body : Code} {Q : Exit → Act → World → Prop} {fc : Env} {w : World} {c : Ctx} {S : Nat → Prop} {f : AEnv} {σ σr : Store} {m gf N kB : Nat} {caps : List AV} {B : Asrt} {T : List E → Prop} {enc : E → Value} {Kc : V → List E → List Chunk} {v0 : V} {ks : List Nat}
    (hs : Sat c w S f fc) (hh : Holds (or2 S c.X) w σ S) (hg : evA n f gx = .fn gf caps) (hb : callOk P gf = true) (ht : takes σ ks = some (Kc v0 [], σr)) (ht2 : takes σr [kB] = some ([.ext B], []))
    (hJ : ∀ fn l D pre x, pre.length < N → YSpec P l [.v (enc x) 0] (jA Kc l D (loopR n fc fn ps asg body D) pre) (jA Kc l D (loopR n fc fn ps asg body D) (pre ++ [x])))
    (hit : ∀ l (J : List E → Asrt), (∀ pre x, pre.length < N → YSpec P l [.v (enc x) 0] (J pre) (J (pre ++ [x]))) → FSpec P gf (.v (.func (.yield l) #[] #[]) 0 :: caps) [.ext B, .ext (J [])] fun _ cs' => ∃ ys, T ys ∧ cs' = [.ext B, .ext (J ys)])
    (hk : ∀ D w' S' ys v, T ys → Sat c w' S' f fc → Holds (or2 S' c.X) w' ((kB, .ext B) :: (0, .ext (objA D (.deferred (some [])))) :: (Kc v ys).map fun c => (0, c)) S' → Q .normal { act n fc with defers := [mark D] } w') :
    (Code.rangeFunc gx ps asg body).wpIn Fence.wide m P Q (act n fc) w := by
  refine wpIn_rangeFunc ?_
  intro fn _
  obtain ⟨S1, hs1, hh1⟩ := obj_new 1 (.deferred (some [])) hs hh
  obtain ⟨S2, hs2, hh2⟩ := obj_new 2 (.loop (loopR n fc fn ps asg body w.heap.size)) hs1 hh1
  have hz : (w.alloc (.deferred (some []))).heap.size = w.heap.size + 1 := by simp
  rw [hz] at hh2
  have hv := hs2.env.eval (n := n) gx
  rw [hg] at hv
  unfold Rep at hv
  obtain ⟨ys, hv, hrc⟩ := hv
  have haa : (act n fc).eval = ev n fc := funext (act_eval n fc)
  obtain ⟨W2, hW2⟩ : ∃ W2, (w.alloc (.deferred (some []))).alloc (.loop (loopR n fc fn ps asg body w.heap.size)) = W2 := ⟨_, rfl⟩
  rw [hW2] at hs2 hh2 hrc
  refine ⟨w.heap.size + 1, [mark w.heap.size], W2, { target := .fn (.func gf) ys.toArray, args := #[.func (.yield (w.heap.size + 1)) #[] #[]] }, W2, gf, #[.func (.yield (w.heap.size + 1)) #[] #[]] ++ ys.toArray, W2, by rw [← hW2]; exact run_enterLoop_outer _ _ _ _ _, ?_, fun _ _ => trivial, ?_, fun h => (by cases h), ?_⟩
  · rw [haa]
    simp [resolve, hv, Deferred.ofValue, show ∀ v, ev n fc (.const v) = v from fun _ => rfl]
  · simp [invoke, run_callFunc hb]
  · -- the iterator
    have hdX : ∀ b, S2 b → ¬ c.X b := fun b hb hx => (hs2.sub b hb).elim (fun h => c.dis b h hx) fun h => Nat.lt_irrefl _ (Nat.lt_of_le_of_lt h (c.old b hx))
    have hXl : ∀ b, c.X b → b < W2.heap.size := fun b hb => Nat.lt_of_lt_of_le (c.old b hb) hs2.ev.size
    obtain ⟨U1, U2, eU, dU, c1, V1, V2, eV, dV, c2, hσ⟩ := hh2
    obtain ⟨A1, A2, a1, a2, eA, dA⟩ := hσ.takes ht
    obtain ⟨B1, B2, b1, b2, eB, dB⟩ := a2.takes ht2
    have hLD : HoldsL (or2 S2 c.X) W2 [.ext (objA (w.heap.size + 1) (.loop (loopR n fc fn ps asg body w.heap.size))), .ext (objA w.heap.size (.deferred (some [])))] (fun b => U1 b ∨ V1 b) :=
      ⟨U1, V1, fun b => Iff.rfl, fun b hb h => dU b hb ((eV b).2 (.inl h)), c1, V1, no, fun b => ⟨.inl, fun h => h.elim id fun h => h.elim⟩, fun b _ h => h, c2, fun b h => h⟩
    have hK : HoldsL (or2 S2 c.X) W2 (Kc v0 [] ++ [.ext (objA (w.heap.size + 1) (.loop (loopR n fc fn ps asg body w.heap.size))), .ext (objA w.heap.size (.deferred (some [])))]) (fun b => A1 b ∨ (U1 b ∨ V1 b)) := by
      unfold HoldsL
      rw [List.map_append]
      refine Holds.append a1 hLD (fun b hb h => ?_) fun b => Iff.rfl
      rcases h with h | h
      · exact dU b h ((eV b).2 (.inr ((eA b).2 (.inl hb))))
      · exact dV b h ((eA b).2 (.inl hb))
    have hKB : Holds (or2 S2 c.X) W2 [(3, .ext B), (4, .ext (jA Kc (w.heap.size + 1) w.heap.size (loopR n fc fn ps asg body w.heap.size) []))] S2 := by
      have h1 := (ent_pack (φ := fun _ : V => True) (f := fun v => Kc v [] ++ [.ext (objA (w.heap.size + 1) (.loop (loopR n fc fn ps asg body w.heap.size))), .ext (objA w.heap.size (.deferred (some [])))]) v0 trivial) _ _ _ hK
      have h2 := Holds.append (U := S2) (b1.zip [3]) (h1.zip [4]) (fun b hb h => ?_) fun b => ?_
      · exact h2
      · have hb' : A2 b := (eB b).2 (.inl hb)
        rcases h with h | h | h
        · exact dA b h hb'
        · exact dU b h ((eV b).2 (.inr ((eA b).2 (.inr hb'))))
        · exact dV b h ((eA b).2 (.inr hb'))
      · have hB2 : ∀ b, ¬ B2 b := b2
        rw [eU b, eV b, eA b, eB b]
        have := hB2 b
        constructor
        · rintro (h | h | h | h | h)
          · exact .inr (.inr (.inl h))
          · exact .inr (.inr (.inr h))
          · exact .inr (.inl h)
          · exact .inl h
          · exact absurd h this
        · rintro (h | h | h | h)
          · exact .inr (.inr (.inr (.inl h)))
          · exact .inr (.inr (.inl h))
          · exact .inl h
          · exact .inr (.inl h)
    have hcall := call_does (ks := [3, 4]) (ks' := [3, 4]) (hit (w.heap.size + 1) (jA Kc (w.heap.size + 1) w.heap.size (loopR n fc fn ps asg body w.heap.size)) (fun pre x hl => hJ fn _ _ pre x hl)) hXl hdX hKB rfl (show Reps _ _ (.v (.func (.yield (w.heap.size + 1)) #[] #[]) 0 :: caps) (.func (.yield (w.heap.size + 1)) #[] #[] :: ys) from Reps.cons mk_v hrc)
    rw [show (#[.func (.yield (w.heap.size + 1)) #[] #[]] ++ ys.toArray : Array Value) = ((.func (.yield (w.heap.size + 1)) #[] #[] : Value) :: ys).toArray by simp]
    refine (callsIn_wide.2 hcall).mono ?_
    rintro e w3 ⟨v, rfl, a, σ1, S3, ⟨cs', ⟨zs, hT1, rfl⟩, rfl⟩, hrep, hh3, hev, hsub⟩
    have hm : ∀ b, b < W2.heap.size → S2 b ∨ or2 S3 c.X b → or2 S2 c.X b := fun b hb h => by
      rcases h with h | h | h
      · exact .inl h
      · rcases hsub b h with h | h
        · exact .inl h
        · omega
      · exact .inr h
    have hs3 : Sat c w3 S3 f fc := ⟨hs2.env.pass hev hm, hs2.ev.then hev fun b hb h => (hs2.sub b h).elim id fun h => by omega, fun b hb => (hsub b hb).elim (fun h => hs2.sub b h) fun h => .inr (Nat.le_trans hs2.ev.size h)⟩
    obtain ⟨P1, P2, eP, dP, cB, J1, J2, eJ, dJ, cJ, hno⟩ := hh3
    have hno : ∀ b, ¬ J2 b := hno
    obtain ⟨v, _, hv3⟩ := (show (jA Kc (w.heap.size + 1) w.heap.size (loopR n fc fn ps asg body w.heap.size) zs).h (or2 S3 c.X) J1 w3 from cJ)
    have hv4 := HoldsL.perm List.perm_append_comm hv3
    have hall : Holds (or2 S3 c.X) w3 ((2, .ext (objA (w.heap.size + 1) (.loop (loopR n fc fn ps asg body w.heap.size)))) :: ((kB, .ext B) :: (0, .ext (objA w.heap.size (.deferred (some [])))) :: (Kc v zs).map fun c => (0, c))) S3 := by
      have h1 : HoldsL (or2 S3 c.X) w3 (.ext B :: ([.ext (objA (w.heap.size + 1) (.loop (loopR n fc fn ps asg body w.heap.size))), .ext (objA w.heap.size (.deferred (some [])))] ++ Kc v zs)) S3 :=
        ⟨P1, J1, fun b => by rw [eP b, eJ b]; exact ⟨fun h => h.imp id fun h => h.elim id fun h => absurd h (hno b), fun h => h.imp id .inl⟩, fun b hb h => dP b hb ((eJ b).2 (.inl h)), cB, hv4⟩
      have h2 := HoldsL.perm (List.Perm.swap _ _ _) h1
      exact Holds.keys h2 (by simp)
    obtain ⟨hp3, _⟩ := obj_at (k := 2) hall rfl
    obtain ⟨hs4, hh4⟩ := obj_turn (k := 2) (.loop { loopR n fc fn ps asg body w.heap.size with state := .exhausted }) hs3 hall rfl
    refine ⟨_, _, run_endLoop hp3 (by simp [loopR]), ?_⟩
    obtain ⟨R1, R2, eR, dR, cR, hR2⟩ := hh4
    have hmR : ∀ b, or2 R2 c.X b → or2 S3 c.X b := fun b h => h.elim (fun h => .inl ((eR b).2 (.inr h))) .inr
    exact hk w.heap.size _ R2 zs v hT1 ⟨hs4.env.of fun b _ h => hmR b h, hs4.ev, fun b hb => hs4.sub b ((eR b).2 (.inr hb))⟩ (hR2.of fun b _ h => hmR b h)
end
end Go.Proofs.Ytepjnmocepkfjaa.A
end

section
/- slices.AppendSeq of numbers, at nil, against any iterator. -/
set_option linter.unusedVariables false
set_option linter.unusedSimpArgs false
set_option maxRecDepth 100000
namespace Go.Proofs.Ytepjnmocepkfjaa.A
open V
theorem act_en {n : Nat} {args : List Value} (ha' : args.length ≤ n) : ({ tmps := args.toArray ++ Array.replicate (n - args.toArray.size) undef, defers := [] } : Act) = act n (en 0 args) := by
  unfold act
  congr 1
  apply Array.ext_getElem?
  intro i
  rw [Array.getElem?_ofFn]
  by_cases h : i < n
  · rw [dif_pos h, get_en]
    rw [Array.getElem?_append]
    by_cases h2 : i < args.length
    · simp [h2]
    · simp [h2, show i - args.length < n - args.length by omega]
  · rw [dif_neg h]
    rw [Array.getElem?_append]
    have h2 : ¬ i < args.length := by omega
    simp [h2]; omega
section
variable {P : Program} {L : List TD} {n : Nat}
theorem step_val {ops : Array Oper} {rest : List Oper} {o : Oper} {K : Exit → Act → World → Prop} {fc : Env} {w : World} {v : Value} {m : Nat} {ds : List Deferred} (hg : o.guard = none) (hr : (execOp (ev n fc) o).run P w = .ok (.value v) w)
    (hk : wpListIn Fence.wide m P ops K rest { act n (put fc o.dst v) with defers := ds } w) : wpListIn Fence.wide m P ops K (o :: rest) { act n fc with defers := ds } w := by
  have haa : ({ act n fc with defers := ds } : Act).eval = ev n fc := funext (act_eval n fc)
  unfold wpListIn
  rw [if_pos (by unfold Region.wanted; rw [hg])]
  refine ⟨fun _ _ => trivial, ?_⟩
  rw [show (Fence.wide).round = none from rfl, Oper.semAt_none, haa, hr]
  show wpListIn Fence.wide m P ops K rest (({ act n fc with defers := ds } : Act).put o.dst v) w
  have hp : ({ act n fc with defers := ds } : Act).put o.dst v = { (act n fc).put o.dst v with defers := ds } := by cases o.dst <;> rfl
  rw [hp, act_put]
  exact hk
theorem code_in {c : Ctx} {cd : Code} {R : Act → World → Prop} {f : AEnv} {σ : Store} {fc : Env} {w : World} {S : Nat → Prop} {m : Nat} (h : DenA c P n noQ (.code [.inv R] cd) f σ) (hs : Sat c w S f fc) (hh : Holds (or2 S c.X) w σ S) : cd.wpIn Fence.wide m P (Exit.then R noQ) (act n fc) w :=
  wpIn_wide.2 (h.out trivial w S fc (fun _ => True) hs hh)
theorem read_run (hT : TOk P L) {o : Oper} {f : AEnv} {a : AV} {σ : Store} {ob : Obs} (h : opA L n true true true [] σ [] f o.op (fun b a _ ob => some (b, a, ob)) none = some (false, a, ob)) (hob : OT ob) {M : Nat → Prop} {w : World} {fc : Env} {Su : Nat → Prop} (he : EnvRep M w f fc) (hh : Holds M w σ Su) :
    ∃ v, (execOp (ev n fc) o).run P w = .ok (.value v) w ∧ Rep M w a v := by
  rcases opA_says (P := P) (L := L) hT n true true true [] σ [] f o with h1 | ⟨a', ob', h1, hs⟩ | ⟨_, σ', ob', h1, hs⟩
  · rw [h1] at h; cases h
  · rw [h1] at h
    cases h
    obtain ⟨v, hv, hr⟩ := hs M w no Su fc (fun w' => w' = w) hob he (fun _ h => h) hh (fun _ w' e b _ => by rw [e]) (fun _ w' e b _ => by rw [e]) (fun _ w' e b _ => by rw [e])
    exact ⟨v, hv w rfl, hr⟩
  · rw [h1] at h; cases h
theorem tail_in (hT : TOk P L) {ops : Array Oper} {o1 o2 : Oper} {K : Exit → Act → World → Prop} {fc : Env} {w : World} {m : Nat} {ds : List Deferred} {f : AEnv} {σ : Store} {a1 a2 : AV} {ob : Obs} {M Su : Nat → Prop} (g1 : o1.guard = none) (g2 : o2.guard = none)
    (h1 : opA L n true true true [] σ [] f o1.op (fun b a _ ob => some (b, a, ob)) none = some (false, a1, ob)) (hob : OT ob) (h2 : pureA L n [] (putA f o1.dst a1) o2.op some none = some a2) (he : EnvRep M w f fc) (hh : Holds M w σ Su)
    (hk : ∀ fc', EnvRep M w (putA (putA f o1.dst a1) o2.dst a2) fc' → K .normal { act n fc' with defers := ds } w) : wpListIn Fence.wide m P ops K [o1, o2] { act n fc with defers := ds } w := by
  obtain ⟨v1, r1, k1⟩ := read_run hT h1 hob he hh
  refine step_val g1 r1 ?_
  have he1 := he.put o1.dst k1
  obtain ⟨v2, r2, k2⟩ := pure_run hT h2 he1
  refine step_val g2 (r2 w) ?_
  exact hk _ (he1.put o2.dst k2)
end
end Go.Proofs.Ytepjnmocepkfjaa.A
namespace Go.Proofs.Ytepjnmocepkfjaa
open V A
abbrev boxU (g : Nat) (v : Value) : Chunk := .blk g 44 [.row v 30]
abbrev rowL (v : Value) (l : List Int) : Chunk := .row v 25 1 (l.map eU)
theorem appendSeq_spec {gf N h : Nat} {caps : List AV} {B : Asrt} {T : List Int → Prop} (hN : N ≤ 1000000) (hb : callOk Try.prog gf = true)
    (hit : ∀ l (J : List Int → Asrt), (∀ pre x, pre.length < N → YSpec Try.prog l [.v (kU x) 0] (J pre) (J (pre ++ [x]))) → FSpec Try.prog gf (.v (.func (.yield l) #[] #[]) 0 :: caps) [.ext B, .ext (J [])] fun _ cs' => ∃ ys, T ys ∧ cs' = [.ext B, .ext (J ys)]) :
    FSpec Try.prog 79 [.v (.slice none 0 0) h, .fn gf caps] [.ext B] fun a cs' => ∃ v ys, T ys ∧ a = .row v 1 ∧ cs' = [.ext B, rowL v ys] := by
  refine ⟨fun X S w xs h1 h2 h3 h4 => ?_⟩
  have hlen := h4.len
  refine (callsIn_wide (n := 6)).1 (callsIn_of_wp_marks Try.func79 rfl trivial ?_ rfl)
  have hact := act_en (n := 13) (args := xs) (by rw [hlen]; show 2 ≤ 13; decide)
  refine (show _ = _ from hact) ▸ ?_
  let c : Ctx := ⟨X, S, w, h1, h2⟩
  have hs0 : Sat c w S (enA 0 [.v (.slice none 0 0) h, .fn gf caps]) (en 0 xs) := ⟨enA_rep 0 h4, Ev.refl _ _, fun b hb => .inl hb⟩
  have hh0 : Holds (or2 S c.X) w [(50, .ext B)] S := h3.zip [50]
  refine wpIn_seq (wpIn_mono (code_in (n := 13) (R := InvA c 13 [1, 2] (fun g : Nat => [.fn gf caps, .v (.pointer (some ⟨g, 0, none⟩)) 31]) (fun g => [(31, boxU g (.slice none 0 0)), (30, rowL (.slice none 0 0) []), (50, .ext B)]) (fun _ => True)) ?D0 hs0 hh0) ?_)
  case D0 =>
    refine a_nilrow 0 30 25 1 rfl rfl ?_
    refine a_box hT 31 rfl rfl rfl rfl fun g => ?_
    exact a_next hT g [31, 30, 50] rfl rfl trivial ⟨⟨rfl, Fits.refl _⟩, rfl, trivial⟩ rfl ⟨⟨rfl, rfl, ⟨rfl, trivial⟩⟩, ⟨rfl, rfl, rfl, rfl⟩, rfl, trivial⟩
  intro e a1 w1 hx
  cases e with
  | normal =>
    obtain ⟨g, fc1, S1, rfl, _, hs1, hh1⟩ := hx
    refine wpIn_seq (wpIn_seq (wpIn_mono (code_in (n := 13) (R := InvA c 13 [2, 6] (fun _ : Unit => [.v (.pointer (some ⟨g, 0, none⟩)) 31, .fn gf caps]) (fun _ => [(31, boxU g (.slice none 0 0)), (30, rowL (.slice none 0 0) []), (50, .ext B)]) (fun _ => True)) ?D1 hs1 hh1) ?_))
    case D1 =>
      exact a_next hT () [31, 30, 50] rfl rfl trivial ⟨rfl, ⟨rfl, Fits.refl _⟩, trivial⟩ rfl ⟨⟨rfl, rfl, ⟨rfl, trivial⟩⟩, ⟨rfl, rfl, rfl, rfl⟩, rfl, trivial⟩
    intro e a2 w2 hx
    cases e with
    | normal =>
      obtain ⟨_, fc2, S2, rfl, _, hs2, hh2⟩ := hx
      refine wpIn_block (range_in (Kc := fun v pre => [boxU g v, rowL v pre]) (v0 := .slice none 0 0) (enc := kU) (N := N) (T := T) (ks := [31, 30]) (kB := 50) hs2 hh2 rfl hb rfl rfl ?J hit ?K)
      case J =>
        intro fn l D pre x hl
        generalize hr0 : loopR 13 fc2 fn #[7] _ _ D = r0
        have e1 : r0.state = _ := (congrArg Loop.state hr0).symm
        have e2 : r0.pending = _ := (congrArg Loop.pending hr0).symm
        have e3 : r0.tmps = _ := (congrArg Loop.tmps hr0).symm
        have e4 : r0.params = _ := (congrArg Loop.params hr0).symm
        have e5 : r0.assign = _ := (congrArg Loop.assign hr0).symm
        have e6 : r0.body = _ := (congrArg Loop.body hr0).symm
        clear hr0
        refine round_spec (P := Try.prog) (r := r0) (l := l) (n := 13) (kl := 60) (p := 7) (fcR := fc2) (fR := [(2, .v (.pointer (some ⟨g, 0, none⟩)) 31)]) (σ0 := fun v : Value => [(31, boxU g v), (30, rowL v pre), (60, .ext (objA l (.loop r0))), (61, .ext (objA D (.deferred (some []))))]) (sl1 := [2, 5]) (vs1 := fun _ : Value => [.v (.pointer (some ⟨g, 0, none⟩)) 31, .v (kU x) 0]) (sg1 := fun v : Value => [(31, boxU g v), (30, rowL v pre), (60, .ext (objA l (.loop r0))), (61, .ext (objA D (.deferred (some []))))]) (φ1 := fun _ => True) (sl2 := []) (vs2 := fun _ : Value => []) (sg2 := fun v : Value => [(31, boxU g v), (30, rowL v (pre ++ [x])), (60, .ext (objA l (.loop { r0 with state := .busy }))), (61, .ext (objA D (.deferred (some []))))]) (φ2 := fun _ => True) e1 e2 e3 e4 e5 e6 ?R1 (by simp) (by simp) ?R2 ?R3 (fun _ => rfl) ?R4 (fun _ => rfl) (fun _ => rfl) ?R5
        case R1 =>
          intro M w' t
          have h2 := hs2.env 2
          rw [show getA (overA [2, 6] [.v (.pointer (some ⟨g, 0, none⟩)) 31, .fn gf caps]) 2 = .v (.pointer (some ⟨g, 0, none⟩)) 31 from rfl] at h2
          rw [getA_cons]
          split
          · rename_i e
            subst e
            unfold Rep at h2 ⊢
            exact h2
          · show Rep M w' .any _
            unfold Rep
            trivial
        case R2 =>
          rintro M S' w' ⟨v, _, hv⟩
          exact ⟨v, hv.zip [31, 30, 60, 61]⟩
        case R3 =>
          intro c' v
          exact a_next hT v [31, 30, 60, 61] rfl rfl trivial ⟨rfl, rfl, trivial⟩ rfl ⟨⟨rfl, rfl, ⟨rfl, trivial⟩⟩, ⟨rfl, rfl, rfl, rfl⟩, rfl, rfl, trivial⟩
        case R4 =>
          intro c' v _
          refine a_lit hT 62 rfl rfl rfl rfl (by kernel_rfl) rfl rfl rfl rfl fun x62 => ?_
          refine a_app hT 30 ((pre ++ [x]).map eU) rfl rfl rfl rfl (by kernel_rfl) rfl rfl rfl rfl rfl (by rw [List.map_append]; rfl) (by simp; unfold lim; omega) fun v' => ?_
          exact a_next hT v' [31, 30, 60, 61] rfl rfl trivial trivial rfl ⟨⟨rfl, rfl, ⟨rfl, trivial⟩⟩, ⟨rfl, rfl, rfl, rfl⟩, rfl, rfl, trivial⟩
        case R5 =>
          intro M S' w' v _ hv
          exact ⟨v, trivial, Holds.keys hv rfl⟩
      case K =>
        intro D w' S' ys v hT' hs' hh'
        refine (show Code.wpIn _ _ _ _ _ _ _ from wpIn_seq (wpIn_region_list ?_))
        have hk' : Holds (or2 S' c.X) w' [(50, .ext B), (0, .ext (objA D (.deferred (some [])))), (31, boxU g v), (30, rowL v ys)] S' := Holds.keys hh' rfl
        refine tail_in (P := Try.prog) hT (n := 13) (a1 := .row v 30) (a2 := .row v 30) rfl rfl rfl ?_ rfl hs'.env hk' fun fc3 he3 => ?_
        · exact OT.of rfl
        refine wpIn_ret ?_
        obtain ⟨hD, _⟩ := obj_at (k := 0) hk' rfl
        refine ⟨by simp, .inl ⟨D, _, rfl, run_takeDeferred hD, ?_⟩⟩
        refine ⟨_, results_tmp rfl _ _ _, ?_⟩
        obtain ⟨hs5, hh5⟩ := obj_turn (k := 0) (.deferred none) hs' hk' rfl
        obtain ⟨R1, R2, eR, dR, cB, R3, R4, eR3, dR3, cD, R5, R6, eR5, dR5, cX, R7, R8, eR7, dR7, cV, hno⟩ := hh5
        have hno : ∀ b, ¬ R8 b := hno
        have hv := he3.eval (n := 13) (.tmp 4)
        have hv : Rep (or2 S' c.X) w' (.row v 30) (ev 13 fc3 (.tmp 4)) := hv
        rw [← act_eval] at hv
        have hm : ∀ b, or2 (or2 R1 R7) c.X b → or2 S' c.X b := fun b h => by
          rcases h with (h | h) | h
          · exact .inl ((eR b).2 (.inl h))
          · exact .inl ((eR b).2 (.inr ((eR3 b).2 (.inr ((eR5 b).2 (.inr ((eR7 b).2 (.inl h))))))))
          · exact .inr h
        refine ⟨_, .row v 1, [.ext B, rowL v ys], or2 R1 R7, rfl, ⟨v, ys, hT', rfl, rfl⟩, by unfold Rep at hv ⊢; exact hv, ?_, hs5.ev, fun b hb => ?_⟩
        · refine Holds.of (M := or2 S' c.X) ⟨R1, R7, fun b => Iff.rfl, fun b hb h => dR b hb ((eR3 b).2 (.inr ((eR5 b).2 (.inr ((eR7 b).2 (.inl h)))))), cB, R7, no, fun b => ⟨.inl, fun h => h.elim id fun h => h.elim⟩, fun b _ h => h, cV, fun b h => h⟩ fun b _ h => hm b h
        · rcases hb with h | h
          · exact hs5.sub b ((eR b).2 (.inl h))
          · exact hs5.sub b ((eR b).2 (.inr ((eR3 b).2 (.inr ((eR5 b).2 (.inr ((eR7 b).2 (.inl h))))))))
    | _ => exact hx.elim
  | _ => exact hx.elim
end Go.Proofs.Ytepjnmocepkfjaa
end

section
/- maps.Keys of the client's calls: its iterator. -/
set_option linter.unusedVariables false
set_option linter.unusedSimpArgs false
set_option maxRecDepth 100000
namespace Go.Proofs.Ytepjnmocepkfjaa
open V A
abbrev mBlk (gb r : Nat) : Chunk := .blk gb 64 [.v (.map (some r)) 11]
theorem keys1_spec {l h h2 gb r : Nat} {L : List (Int × Nat)} {J : List Int → Asrt} (hY : ∀ pre x, (∃ b, (x, b) ∈ L) → pre.length < L.length → YSpec Try.prog l [.v (kU x) 0] (J pre) (J (pre ++ [x]))) :
    FSpec Try.prog 58 [.v (.func (.yield l) #[] #[]) h, .v (.pointer (some ⟨gb, 0, none⟩)) h2] [mBlk gb r, .map r (mapG kU bV40 L), .ext (J [])] fun _ cs => ∃ ys : List Int, ys.Perm (L.map (·.1)) ∧ cs = [mBlk gb r, .map r (mapG kU bV40 L), .ext (J ys)] := by
  refine a_enter hT [.v (.func (.yield l) #[] #[]) 0, .v (.pointer (some ⟨gb, 0, none⟩)) 10] [10, 11, 12] Try.func58 rfl rfl rfl ⟨rfl, rfl, trivial⟩ fun c => ?_
  refine a_rangeG hT (kv := kU) (va := bV40) L rfl rfl rfl mtK rfl rfl rfl rfl fun it => ?_
  refine a_loop hT [0, 5] (fun x : List (Bool × (Int × Nat)) × Option (Value × AV) × List Int => [.v (.func (.yield l) #[] #[]) 0, .v (.pointer (some ⟨it, 0, none⟩)) 11]) (fun x => [(11, .ext (iterA r it (iterG kU bV40 x.1) x.2.1)), (10, mBlk gb r), (12, .ext (J x.2.2))]) (fun x => x.1.map (·.2) = L ∧ x.2.2.Perm ((x.1.filter (·.1)).map (·.2.1))) (fun x => left x.1) (L.map fun p => (false, p), none, []) [11, 10, 12] rfl rfl ⟨by simp [List.map_map, Function.comp_def], by simp⟩ ⟨rfl, rfl, trivial⟩ rfl ⟨rfl, ⟨rfl, rfl, ⟨rfl, trivial⟩⟩, rfl, trivial⟩ ?_
  rintro ⟨e, cur, ys⟩ ⟨h1, h2⟩
  dsimp only at h1 h2 ⊢
  refine a_inextG hT (kv := kU) (va := bV40) e rfl rfl rfl rfl rfl rfl rfl (fun hq => ?_) (fun i k b hi => ?_)
  · refine a_f hT rfl rfl rfl ?_
    refine a_iendG 11 (kv := kU) (va := bV40) e rfl rfl rfl ?_
    refine a_end hT [10, 11, 12] rfl rfl rfl rfl rfl rfl ?_
    refine ⟨ys, ?_, by rw [h1]⟩
    rw [List.filter_eq_self.2 hq] at h2
    rw [← h1, List.map_map]
    exact h2
  · refine a_t hT rfl rfl rfl ?_
    refine a_ientry hT rfl rfl rfl rfl rfl rfl ?_
    have hil := (List.getElem?_eq_some_iff.1 hi).1
    have hsp : e = e.take i ++ (false, (k, b)) :: e.drop (i + 1) := by
      have := (List.getElem?_eq_some_iff.1 hi).2
      rw [← this, ← List.drop_eq_getElem_cons hil, List.take_append_drop]
    have hst : e.set i (true, (k, b)) = e.take i ++ (true, (k, b)) :: e.drop (i + 1) := List.set_eq_take_append_cons_drop ▸ by rw [if_pos hil]
    have hmem : ∃ b, (k, b) ∈ L := ⟨b, by rw [← h1, hsp]; simp⟩
    have hlen : ys.length < L.length := by
      rw [h2.length_eq, List.length_map, ← h1, List.length_map]
      rw [hsp, List.filter_append, List.filter_cons_of_neg (by simp)]
      have u1 := List.length_filter_le (fun x : Bool × (Int × Nat) => x.1) (e.take i)
      have u2 := List.length_filter_le (fun x : Bool × (Int × Nat) => x.1) (e.drop (i + 1))
      simp only [List.length_append, List.length_cons]
      omega
    refine a_yieldR hT 5 rfl rfl rfl rfl rfl rfl rfl rfl rfl rfl rfl (kA := 12) rfl (hY ys k hmem hlen) ?_
    refine a_f hT rfl rfl rfl ?_
    refine a_next hT (e.set i (true, (k, b)), some (kU k, bV40 b), ys ++ [k]) [11, 10, 12] rfl rfl ⟨⟨?_, ?_⟩, ?_⟩ ⟨rfl, rfl, trivial⟩ rfl ⟨rfl, ⟨rfl, rfl, ⟨rfl, trivial⟩⟩, rfl, trivial⟩
    · show (e.set i (true, (k, b))).map (·.2) = L
      rw [hst, ← h1]
      conv => rhs; rw [hsp]
      simp
    · show (ys ++ [k]).Perm (((e.set i (true, (k, b))).filter (·.1)).map (·.2.1))
      rw [hst, List.filter_append, List.filter_cons_of_pos (by simp), List.map_append, List.map_cons]
      rw [hsp, List.filter_append, List.filter_cons_of_neg (by simp), List.map_append] at h2
      refine (List.Perm.append_right [k] h2).trans ?_
      rw [List.append_assoc]
      refine List.Perm.append_left _ ?_
      exact List.perm_append_comm
    · show left (e.set i (true, (k, b))) < left e
      have := left_set hi (k, b)
      omega
end Go.Proofs.Ytepjnmocepkfjaa
end

section
/- The client's Open: slices.Sorted(maps.Keys(calls)). -/
set_option linter.unusedVariables false
set_option linter.unusedSimpArgs false
set_option maxRecDepth 100000
namespace Go.Proofs.Ytepjnmocepkfjaa
open V A
theorem collect_spec {gf N h : Nat} {caps : List AV} {B : Asrt} {T : List Int → Prop} (hN : N ≤ 1000000) (hb : callOk Try.prog gf = true)
    (hit : ∀ l (J : List Int → Asrt), (∀ pre x, pre.length < N → YSpec Try.prog l [.v (kU x) 0] (J pre) (J (pre ++ [x]))) → FSpec Try.prog gf (.v (.func (.yield l) #[] #[]) 0 :: caps) [.ext B, .ext (J [])] fun _ cs' => ∃ ys, T ys ∧ cs' = [.ext B, .ext (J ys)]) :
    FSpec Try.prog 57 [.fn gf caps] [.ext B] fun a cs' => ∃ v ys, T ys ∧ a = .row v 1 ∧ cs' = [.ext B, rowL v ys] := by
  refine a_enter hT [.fn gf caps] [50] Try.func57 rfl rfl rfl (Fits.refl _) fun c => ?_
  refine a_call hT rfl rfl rfl (by kernel_rfl) (appendSeq_spec (h := 0) hN hb hit) [50] [50, 1] rfl rfl ?_
  rintro _ _ ⟨v, ys, hT1, rfl, rfl⟩
  refine a_ret hT [50, 1] rfl rfl rfl rfl rfl rfl ?_
  exact ⟨v, ys, hT1, rfl, rfl⟩
theorem sorted_spec {gf N h : Nat} {caps : List AV} {B : Asrt} {T : List Int → Prop} (hN : N ≤ 1000000) (hb : callOk Try.prog gf = true) (hl : ∀ ys, T ys → ys.length ≤ 16)
    (hit : ∀ l (J : List Int → Asrt), (∀ pre x, pre.length < N → YSpec Try.prog l [.v (kU x) 0] (J pre) (J (pre ++ [x]))) → FSpec Try.prog gf (.v (.func (.yield l) #[] #[]) 0 :: caps) [.ext B, .ext (J [])] fun _ cs' => ∃ ys, T ys ∧ cs' = [.ext B, .ext (J ys)]) :
    FSpec Try.prog 36 [.fn gf caps] [.ext B] fun a cs' => ∃ v ys, T ys ∧ a = .row v 1 ∧ cs' = [.ext B, rowL v (sortL ys)] := by
  refine a_enter hT [.fn gf caps] [50] Try.func36 rfl rfl rfl (Fits.refl _) fun c => ?_
  refine a_call hT rfl rfl rfl (by kernel_rfl) (collect_spec (h := 0) hN hb hit) [50] [50, 1] rfl rfl ?_
  rintro _ _ ⟨v, ys, hT1, rfl, rfl⟩
  refine a_rowfact 1 rfl rfl fun hf => ?_
  have hf : (v = .slice none 0 0 ∧ ys = []) ∨ ∃ g cap, v = .slice (some ⟨g, 0, none⟩) ys.length cap := by
    rcases hf with ⟨h1, h2⟩ | ⟨g, cap, h1⟩
    · exact .inl ⟨h1, by simpa using h2⟩
    · exact .inr ⟨g, cap, by rw [h1]; simp⟩
  refine a_call hT rfl rfl rfl (by kernel_rfl) (sort_spec (h := 1) hf (hl ys hT1)) [1] [1] rfl rfl ?_
  rintro _ _ rfl
  refine a_ret hT [50, 1] rfl rfl rfl rfl rfl rfl ?_
  exact ⟨v, ys, hT1, rfl, rfl⟩
theorem keys_spec {h r : Nat} {L : List (Int × Nat)} : FSpec Try.prog 37 [.v (.map (some r)) h] [.map r (mapG kU bV40 L)] fun a cs => ∃ gb, a = .fn 58 [.v (.pointer (some ⟨gb, 0, none⟩)) 10] ∧ cs = [mBlk gb r, .map r (mapG kU bV40 L)] := by
  refine a_enter hT [.v (.map (some r)) 11] [11] Try.func37 rfl rfl rfl ⟨rfl, trivial⟩ fun c => ?_
  refine a_box hT 10 rfl rfl rfl rfl fun g => ?_
  refine a_ret hT [10, 11] rfl rfl rfl rfl rfl rfl ?_
  exact ⟨g, rfl, rfl⟩
theorem keys_hit {gb r : Nat} {L : List (Int × Nat)} : ∀ l (J : List Int → Asrt), (∀ pre x, pre.length < L.length → YSpec Try.prog l [.v (kU x) 0] (J pre) (J (pre ++ [x]))) → FSpec Try.prog 58 (.v (.func (.yield l) #[] #[]) 0 :: [.v (.pointer (some ⟨gb, 0, none⟩)) 10]) [.ext (listA [mBlk gb r, .map r (mapG kU bV40 L)]), .ext (J [])]
    fun _ cs' => ∃ ys : List Int, ys.Perm (L.map (·.1)) ∧ cs' = [.ext (listA [mBlk gb r, .map r (mapG kU bV40 L)]), .ext (J ys)] := by
  intro l J hY
  refine FSpec.ent (cs' := [mBlk gb r, .map r (mapG kU bV40 L), .ext (J [])]) ((keys1_spec fun pre x _ hl => hY pre x hl).weak ?_) (Ent.app (b := [.ext (J [])]) (b' := [.ext (J [])]) (ent_open [mBlk gb r, .map r (mapG kU bV40 L)]) (Ent.refl _))
  rintro a cs ⟨ys, hp, rfl⟩
  exact ⟨a, [.ext (listA [mBlk gb r, .map r (mapG kU bV40 L)]), .ext (J ys)], [], Fit.refl _, by rw [List.append_nil]; exact Ent.app (b := [.ext (J ys)]) (b' := [.ext (J ys)]) (ent_shut [mBlk gb r, .map r (mapG kU bV40 L)]) (Ent.refl _), ys, hp, rfl⟩
theorem copen_spec {g h : Nat} {C : CS} (hC : C.ok) (h16 : C.calls.length ≤ 16) : FSpec Try.prog 16 [ptrA g h] [.ext (cliA g C)] fun a cs => ∃ C', (C' = C ∧ a = .d (.sl 1 ((C.calls.map (·.tok)).map eU))) ∧ cs = [.ext (cliA g C')] := by
  refine cl_spec (R := fun a C' => C' = C ∧ a = .d (.sl 1 ((C.calls.map (·.tok)).map eU))) fun y hy => ?_
  have hn0 := hC.n0
  refine a_enter hT [ptrA g 10] [10, 11, 14, 13] Try.func16 rfl rfl rfl ⟨rfl, trivial⟩ fun c => ?_
  refine a_callZ hT rfl rfl rfl (by kernel_rfl) none_spec [10] [] [] rfl rfl rfl ⟨rfl, trivial⟩ trivial (by rintro _ _ ⟨rfl, rfl⟩; exact ⟨inferInstance, inferInstance⟩) ?_
  rintro _ _ ⟨rfl, rfl⟩
  refine a_if hT rfl rfl (fun h1 => ?_) (fun h1 => ?_)
  · have h1 := eq_of_beq h1
    (exfalso; first | omega | contradiction)
  · have h1 := ne_of_beq_false h1
    refine a_call hT rfl rfl rfl (by kernel_rfl) (keys_spec (r := y.gm) (h := 11) (L := cmap y.L)) [11] [20, 11] rfl rfl ?_
    rintro _ _ ⟨gb, rfl, rfl⟩
    refine a_ent [20, 11] [50] [.ext (listA [mBlk gb y.gm, .map y.gm (mapG kU bV40 (cmap y.L))])] rfl rfl (ent_shut [mBlk gb y.gm, .map y.gm (mapG kU bV40 (cmap y.L))]) ?_
    have hk : (cmap y.L).map (·.1) = C.calls.map (·.tok) := by unfold cmap; rw [List.map_map, ← toks hy]; rfl
    have hkl : (cmap y.L).length = C.calls.length := by rw [← List.length_map (f := fun p : Int × Nat => p.1), hk, List.length_map]
    refine a_call hT rfl rfl rfl (by kernel_rfl) (sorted_spec (h := 0) (N := (cmap y.L).length) (T := fun ys => ys.Perm ((cmap y.L).map (·.1))) (by omega) (by kernel_rfl) (fun ys hp => by rw [hp.length_eq, List.length_map]; omega) keys_hit) [50] [50, 1] rfl rfl ?_
    rintro _ _ ⟨v, ys, hp, rfl, rfl⟩
    have hsl : sortL ys = C.calls.map (·.tok) := sortL_of (by rw [← hk]; exact hp.symm) hC.s
    rw [hsl]
    refine a_ent [50] [20, 11] [mBlk gb y.gm, .map y.gm (mapG kU bV40 (cmap y.L))] rfl rfl (ent_open [mBlk gb y.gm, .map y.gm (mapG kU bV40 (cmap y.L))]) ?_
    refine a_freeze 10 1 rfl rfl rfl rfl ?_
    refine a_ret hT [10, 11, 14, 13] rfl rfl rfl rfl rfl rfl ?_
    exact ⟨_, CX.cs g C y, C, Fit.refl _, Ent.refl _, cl_pack hy, rfl, rfl⟩
end Go.Proofs.Ytepjnmocepkfjaa
end

section
/- ClientOnce: the walk and what it computes. -/
set_option linter.unusedVariables false
set_option linter.unusedSimpArgs false
set_option maxRecDepth 100000
set_option maxHeartbeats 4000000
namespace Go.Proofs.Ytepjnmocepkfjaa
open V A
structure WO where
  i : Nat
  C : CS
  dn : List Int
  v : Value
structure WO.ok (l : List COp) (x : WO) : Prop where
  i : x.i ≤ l.length
  c : x.C.ok
  n : x.C.num = 1
  l : x.C.last ≤ x.i
  q : x.C.calls.length ≤ 16
  d : ∀ t ∈ x.dn, t ≤ x.C.last ∧ t ∉ x.C.calls.map (·.tok)
  s : (x.dn.length : Int) + x.C.calls.length = x.C.last
structure OX where
  C : CS
  ev : List Evt
structure OX.ok (i : Nat) (dn : List Int) (x : OX) : Prop where
  c : x.C.ok
  n : x.C.num = 1
  l : x.C.last ≤ i + 1
  q : x.C.calls.length ≤ 16
  d : ∀ t ∈ dn, t ≤ x.C.last ∧ t ∉ x.C.calls.map (·.tok)
  e : ∀ e ∈ x.ev, e.kind = 3 ∧ 1 ≤ e.token ∧ e.token ≤ x.C.last ∧ e.token ∉ dn ∧ e.token ∉ x.C.calls.map (·.tok)
  u : (x.ev.map (·.token)).Nodup
  s : (dn.length : Int) + x.ev.length + x.C.calls.length = x.C.last
  m : x.ev.length ≤ 16
theorem ox_of {i : Nat} {dn : List Int} {C C' : CS} {ev : List Evt} (hC : C.ok) (h1 : C.last ≤ i) (h2 : C.calls.length ≤ 16) (hd : ∀ t ∈ dn, t ≤ C.last ∧ t ∉ C.calls.map (·.tok)) (hs : (dn.length : Int) + C.calls.length = C.last) (he : EvI C C' ev) (k1 : C'.ok) (k2 : C'.num = 1) (k3 : C'.last = C.last) : OX.ok i dn ⟨C', ev⟩ := by
  have hl := he.l
  refine ⟨k1, k2, by show C'.last ≤ (i : Int) + 1; omega, by show C'.calls.length ≤ 16; omega, fun t ht => ⟨by show t ≤ C'.last; rw [k3]; exact (hd t ht).1, fun hm => (hd t ht).2 (he.s t hm)⟩, fun e hq => ?_, he.n, by show (dn.length : Int) + ev.length + C'.calls.length = C'.last; omega, by show ev.length ≤ 16; omega⟩
  obtain ⟨a1, a2⟩ := he.k e hq
  obtain ⟨x, hx, hxe⟩ := List.mem_map.1 a2
  have hxo := hC.c x hx
  have t1 := hxo.t1
  have t2 := hxo.t2
  have hxe : x.tok = e.token := hxe
  exact ⟨a1, by omega, by show e.token ≤ C'.last; omega, fun hm => (hd _ hm).2 a2, he.o e hq⟩
theorem call_split (C : CS) (meth : Int) (arg : List UInt8) (dl now : Int) : ((callP C meth arg dl now).2.2.2 = 0 ∧ (callP C meth arg dl now).1.last = C.last + 1 ∧ (callP C meth arg dl now).2.1.kind = 1 ∧ (callP C meth arg dl now).2.1.token = C.last + 1 ∧ (callP C meth arg dl now).2.2.1.token = C.last + 1 ∧ (callP C meth arg dl now).2.2.1.kind = 1 ∧ ∃ x : CP, x.tok = C.last + 1 ∧ (callP C meth arg dl now).1.calls = C.calls ++ [x]) ∨
    ((callP C meth arg dl now).2.2.2 ≠ 0 ∧ (callP C meth arg dl now).1 = C) := by
  unfold callP
  split
  · exact .inr ⟨show (1 : Int) ≠ 0 by decide, rfl⟩
  split
  · exact .inr ⟨show (3 : Int) ≠ 0 by decide, rfl⟩
  split
  · exact .inr ⟨show (14 : Int) ≠ 0 by decide, rfl⟩
  · exact .inl ⟨rfl, rfl, rfl, rfl, rfl, rfl, _, rfl, rfl⟩
theorem ox_call {i : Nat} {dn : List Int} {C : CS} {meth : Int} {arg : List UInt8} {dl now : Int} (hC : C.ok) (hl0 : 0 ≤ C.last) (h1 : C.last ≤ i) (h2 : C.calls.length ≤ 16) (hd : ∀ t ∈ dn, t ≤ C.last ∧ t ∉ C.calls.map (·.tok)) (hs : (dn.length : Int) + C.calls.length = C.last) (hl : C.last < 900000) (hn : C.num = 1)
    (hcs : (callP C meth arg dl now).2.2.2 = 0 ∧ (callP C meth arg dl now).1.last = C.last + 1 ∧ (callP C meth arg dl now).2.1.kind = 1 ∧ (callP C meth arg dl now).2.1.token = C.last + 1 ∧ (callP C meth arg dl now).2.2.1.token = C.last + 1 ∧ (callP C meth arg dl now).2.2.1.kind = 1 ∧ ∃ x : CP, x.tok = C.last + 1 ∧ (callP C meth arg dl now).1.calls = C.calls ++ [x]) : OX.ok i dn ⟨(callP C meth arg dl now).1, []⟩ := by
  obtain ⟨_, k1, _, _, _, _, x, k2, k3⟩ := hcs
  have k4 := callP_ok hC hl meth arg dl now
  have k5 := call_len hC h2 meth arg dl now
  refine ⟨k4.1, by rw [← hn]; exact k4.2.2, by show (callP C meth arg dl now).1.last ≤ (i : Int) + 1; omega, k5, fun t ht => ⟨by show t ≤ (callP C meth arg dl now).1.last; have := (hd t ht).1; omega, ?_⟩, by simp, by simp, ?_, by simp⟩
  · show t ∉ (callP C meth arg dl now).1.calls.map (·.tok)
    rw [k3, List.map_append]
    intro hm
    rcases List.mem_append.1 hm with hm | hm
    · exact (hd t ht).2 hm
    · simp at hm
      have := (hd t ht).1
      omega
  · show (dn.length : Int) + (0 : Nat) + ((callP C meth arg dl now).1.calls.length : Int) = (callP C meth arg dl now).1.last
    rw [k3, k1, List.length_append]
    simp only [List.length_cons, List.length_nil]
    omega
theorem clientOnce_spec {l : List COp} (hl : l.length ≤ reachBytes) (hok : ∀ o ∈ l, o.ok) : FSpec Try.prog 6 [scrD l] [] fun a _ => a = .v (.bool true) 0 := by
  refine a_enter hT [scrD l] [] Try.func6 rfl rfl rfl ⟨rfl, trivial⟩ fun c => ?_
  refine a_call hT rfl rfl rfl (by kernel_rfl) cawake_spec [] [] rfl rfl ?_
  rintro _ _ ⟨rfl, rfl⟩
  refine a_gf hT rfl rfl rfl rfl ?_
  refine a_call hT rfl rfl rfl (by kernel_rfl) (few_spec hl hok) [] [] rfl rfl ?_
  rintro _ _ ⟨b, hb, rfl, rfl⟩
  cases b with
  | false =>
    refine a_t hT rfl rfl rfl ?_
    refine a_call hT rfl rfl rfl (by kernel_rfl) cawake_spec [] [] rfl rfl ?_
    rintro _ _ ⟨rfl, rfl⟩
    exact a_ret hT [] rfl rfl rfl rfl rfl rfl rfl
  | true =>
    obtain ⟨hl3, hb2⟩ := hb rfl
    refine a_f hT rfl rfl rfl ?_
    refine a_call hT rfl rfl rfl (by kernel_rfl) (cnew_spec (num := 1) (h := 0) (by omega) (by omega)) [] [10] rfl rfl ?_
    rintro _ _ ⟨g, rfl, rfl⟩
    refine a_run hT 9 rfl rfl ?_
    refine a_nilrow 4 30 25 1 rfl rfl ?_
    refine a_loop hT [0, 3, 4, 5, 29, 30] (fun x : WO => [scrD l, ptrA g 10, .row x.v 30, .v (kU x.C.last) 0, nI l.length, nI x.i]) (fun x => [(10, .ext (cliA g x.C)), (30, rowL x.v x.dn)]) (WO.ok l) (fun x => l.length - x.i) ⟨0, ⟨1, 0, []⟩, [], .slice none 0 0⟩ [10, 30] rfl rfl ⟨Nat.zero_le _, CS.ok.zero (by decide), rfl, by simp, by simp, by simp, by simp⟩ ⟨rfl, rfl, rfl, rfl, by show Value.int .i64 ((l.map COp.d).length : Int) = .int .i64 (l.length : Int); rw [List.length_map], rfl, trivial⟩ rfl ⟨rfl, ⟨rfl, rfl, rfl, rfl⟩, trivial⟩ ?_
    rintro ⟨i, C, dn, v4⟩ ⟨h1, hC, hn, hla, hq, hdn, hsum⟩
    dsimp only at h1 hC hn hla hq hdn hsum ⊢
    have hl0 := hC.l0
    refine a_if hT rfl rfl (fun hi => ?_) (fun hi => ?_)
    rotate_left
    · have hi : ¬ (i : Int) < l.length := of_decide_eq_false hi
      have hwl : IntKind.i64.wrap C.last = C.last := w64 (by omega) (by omega)
      refine a_call hT rfl rfl rfl (by kernel_rfl) (copen_spec (g := g) (h := 10) hC hq) [10] [10] rfl rfl ?_
      rintro _ _ ⟨C', ⟨rfl, rfl⟩, rfl⟩
      refine a_ret hT [] rfl rfl rfl rfl rfl rfl ?_
      have e1 : (((C'.calls.map (·.tok)).map eU).length : Int) = C'.calls.length := by simp
      have e2 : ((dn.map eU).length : Int) = dn.length := by simp
      show AV.v (.bool (IntKind.i64.wrap ((((C'.calls.map (·.tok)).map eU).length : Int) + ((dn.map eU).length : Int)) == IntKind.i64.wrap C'.last)) 0 = _
      rw [e1, e2, show ((C'.calls.length : Int) + dn.length) = C'.last by omega]
      simp
    have hi' : i < l.length := by
      have : (i : Int) < l.length := of_decide_eq_true hi
      omega
    have hd : (l.map COp.d)[((i : Nat) : Int).toNat]? = some (COp.d l[i]) := by simp [hi']
    have ho := hok l[i] (List.getElem_mem hi')
    have hob := hb2 l[i] (List.getElem_mem hi')
    generalize l[i] = o at hd ho hob
    have hnx : IntKind.i64.wrap ((i : Int) + 1) = ((i + 1 : Nat) : Int) := by rw [w64 (by omega) (by omega)]; rfl
    have hwu : IntKind.u64.wrap (C.last + 1) = C.last + 1 := wrapU (by omega) (by omega)
    refine a_ix hT (COp.d o) rfl rfl rfl rfl rfl rfl (by omega) hd ?_
    refine a_new hT hZ 31 rfl rfl rfl rfl fun g1 => ?_
    refine a_cutK hT [0, 3, 4, 5, 8, 29, 30] (fun x : OX => [scrD l, ptrA g 10, .row v4 30, .v (kU x.C.last) 0, .d (evsD x.ev), nI l.length, nI i]) (fun x => [(10, .ext (cliA g x.C)), (30, rowL v4 dn)]) (OX.ok i dn) 15 rfl rfl ?_ ?_
    · refine a_if hT rfl rfl (fun h => ?_) (fun h => ?_)
      · have h := eq_of_beq h
        refine a_call hT rfl rfl rfl (by kernel_rfl) (ccall_spec (g := g) (h := 10) (h1 := 0) (h2 := 0) (h3 := 0) (C := C) (meth := o.method) (dl := o.deadline) (now := o.now) (arg := o.bytes) hC (show o.bytes.length ≤ lim from Nat.le_trans hob.1 (by decide)) (by omega)) [10] [10] rfl rfl ?_
        rintro _ _ ⟨C', ⟨rfl, rfl⟩, rfl⟩
        refine a_new hT hZ 32 rfl rfl rfl rfl fun g2 => ?_
        refine a_new hT hZ 33 rfl rfl rfl rfl fun g3 => ?_
        refine a_if hT rfl rfl (fun h2 => ?_) (fun h2 => ?_)
        · have h2 := eq_of_beq h2
          have hcs := (call_split C o.method o.bytes o.deadline o.now).resolve_right fun h => h.1 h2
          refine a_g hT rfl rfl rfl (fun h3 => ?_) (fun h3 => ?_)
          · have h3 := bne_iff_ne.1 h3
            refine a_gt hT rfl rfl rfl rfl ?_
            refine a_gt hT rfl rfl rfl rfl ?_
            refine a_t hT rfl rfl rfl ?_
            refine a_ret hT [] rfl rfl rfl rfl rfl rfl ?_
            exact absurd hcs.2.2.1 h3
          · simp at h3
            refine a_g hT rfl rfl rfl (fun h4 => ?_) (fun h4 => ?_)
            · have h4 := bne_iff_ne.1 h4
              refine a_gt hT rfl rfl rfl rfl ?_
              refine a_t hT rfl rfl rfl ?_
              refine a_ret hT [] rfl rfl rfl rfl rfl rfl ?_
              exact absurd (by rw [hcs.2.2.2.1, hwu]) h4
            · simp at h4
              refine a_g hT rfl rfl rfl (fun h5 => ?_) (fun h5 => ?_)
              · have h5 := bne_iff_ne.1 h5
                refine a_t hT rfl rfl rfl ?_
                refine a_ret hT [] rfl rfl rfl rfl rfl rfl ?_
                exact absurd (by rw [hcs.2.2.2.2.1, hwu]) h5
              · simp at h5
                refine a_if hT rfl rfl (fun h6 => ?_) (fun h6 => ?_)
                · have h6 := bne_iff_ne.1 h6
                  refine a_ret hT [] rfl rfl rfl rfl rfl rfl ?_
                  exact absurd hcs.2.2.2.2.2.1 h6
                · simp at h6
                  exact a_next hT (OX.mk (callP C o.method o.bytes o.deadline o.now).1 []) [10, 30] rfl rfl (ox_call hC hl0 hla hq hdn hsum (by omega) hn hcs) ⟨rfl, rfl, rfl, by show Value.int .u64 _ = Value.int .u64 _; rw [hwu, hcs.2.1], ⟨rfl, rfl⟩, rfl, rfl, trivial⟩ rfl ⟨rfl, ⟨rfl, rfl, rfl, rfl⟩, trivial⟩
        · have h2 := ne_of_beq_false h2
          have hc0 := (call_split C o.method o.bytes o.deadline o.now).resolve_left fun h => h2 h.1
          exact a_next hT (OX.mk (callP C o.method o.bytes o.deadline o.now).1 []) [10, 30] rfl rfl (by rw [hc0.2]; exact ox_of hC hla hq hdn hsum (EvI.refl C) hC hn rfl) ⟨rfl, rfl, rfl, by rw [hc0.2]; rfl, ⟨rfl, rfl⟩, rfl, rfl, trivial⟩ rfl ⟨rfl, ⟨rfl, rfl, rfl, rfl⟩, trivial⟩
      · have h := ne_of_beq_false h
        refine a_if hT rfl rfl (fun h2 => ?_) (fun h2 => ?_)
        · have h2 := eq_of_beq h2
          refine a_call hT rfl rfl rfl (by kernel_rfl) (ccancel_spec (g := g) (h := 10) (h1 := 0) (h2 := 0) (C := C) (t := o.token) (now := o.now) hC (by omega)) [10] [10] rfl rfl ?_
          rintro _ _ ⟨C', ⟨rfl, rfl⟩, rfl⟩
          refine a_new hT hZ 32 rfl rfl rfl rfl fun g2 => ?_
          refine a_new hT hZ 33 rfl rfl rfl rfl fun g3 => ?_
          refine a_if hT rfl rfl (fun h3 => ?_) (fun h3 => ?_)
          · refine a_lit hT 34 rfl rfl rfl rfl (by kernel_rfl) rfl rfl rfl rfl fun x34 => ?_
            have k1 := cancelP_ok hC o.token
            have k2 := cancel_evi hC o.token
            rw [if_pos h3] at k2
            refine a_nilrow 92 35 28 6 rfl rfl ?_
            refine a_app hT 35 [evD (cancelP C o.token).2.1] rfl rfl rfl rfl (by kernel_rfl) rfl rfl rfl rfl rfl rfl (by simp; unfold lim; omega) fun v' => ?_
            refine a_freeze 95 35 rfl rfl rfl rfl ?_
            exact a_next hT (OX.mk (cancelP C o.token).1 [(cancelP C o.token).2.1]) [10, 30] rfl rfl (ox_of hC hla hq hdn hsum k2 k1.1 (by rw [← hn]; exact k1.2.2) k1.2.1) ⟨rfl, rfl, rfl, by rw [k1.2.1]; rfl, rfl, rfl, rfl, trivial⟩ rfl ⟨rfl, ⟨rfl, rfl, rfl, rfl⟩, trivial⟩
          · have k1 := cancelP_ok hC o.token
            have k2 := cancel_evi hC o.token
            rw [if_neg (by rw [h3]; decide)] at k2
            exact a_next hT (OX.mk (cancelP C o.token).1 []) [10, 30] rfl rfl (ox_of hC hla hq hdn hsum k2 k1.1 (by rw [← hn]; exact k1.2.2) k1.2.1) ⟨rfl, rfl, rfl, by rw [k1.2.1]; rfl, ⟨rfl, rfl⟩, rfl, rfl, trivial⟩ rfl ⟨rfl, ⟨rfl, rfl, rfl, rfl⟩, trivial⟩
        · have h2 := ne_of_beq_false h2
          refine a_if hT rfl rfl (fun h3 => ?_) (fun h3 => ?_)
          · have h3 := eq_of_beq h3
            refine a_call hT rfl rfl rfl (by kernel_rfl) (ctake_spec (g := g) (h := 10) (C := C) (f := o.f) hC (by omega) (show o.f.pay.length ≤ lim from Nat.le_trans hob.2 (by decide))) [10] [10] rfl rfl ?_
            rintro _ _ ⟨C', ⟨rfl, rfl⟩, rfl⟩
            refine a_new hT hZ 32 rfl rfl rfl rfl fun g2 => ?_
            refine a_if hT rfl rfl (fun h4 => ?_) (fun h4 => ?_)
            · refine a_lit hT 33 rfl rfl rfl rfl (by kernel_rfl) rfl rfl rfl rfl fun x33 => ?_
              have k1 := takeP_ok hC o.f
              have k2 := take_evi hC o.f
              rw [if_pos h4] at k2
              refine a_nilrow 106 35 28 6 rfl rfl ?_
              refine a_app hT 35 [evD (takeP C o.f).2.1] rfl rfl rfl rfl (by kernel_rfl) rfl rfl rfl rfl rfl rfl (by simp; unfold lim; omega) fun v' => ?_
              refine a_freeze 109 35 rfl rfl rfl rfl ?_
              exact a_next hT (OX.mk (takeP C o.f).1 [(takeP C o.f).2.1]) [10, 30] rfl rfl (ox_of hC hla hq hdn hsum k2 k1.1 (by rw [← hn]; exact k1.2.2) k1.2.1) ⟨rfl, rfl, rfl, by rw [k1.2.1]; rfl, rfl, rfl, rfl, trivial⟩ rfl ⟨rfl, ⟨rfl, rfl, rfl, rfl⟩, trivial⟩
            · have k1 := takeP_ok hC o.f
              have k2 := take_evi hC o.f
              rw [if_neg (by rw [h4]; decide)] at k2
              exact a_next hT (OX.mk (takeP C o.f).1 []) [10, 30] rfl rfl (ox_of hC hla hq hdn hsum k2 k1.1 (by rw [← hn]; exact k1.2.2) k1.2.1) ⟨rfl, rfl, rfl, by rw [k1.2.1]; rfl, ⟨rfl, rfl⟩, rfl, rfl, trivial⟩ rfl ⟨rfl, ⟨rfl, rfl, rfl, rfl⟩, trivial⟩
          · have h3 := ne_of_beq_false h3
            refine a_if hT rfl rfl (fun h4 => ?_) (fun h4 => ?_)
            · have h4 := eq_of_beq h4
              refine a_call hT rfl rfl rfl (by kernel_rfl) (ctick_spec (g := g) (h := 10) (h1 := 0) (C := C) (now := o.now) hC (by omega) hq) [10] [10] rfl rfl ?_
              rintro _ _ ⟨C', ⟨rfl, rfl⟩, rfl⟩
              have k1 := tickP_ok hC o.now
              exact a_next hT (OX.mk (tickP C o.now).1 (tickP C o.now).2.1) [10, 30] rfl rfl (ox_of hC hla hq hdn hsum (tick_evi hC o.now) k1.1 (by rw [← hn]; exact k1.2.2.1) k1.2.1) ⟨rfl, rfl, rfl, by rw [k1.2.1]; rfl, rfl, rfl, rfl, trivial⟩ rfl ⟨rfl, ⟨rfl, rfl, rfl, rfl⟩, trivial⟩
            · have h4 := ne_of_beq_false h4
              exact a_next hT (OX.mk C []) [10, 30] rfl rfl (ox_of hC hla hq hdn hsum (EvI.refl C) hC hn rfl) ⟨rfl, rfl, rfl, rfl, ⟨rfl, rfl⟩, rfl, rfl, trivial⟩ rfl ⟨rfl, ⟨rfl, rfl, rfl, rfl⟩, trivial⟩
    rintro ⟨C2, evs⟩ ⟨g1, g2, g3, g4, g5, g6, g7, g8, g9⟩
    dsimp only at g1 g2 g3 g4 g5 g6 g7 g8 g9 ⊢
    have hl2 := g1.l0
    refine a_loop hT [0, 3, 4, 5, 8, 29, 30, 120, 121] (fun x : Nat × List Int × Value => [scrD l, ptrA g 10, .row x.2.2 30, .v (kU C2.last) 0, .d (evsD evs), nI l.length, nI i, nI evs.length, nI x.1]) (fun x => [(10, .ext (cliA g C2)), (30, rowL x.2.2 x.2.1)]) (fun x => x.1 ≤ evs.length ∧ x.2.1 = dn ++ (evs.take x.1).map (·.token)) (fun x => evs.length - x.1) (0, dn, v4) [10, 30] rfl rfl ⟨Nat.zero_le _, by simp⟩ ⟨rfl, rfl, rfl, rfl, rfl, rfl, rfl, by show Value.int .i64 ((evs.map evD).length : Int) = .int .i64 (evs.length : Int); rw [List.length_map], rfl, trivial⟩ rfl ⟨rfl, ⟨rfl, rfl, rfl, rfl⟩, trivial⟩ ?_
    rintro ⟨k, d2, v2⟩ ⟨hk, hd2⟩
    dsimp only at hk hd2 ⊢
    have hd2l : d2.length = dn.length + k := by rw [hd2, List.length_append, List.length_map, List.length_take]; omega
    refine a_if hT rfl rfl (fun h5 => ?_) (fun h5 => ?_)
    · have h5 := of_decide_eq_true h5
      have h5 : (k : Int) < (evs.length : Int) := h5
      have hk1 : k < evs.length := by omega
      obtain ⟨e, he⟩ : ∃ e, evs[k] = e := ⟨_, rfl⟩
      have hde : (evs.map evD)[((k : Nat) : Int).toNat]? = some (evD e) := by simp [hk1, he]
      obtain ⟨e1, e2, e3, e4, e5⟩ := g6 e (by rw [← he]; exact List.getElem_mem _)
      have hnk : IntKind.i64.wrap ((k : Int) + 1) = ((k + 1 : Nat) : Int) := by rw [w64 (by omega) (by omega)]; rfl
      have hnd : e.token ∉ d2 := by
        rw [hd2, List.mem_append]
        rintro (h | h)
        · exact e4 h
        · obtain ⟨q, hq, hqe⟩ := List.mem_map.1 h
          obtain ⟨n, hn1, hn2⟩ := List.mem_take_iff_getElem.1 hq
          have hu := List.pairwise_iff_getElem.1 g7 n k (by simp; omega) (by simpa using hk1) (by omega)
          apply hu
          rw [List.getElem_map, List.getElem_map, he, hn2]
          exact hqe
      have htk : d2 ++ [e.token] = dn ++ (evs.take (k + 1)).map (·.token) := by rw [take_one hk1 he, List.map_append, hd2, List.append_assoc]; rfl
      refine a_loop hT [0, 3, 4, 5, 8, 17, 29, 30, 120, 121, 125, 126] (fun j : Nat => [scrD l, ptrA g 10, .row v2 30, .v (kU C2.last) 0, .d (evsD evs), nI k, nI l.length, nI i, nI evs.length, nI k, nI d2.length, nI j]) (fun _ => [(10, .ext (cliA g C2)), (30, rowL v2 d2)]) (fun j => j ≤ d2.length) (fun j => d2.length - j) 0 [10, 30] rfl rfl (Nat.zero_le _) ⟨rfl, rfl, rfl, rfl, rfl, rfl, rfl, rfl, rfl, rfl, by show Value.int .i64 ((d2.map eU).length : Int) = .int .i64 (d2.length : Int); rw [List.length_map], rfl, trivial⟩ rfl ⟨rfl, ⟨rfl, rfl, rfl, rfl⟩, trivial⟩ ?_
      intro j hj
      refine a_rowfact 30 rfl rfl fun hf => ?_
      refine a_if hT rfl rfl (fun h6 => ?_) (fun h6 => ?_)
      · have h6 := of_decide_eq_true h6
        have h6 : (j : Int) < (d2.length : Int) := h6
        have hj1 : j < d2.length := by omega
        obtain ⟨t, ht⟩ : ∃ t, d2[j] = t := ⟨_, rfl⟩
        have hgt : (d2.map eU)[j]? = some (eU t) := by rw [List.getElem?_map, List.getElem?_eq_getElem hj1, ht]; rfl
        have htm : t ∈ d2 := by rw [← ht]; exact List.getElem_mem _
        have hnj : IntKind.i64.wrap ((j : Int) + 1) = ((j + 1 : Nat) : Int) := by rw [w64 (by omega) (by omega)]; rfl
        rcases hf with ⟨_, h⟩ | ⟨gr, capr, rfl⟩
        · have : d2 = [] := by simpa using h
          rw [this] at hj1
          simp at hj1
        refine a_draw hT [] false [(0, false), (1, false), (2, false), (3, false), (4, false), (5, false), (6, false), (7, false), (8, false), (9, true)] rfl rfl (by kernel_rfl) (by kernel_rfl) rfl ?_
        have htne : t ≠ e.token := fun h => hnd (h ▸ htm)
        refine a_rix hT j rfl rfl rfl rfl rfl rfl rfl (by rw [List.length_map]; exact hj1) ?_
        refine a_rldP hT j 0 (eU t) (.d (.v (kU t))) rfl rfl rfl rfl rfl rfl (by omega) hgt rfl ?_
        refine a_ix hT (evD e) rfl rfl rfl rfl rfl rfl (by omega) hde ?_
        refine a_f hT rfl rfl (by show (t == e.token) = false; simpa using htne) ?_
        exact a_next hT (j + 1) [10, 30] rfl rfl ⟨by show j + 1 ≤ d2.length; omega, by show d2.length - (j + 1) < d2.length - j; omega⟩ ⟨rfl, rfl, rfl, rfl, rfl, rfl, rfl, rfl, rfl, rfl, rfl, by show Value.int .i64 _ = Value.int .i64 _; rw [hnj], trivial⟩ rfl ⟨rfl, ⟨rfl, rfl, rfl, rfl⟩, trivial⟩
      · have h6 := of_decide_eq_false h6
        refine a_ix hT _ rfl rfl rfl rfl rfl rfl (by first | omega | assumption) (by first | assumption | rfl) ?_
        refine a_g hT rfl rfl rfl (fun h => ?_) (fun h => ?_)
        · have h := bne_iff_ne.1 h
          (exfalso; first | omega | contradiction)
        · simp at h
          refine a_ix hT _ rfl rfl rfl rfl rfl rfl (by first | omega | assumption) (by first | assumption | rfl) ?_
          refine a_g hT rfl rfl rfl (fun h2 => ?_) (fun h2 => ?_)
          · have h2 := of_decide_eq_true h2
            (exfalso; first | omega | contradiction)
          · have h2 := of_decide_eq_false h2
            refine a_ix hT _ rfl rfl rfl rfl rfl rfl (by first | omega | assumption) (by first | assumption | rfl) ?_
            refine a_if hT rfl rfl (fun h3 => ?_) (fun h3 => ?_)
            · have h3 := of_decide_eq_true h3
              (exfalso; first | omega | contradiction)
            · have h3 := of_decide_eq_false h3
              refine a_ix hT _ rfl rfl rfl rfl rfl rfl (by first | omega | assumption) (by first | assumption | rfl) ?_
              refine a_lit hT 31 rfl rfl rfl rfl (by kernel_rfl) rfl rfl rfl rfl fun x31 => ?_
              refine a_app hT 30 ((d2 ++ [e.token]).map eU) rfl rfl rfl rfl (by kernel_rfl) rfl rfl rfl rfl rfl (by rw [List.map_append]; rfl) (by simp; unfold lim; omega) fun v' => ?_
              exact a_next hT (k + 1, d2 ++ [e.token], v') [10, 30] rfl rfl ⟨⟨by show k + 1 ≤ evs.length; omega, htk⟩, by show evs.length - (k + 1) < evs.length - k; omega⟩ ⟨rfl, rfl, rfl, rfl, rfl, rfl, rfl, rfl, by show Value.int .i64 _ = Value.int .i64 _; rw [hnk], trivial⟩ rfl ⟨rfl, ⟨rfl, rfl, rfl, rfl⟩, trivial⟩
    · have h5 := of_decide_eq_false h5
      have h5 : ¬ (k : Int) < (evs.length : Int) := h5
      have hke : k = evs.length := by omega
      rw [hke, List.take_length] at hd2
      exact a_next hT (WO.mk (i + 1) C2 d2 v2) [10, 30] rfl rfl ⟨⟨by show i + 1 ≤ l.length; omega, g1, g2, by show C2.last ≤ ((i + 1 : Nat) : Int); omega, g4, fun t ht => (by
        have ht : t ∈ d2 := ht
        rw [hd2] at ht
        rcases List.mem_append.1 ht with h | h
        · exact g5 t h
        · obtain ⟨q, hq, rfl⟩ := List.mem_map.1 h
          exact ⟨(g6 q hq).2.2.1, (g6 q hq).2.2.2.2⟩), by show (d2.length : Int) + C2.calls.length = C2.last; omega⟩, by show l.length - (i + 1) < l.length - i; omega⟩ ⟨rfl, rfl, rfl, rfl, rfl, by show Value.int .i64 _ = Value.int .i64 _; rw [hnx], trivial⟩ rfl ⟨rfl, ⟨rfl, rfl, rfl, rfl⟩, trivial⟩
theorem clientOnce_walk (W : World) (args : Array Value) (ha : ArgsOk Try.prog W [47] [[.sl [.int .i64, .int .i64, .int .u64, .int .i64, .int .i64, .sl [.int .u8], .int .i64, .int .i64, .int .u64, .int .i64, .int .u64, .int .i64, .int .i64, .int .i64, .sl [.int .u8]]]] args.toList) : Calls Try.prog 6 args W (LawR W) := by
  obtain ⟨v, rfl, h1⟩ := argv_one ha
  obtain ⟨l, hr, hl, hok⟩ := argA_many h1 (by kernel_rfl) (by simp) COp.d COp.ok cop_reads
  exact law_of (clientOnce_spec hl hok) (Reps.cons hr Reps.nil)
end Go.Proofs.Ytepjnmocepkfjaa
end
