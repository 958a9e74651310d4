/- Memory of one's own, told otherwise: packed, unpacked, one part taken out of many. It holds of any program. -/
import Derived.Test.YtepjnmocepkfjaaK
set_option linter.unusedVariables false
set_option linter.unusedSimpArgs false
namespace Go.Proofs.Ytepjnmocepkfjaa.A
open V

theorem HoldsL.ev {M M' N : Nat → Prop} {w w' : World} (he : Ev N w w') (hm : ∀ b, b < w.heap.size → N b ∨ M' b → M b) {cs : List Chunk} {S : Nat → Prop} (h : HoldsL M w cs S) (hN : ∀ b, S b → ¬ N b) : HoldsL M' w' cs S := Holds.ev he hm h hN
theorem HoldsL.append {M : Nat → Prop} {w : World} {a b : List Chunk} {S T U : Nat → Prop} (h1 : HoldsL M w a S) (h2 : HoldsL M w b T) (hd : ∀ b, S b → ¬ T b) (hU : ∀ b, U b ↔ S b ∨ T b) : HoldsL M w (a ++ b) U := by
  unfold HoldsL
  rw [List.map_append]
  exact Holds.append h1 h2 hd hU
theorem HoldsL.parts {M : Nat → Prop} {w : World} {a b : List Chunk} {U : Nat → Prop} (h : HoldsL M w (a ++ b) U) : ∃ S T : Nat → Prop, HoldsL M w a S ∧ HoldsL M w b T ∧ (∀ b, S b → ¬ T b) ∧ ∀ b, U b ↔ S b ∨ T b := by
  unfold HoldsL at h
  rw [List.map_append] at h
  exact Holds.parts h
theorem HoldsL.perm {M : Nat → Prop} {w : World} {a b : List Chunk} (hp : a.Perm b) : ∀ {S : Nat → Prop}, HoldsL M w a S → HoldsL M w b S := by
  induction hp with
  | nil => exact fun h => h
  | cons x _ ih => rintro S ⟨S1, S2, h1, h2, h3, h4⟩; exact ⟨S1, S2, h1, h2, h3, ih h4⟩
  | swap x y l =>
    rintro S ⟨S1, S2, h1, h2, h3, T1, T2, k1, k2, k3, k4⟩
    refine ⟨T1, fun b => S1 b ∨ T2 b, fun b => ?_, fun b hb h => h.elim (fun h => h2 b h ((k1 b).2 (.inl hb))) (k2 b hb), k3, S1, T2, fun b => Iff.rfl, fun b hb h => h2 b hb ((k1 b).2 (.inr h)), h3, k4⟩
    rw [h1 b, k1 b]
    constructor
    · rintro (h | h | h)
      · exact .inr (.inl h)
      · exact .inl h
      · exact .inr (.inr h)
    · rintro (h | h | h)
      · exact .inr (.inl h)
      · exact .inl h
      · exact .inr (.inr h)
  | trans _ _ ih1 ih2 => exact fun h => ih2 (ih1 h)

/-- Chunks, as one. -/
def listA (cs : List Chunk) : Asrt where
  h := fun M S w => HoldsL M w cs S
  ev := fun h he hN hm => HoldsL.ev he hm h hN
  lt := fun h => Holds.lt h
/-- Some such chunks. -/
def exA {X : Type} (φ : X → Prop) (f : X → List Chunk) : Asrt where
  h := fun M S w => ∃ x, φ x ∧ HoldsL M w (f x) S
  ev := fun ⟨x, hx, h⟩ he hN hm => ⟨x, hx, HoldsL.ev he hm h hN⟩
  lt := fun ⟨x, _, h⟩ => Holds.lt h
/-- Where these chunks are, those are. -/
def Ent (cs cs' : List Chunk) : Prop := ∀ M w S, HoldsL M w cs S → HoldsL M w cs' S
def EntX {X : Type} (cs : List Chunk) (φ : X → Prop) (f : X → List Chunk) : Prop := ∀ M w S, HoldsL M w cs S → ∃ x, φ x ∧ HoldsL M w (f x) S
theorem Ent.refl (cs : List Chunk) : Ent cs cs := fun _ _ _ h => h
theorem Ent.trans {a b c : List Chunk} (h1 : Ent a b) (h2 : Ent b c) : Ent a c := fun M w S h => h2 M w S (h1 M w S h)
theorem Ent.perm {a b : List Chunk} (h : a.Perm b) : Ent a b := fun _ _ _ k => k.perm h
theorem Ent.fits {a b : List Chunk} (h : CFits a b) : Ent a b := fun _ _ _ k => h.holds k
theorem Ent.cons (c : Chunk) {a b : List Chunk} (h : Ent a b) : Ent (c :: a) (c :: b) := fun M w S ⟨S1, S2, h1, h2, h3, h4⟩ => ⟨S1, S2, h1, h2, h3, h M w S2 h4⟩
theorem holds_one {M : Nat → Prop} {w : World} {c : Chunk} {S : Nat → Prop} : HoldsL M w [c] S ↔ CRep M w c S := by
  constructor
  · rintro ⟨S1, S2, h1, h2, h3, h4⟩
    exact h3.iff fun b => (h1 b).trans ⟨fun h => h.elim id fun h => absurd h (h4 b), .inl⟩
  · intro h
    exact ⟨S, no, fun b => ⟨.inl, fun h => h.elim id fun h => h.elim⟩, fun _ _ h => h, h, fun _ h => h⟩
theorem Ent.app {a a' b b' : List Chunk} (h1 : Ent a a') (h2 : Ent b b') : Ent (a ++ b) (a' ++ b') := fun M w S h => by
  obtain ⟨S1, S2, k1, k2, k3, k4⟩ := h.parts
  exact (h1 _ _ _ k1).append (h2 _ _ _ k2) k3 k4
theorem ent_open (cs : List Chunk) : Ent [.ext (listA cs)] cs := fun M w S h => holds_one.1 h
theorem ent_shut (cs : List Chunk) : Ent cs [.ext (listA cs)] := fun M w S h => holds_one.2 h
theorem ent_pack {X : Type} {φ : X → Prop} {f : X → List Chunk} (x : X) (hx : φ x) : Ent (f x) [.ext (exA φ f)] := fun M w S h => holds_one.2 ⟨x, hx, h⟩
theorem ent_unpack {X : Type} (φ : X → Prop) (f : X → List Chunk) : EntX [.ext (exA φ f)] φ f := fun M w S h => holds_one.1 h
/-- A part is taken out of many; the rest stays together. -/
theorem ent_focus (a c b : List Chunk) : Ent [.ext (listA (a ++ (c ++ b)))] (c ++ [.ext (listA (a ++ b))]) :=
  (ent_open _).trans ((Ent.perm ((List.perm_append_comm_assoc a c b))).trans (Ent.app (Ent.refl c) (ent_shut _)))
theorem ent_unfocus (a c b : List Chunk) : Ent (c ++ [.ext (listA (a ++ b))]) [.ext (listA (a ++ (c ++ b)))] :=
  (Ent.app (Ent.refl c) (ent_open _)).trans ((Ent.perm (List.perm_append_comm_assoc a c b).symm).trans (ent_shut _))

section
variable {P : Program} {n : Nat} {Q : Exit → Act → World → Prop} {c : Ctx} {s : AMS} {f : AEnv} {σ : Store}
/-- Memory told otherwise: of keys ks, then of ks'. -/
theorem a_ent (ks ks' : List Nat) {cs : List Chunk} {σr : Store} (cs' : List Chunk) (hst : s.still = true) (ht : takes σ ks = some (cs, σr)) (he : Ent cs cs') (hk : rekK ks' cs' σr fun σ1 => DenA c P n Q s f σ1) : DenA c P n Q s f σ := by
  rw [rekK_eq] at hk
  refine a_ghost hst (fun Y S w fc hdY hh henv => ?_) hk
  obtain ⟨S1, S2, h1, h2, hS, hdis⟩ := hh.takes ht
  exact ⟨S, ((he _ _ _ h1).zip ks').append h2 hdis hS, henv, fun b h => h⟩
theorem a_entX {X : Type} {φ : X → Prop} {g : X → List Chunk} (ks ks' : List Nat) {cs : List Chunk} {σr : Store} (hst : s.still = true) (ht : takes σ ks = some (cs, σr)) (he : EntX cs φ g) (hk : ∀ x, φ x → rekK ks' (g x) σr fun σ1 => DenA c P n Q s f σ1) : DenA c P n Q s f σ := by
  refine ⟨fun hok w S fc Sg hs hh => ?_⟩
  have hp : s.mode = .plain ∨ s.mode = .rest ∨ ∃ ex, s.mode = .last ex := by
    cases s with
    | ops m κ all dec rest => cases m <;> first | exact .inl rfl | exact .inr (.inl rfl) | exact .inr (.inr ⟨_, rfl⟩) | cases hst
    | _ => exact .inl rfl
  have hh0 : Holds (or2 S c.X) w σ S := by rcases hp with e | e | ⟨ex, e⟩ <;> (rw [e] at hh; exact hh)
  obtain ⟨S1, S2, h1, h2, hS, hdis⟩ := hh0.takes ht
  obtain ⟨x, hx, hx1⟩ := he _ _ _ h1
  have := hk x hx
  rw [rekK_eq] at this
  refine this.out hok w S fc Sg hs ?_
  rcases hp with e | e | ⟨ex, e⟩ <;> (rw [e]; exact (hx1.zip ks').append h2 hdis hS)
/-- .. an end of what is one's own: it is dropped. -/
theorem a_drop (ks : List Nat) {cs : List Chunk} {σr : Store} (hst : s.still = true) (ht : takes σ ks = some (cs, σr)) (hk : DenA c P n Q s f σr) : DenA c P n Q s f σ := by
  refine a_ghost hst (fun Y S w fc hdY hh henv => ?_) hk
  obtain ⟨S1, S2, h1, h2, hS, hdis⟩ := hh.takes ht
  have hM : ∀ b, or2 S2 Y b → or2 S Y b := fun b h => h.elim (fun h => .inl ((hS b).2 (.inr h))) .inr
  exact ⟨S2, h2.of fun b _ h => hM b h, henv.of fun b _ h => hM b h, fun b h => (hS b).2 (.inr h)⟩
end
end Go.Proofs.Ytepjnmocepkfjaa.A
