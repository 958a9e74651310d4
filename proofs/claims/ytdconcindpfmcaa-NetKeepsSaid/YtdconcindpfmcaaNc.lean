/- A net that was made since world W: its contracts in one form. -/
import Derived.Test.YtdconcindpfmcaaNb
set_option linter.unusedVariables false
set_option linter.unusedSimpArgs false
namespace Go.Proofs.Ytdconcindpfmcaa
open V

/-- At block g lies a net with the packets l; it, and all else that turned, was made since W. -/
def NetS (W w : World) (g : Nat) (l : List Pkt) (last : Int) : Prop := ∃ v bs, NetR w g v bs l last ∧ Ev no W w ∧ ∀ b, fp g v bs b → W.heap.size ≤ b
theorem NetS.ev {W w : World} {g : Nat} {l : List Pkt} {last : Int} (h : NetS W w g l last) : Ev no W w := by obtain ⟨_, _, _, h, _⟩ := h; exact h
theorem NetS.to {W w w' : World} {g : Nat} {l : List Pkt} {last : Int} (h : NetS W w g l last) (he : Ev no w w') : NetS W w' g l last := by
  obtain ⟨v, bs, h1, h2, h3⟩ := h
  exact ⟨v, bs, h1.ev he fun _ _ h => h, h2.trans he, h3⟩
theorem new_S {W w : World} (he : Ev no W w) : Calls Try.prog 25 #[] w fun e w' => ∃ g, e = .returned (.pointer (some ⟨g, 0, none⟩)) ∧ W.heap.size ≤ g ∧ NetS W w' g [] 0 := by
  refine (new_any w).mono fun e w' ⟨g, h1, h2, h3, v, bs, h4, h5⟩ => ⟨g, h1, ?_, v, bs, h4, he.trans h2, fun b hb => ?_⟩
  · have := he.size; omega
  · rw [← h5] at hb
    simp only [at1] at hb
    have := he.size; omega
theorem NetS.then {W w w' : World} {g : Nat} {v v' : Value} {bs bs' : List Value} {l l' : List Pkt} {last' : Int} (he : Ev no W w) (hf : ∀ b, fp g v bs b → W.heap.size ≤ b) (hn' : NetR w' g v' bs' l' last') (he' : Ev (fp2 g v) w w') (hf' : ∀ b, fp g v' bs' b → fp g v bs b ∨ w.heap.size ≤ b) : NetS W w' g l' last' := by
  refine ⟨v', bs', hn', he.then he' fun i hi h => ?_, fun b hb => ?_⟩
  · have := hf i (fp2_fp i h); omega
  · rcases hf' b hb with h | h
    · exact hf b h
    · have := he.size; omega
theorem SendR.net {W w w' : World} {g : Nat} {v : Value} {bs : List Value} {l : List Pkt} {last frm to : Int} {bytes : List UInt8} {e : Ending} (he : Ev no W w) (hf : ∀ b, fp g v bs b → W.heap.size ≤ b) (h : SendR w g v bs l last frm to bytes e w') :
    e = .returned (.tuple #[.int .i64 (last + 1), .int .i64 0]) ∧ NetS W w' g (l ++ [⟨last + 1, frm, to, bytes⟩]) (last + 1) := by
  obtain ⟨h1, v', b', hn', he', hv', hb'⟩ := h
  exact ⟨h1, NetS.then (l := l) he hf hn' he' (fp_app g v v' bs b' _ hv' hb')⟩
theorem send_S {W w : World} {g : Nat} {l : List Pkt} {last frm to : Int} {x : Value} {bytes : List UInt8} (h : NetS W w g l last) (hx : ARep no W (bytesD bytes) x) (hb : bytes.length ≤ lim) (hlen : l.length < 200) (hl0 : 0 ≤ last) (hl1 : last < 4611686018427387904) :
    Calls Try.prog 26 #[.pointer (some ⟨g, 0, none⟩), .int .i64 frm, .int .i64 to, x] w fun e w' => e = .returned (.tuple #[.int .i64 (last + 1), .int .i64 0]) ∧ NetS W w' g (l ++ [⟨last + 1, frm, to, bytes⟩]) (last + 1) := by
  obtain ⟨v, bs, hn, he, hf⟩ := h
  exact (send_room hn (hx.past he fun b hb => .inr (hf b (fp2_fp b hb))) hb hlen hl0 hl1).mono fun e w' h => SendR.net he hf h
theorem sendfull_S {W w : World} {g : Nat} {l : List Pkt} {last frm to : Int} {x : Value} (h : NetS W w g l last) (hlen : 200 ≤ l.length) :
    Calls Try.prog 26 #[.pointer (some ⟨g, 0, none⟩), .int .i64 frm, .int .i64 to, x] w fun e w' => e = .returned (.tuple #[.int .i64 0, .int .i64 14]) ∧ w = w' := by
  obtain ⟨v, bs, hn, he, hf⟩ := h
  exact send_full hn hlen
theorem len_S {W w : World} {g : Nat} {l : List Pkt} {last : Int} (h : NetS W w g l last) :
    Calls Try.prog 28 #[.pointer (some ⟨g, 0, none⟩)] w fun e w' => e = .returned (.int .i64 l.length) ∧ w = w' := by
  obtain ⟨v, bs, hn, he, hf⟩ := h
  exact len_any hn
theorem drop_S {W w : World} {g : Nat} {l : List Pkt} {last i : Int} (h : NetS W w g l last) (hl : l.length ≤ 1000) :
    Calls Try.prog 30 #[.pointer (some ⟨g, 0, none⟩), .int .i64 i] w fun e w' => e = .returned (.bool (decide (0 ≤ i ∧ i < l.length))) ∧ NetS W w' g (if 0 ≤ i ∧ i < l.length then l.eraseIdx i.toNat else l) last := by
  obtain ⟨v, bs, hn, he, hf⟩ := h
  by_cases hi : 0 ≤ i ∧ i < l.length
  · obtain ⟨j, rfl⟩ : ∃ j : Nat, i = j := ⟨i.toNat, by omega⟩
    have hj : j < l.length := by omega
    refine (drop_in hn hj hl).mono fun e w' ⟨h1, v', h2, h3, h4⟩ => ⟨by rw [h1]; simp; omega, ?_⟩
    rw [if_pos hi]
    exact NetS.then (l := l) he hf h2 h3 fun b hb => .inl (fp_cut h4 (List.eraseIdx_sublist ..) b hb)
  · refine (drop_out hn hi).mono fun e w' ⟨h1, h2⟩ => ?_
    subst h2
    exact ⟨by rw [h1]; simp [hi], by rw [if_neg hi]; exact ⟨v, bs, hn, he, hf⟩⟩
theorem double_S {W w : World} {g : Nat} {l : List Pkt} {last : Int} {i : Nat} {p : Pkt} (h : NetS W w g l last) (hp : l[i]? = some p) (hlen : l.length < 200) (hb : p.bytes.length ≤ lim) (hl0 : 0 ≤ last) (hl1 : last < 4611686018427387904) :
    Calls Try.prog 29 #[.pointer (some ⟨g, 0, none⟩), .int .i64 i] w fun e w' => e = .returned (.tuple #[.int .i64 (last + 1), .int .i64 0]) ∧ NetS W w' g (l ++ [⟨last + 1, p.frm, p.to, p.bytes⟩]) (last + 1) := by
  obtain ⟨v, bs, hn, he, hf⟩ := h
  exact (double_in hn hp hlen hb hl0 hl1).mono fun e w' h => SendR.net he hf h
theorem doublefull_S {W w : World} {g : Nat} {l : List Pkt} {last : Int} {i : Nat} (h : NetS W w g l last) (hi : i < l.length) (hlen : 200 ≤ l.length) :
    Calls Try.prog 29 #[.pointer (some ⟨g, 0, none⟩), .int .i64 i] w fun e w' => e = .returned (.tuple #[.int .i64 0, .int .i64 14]) ∧ NetS W w' g l last := by
  have h' := h
  obtain ⟨v, bs, hn, he, hf⟩ := h
  exact (double_full hn hi hlen).mono fun e w' h => ⟨h.1, h'.to h.2⟩
theorem doublenone_S {W w : World} {g : Nat} {l : List Pkt} {last i : Int} (h : NetS W w g l last) (hi : ¬ (0 ≤ i ∧ i < l.length)) :
    Calls Try.prog 29 #[.pointer (some ⟨g, 0, none⟩), .int .i64 i] w fun e w' => e = .returned (.tuple #[.int .i64 0, .int .i64 5]) ∧ w = w' := by
  obtain ⟨v, bs, hn, he, hf⟩ := h
  exact double_none hn hi
theorem deliver_S {W w : World} {g : Nat} {l : List Pkt} {last : Int} {i : Nat} {p : Pkt} (h : NetS W w g l last) (hp : l[i]? = some p) (hl : l.length ≤ 1000) (hpb : p.bytes.length ≤ lim) :
    Calls Try.prog 27 #[.pointer (some ⟨g, 0, none⟩), .int .i64 i] w fun e w' => ∃ y, e = .returned (.tuple #[p.val y, .bool true]) ∧ NetS W w' g (l.eraseIdx i) last ∧ OwnB w' w.heap.size p.bytes y := by
  obtain ⟨v, bs, hn, he, hf⟩ := h
  refine (deliver_in hn hp hl hpb).mono fun e w' ⟨y, v', h1, h2, h3, h4, h5, h6⟩ => ⟨y, h1, ?_, h4⟩
  exact NetS.then (l := l) he hf h2 h3 fun b hb => .inl (fp_cut h5 (List.eraseIdx_sublist ..) b hb)
theorem deliverout_S {W w : World} {g : Nat} {l : List Pkt} {last i : Int} (h : NetS W w g l last) (hi : ¬ (0 ≤ i ∧ i < l.length)) :
    Calls Try.prog 27 #[.pointer (some ⟨g, 0, none⟩), .int .i64 i] w fun e w' => e = .returned (.tuple #[.agg #[.int .i64 0, .int .i64 0, .int .i64 0, .slice none 0 0], .bool false]) ∧ NetS W w' g l last := by
  have h' := h
  obtain ⟨v, bs, hn, he, hf⟩ := h
  exact (deliver_out hn hi).mono fun e w' h => ⟨h.1, h'.to h.2⟩
end Go.Proofs.Ytdconcindpfmcaa
