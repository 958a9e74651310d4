/- Layer 19, plain: a call that was taken once isn't taken again. -/
import Derived.Test.YtdconcindpfmcaaDf
set_option linter.unusedVariables false
set_option linter.unusedSimpArgs false
namespace Go.Proofs.Ytdconcindpfmcaa
open V A
def goneC (c : PC) (t : Int) : Prop := t < c.floor ∨ (aget c.ents t).isSome = true
def goneT (T : PT) (n t : Int) : Prop := ∃ c, aget T n = some c ∧ goneC c t
theorem aget_aput {β : Type} : ∀ {l : List (Int × β)} {k j : Int} {v : β}, aget (aput l k v) j = if k = j then some v else aget l j
  | [], k, j, v => by simp [aput, aget]
  | (i, u) :: l, k, j, v => by
    unfold aput
    by_cases h : i = k
    · subst h
      rw [if_pos rfl]
      by_cases hj : i = j
      · simp [aget, hj]
      · simp [aget, hj]
    · rw [if_neg h]
      by_cases hj : i = j
      · subst hj
        have : ¬ k = i := fun e => h e.symm
        simp [aget, this]
      · simp only [aget, hj, if_false]
        rw [aget_aput]
theorem aget_filter {β : Type} {p : Int × β → Bool} : ∀ {l : List (Int × β)} {t : Int} {e : β}, aget l t = some e → p (t, e) = true → aget (l.filter p) t = some e
  | [], t, e, h, hp => by simp [aget] at h
  | (i, u) :: l, t, e, h, hp => by
    unfold aget at h
    split at h
    · rename_i hi
      subst hi
      cases h
      rw [List.filter_cons, if_pos hp, aget, if_pos rfl]
    · rename_i hi
      rw [List.filter_cons]
      split
      · rw [aget, if_neg hi]; exact aget_filter h hp
      · exact aget_filter h hp
theorem goneC_sweep {c : PC} {t : Int} (h : goneC c t) : goneC c.sweep t := by
  rcases h with h | h
  · exact .inl h
  · obtain ⟨e, he⟩ := Option.isSome_iff_exists.1 h
    cases hp : keepE c.floor (t, e) with
    | true => exact .inr (by show (aget (c.ents.filter (keepE c.floor)) t).isSome = true; rw [aget_filter he hp]; rfl)
    | false =>
      left
      unfold keepE at hp
      simp at hp
      exact hp.2
theorem goneC_up {c : PC} {t : Int} (tok fl : Int) (h : goneC c t) : goneC (c.up tok fl) t := by
  unfold PC.up
  refine goneC_sweep ?_
  rcases h with h | h
  · exact .inl (Int.lt_of_lt_of_le h (mx_le _ _))
  · exact .inr h
theorem goneC_add {c : PC} {t tok : Int} {e : DE} (h : goneC c t) : goneC ⟨c.floor, aput c.ents tok e⟩ t := by
  rcases h with h | h
  · exact .inl h
  · right
    show (aget (aput c.ents tok e) t).isSome = true
    rw [aget_aput]
    split
    · rfl
    · exact h
theorem goneT_put {T : PT} {num n t : Int} {c1 : PC} (h : ∀ c, aget T num = some c → ∀ t, goneC c t → goneC c1 t) (hg : goneT T n t) : goneT (aput T num c1) n t := by
  obtain ⟨c, hc, hgc⟩ := hg
  unfold goneT
  rw [aget_aput]
  by_cases e : num = n
  · subst e
    exact ⟨c1, by rw [if_pos rfl], h c hc t hgc⟩
  · exact ⟨c, by rw [if_neg e, hc], hgc⟩
theorem gone_offer {T : PT} {n t : Int} (num tok fl : Int) (fresh : DE) (hg : goneT T n t) : goneT (offerP T num tok fl fresh).1 n t := by
  unfold offerP
  cases hn : aget T num with
  | none =>
    simp only
    split
    · exact hg
    · unfold offerC
      simp only [Bool.false_eq_true, if_false]
      split
      · exact hg
      · split
        · split <;> exact hg
        · split
          · exact hg
          · exact goneT_put (fun c hc => by rw [hn] at hc; cases hc) hg
  | some c =>
    have h1 : goneT (aput T num (c.up tok fl)) n t := goneT_put (fun c' hc t h => by rw [hn] at hc; cases hc; exact goneC_up _ _ h) hg
    simp only
    unfold offerC
    simp only [if_true]
    split
    · exact h1
    · split
      · split <;> exact h1
      · split
        · exact h1
        · exact goneT_put (fun c' hc t h => by rw [hn] at hc; cases hc; exact goneC_add (goneC_up _ _ h)) hg
theorem gone_finish {T : PT} {n t : Int} (num tok st : Int) (bytes : List UInt8) (hg : goneT T n t) : goneT (finishP T num tok st bytes).1 n t := by
  unfold finishP
  cases hn : aget T num with
  | none => exact hg
  | some c =>
    simp only
    cases he : aget c.ents tok with
    | none => exact hg
    | some e =>
      simp only
      split
      · exact hg
      · exact goneT_put (fun c' hc t h => by rw [hn] at hc; cases hc; exact goneC_sweep (goneC_add h)) hg
theorem gone_revoke {T : PT} {n t : Int} (num tok fl : Int) (hg : goneT T n t) : goneT (revokeP T num tok fl).1 n t := by
  have h1 := gone_offer num tok fl ⟨true, 1, []⟩ hg
  unfold revokeP
  split
  · exact h1
  · split
    · exact gone_finish _ _ _ _ h1
    · exact h1
/-- What is taken wasn't taken, and is then. -/
theorem offer_new {T : PT} {num tok fl : Int} {fresh : DE} (h : (offerP T num tok fl fresh).2.kind = 1) : ¬ goneT T num tok ∧ goneT (offerP T num tok fl fresh).1 num tok := by
  revert h
  unfold offerP
  cases hn : aget T num with
  | none =>
    simp only
    split
    · intro h; simp at h
    · unfold offerC
      simp only [Bool.false_eq_true, if_false]
      split
      · intro h; simp at h
      · split
        · split <;> (intro h; simp at h)
        · split
          · intro h; simp at h
          · intro _
            refine ⟨fun h0 => (by obtain ⟨c, hc, _⟩ := h0; rw [hn] at hc; cases hc), ⟨_, by rw [aget_aput, if_pos rfl], .inr ?_⟩⟩
            show (aget (aput _ tok fresh) tok).isSome = true
            rw [aget_aput, if_pos rfl]
            rfl
  | some c =>
    simp only
    unfold offerC
    simp only [if_true]
    split
    · intro h; simp at h
    · rename_i hf
      split
      · split <;> (intro h; simp at h)
      · rename_i he
        split
        · intro h; simp at h
        · intro _
          refine ⟨fun h0 => ?_, ⟨_, by rw [aget_aput, if_pos rfl], .inr ?_⟩⟩
          · obtain ⟨c', hc, hg⟩ := h0
            rw [hn] at hc
            cases hc
            rcases goneC_up tok fl hg with h | h
            · exact hf h
            · rw [he] at h; cases h
          · show (aget (aput _ tok fresh) tok).isSome = true
            rw [aget_aput, if_pos rfl]
            rfl
theorem aput_len_same {β : Type} {l : List (Int × β)} {k : Int} {u v : β} (h : aget l k = some u) : (aput l k v).length = l.length := by
  obtain ⟨a, b, rfl, hn⟩ := aget_split h
  rw [aput_mid hn]
  simp
theorem finish_wf {T : PT} (hw : wfT T) (num tok st : Int) {bytes : List UInt8} (hb : bytes.length ≤ lim) : wfT (finishP T num tok st bytes).1 := by
  unfold finishP
  cases hn : aget T num with
  | none => exact hw
  | some c =>
    simp only
    cases he : aget c.ents tok with
    | none => exact hw
    | some e =>
      simp only
      split
      · exact hw
      · have hc := (hw.at hn).add (tok := tok) (e := ⟨true, st, bytes⟩) hb
        have hs : wfC (PC.sweep ⟨c.floor, aput c.ents tok ⟨true, st, bytes⟩⟩) := ⟨hc.fl, hc.nd.sublist ((List.filter_sublist).map _), fun q hq => hc.by_ q (List.mem_filter.1 hq).1⟩
        refine hw.put hs.fl hs.nd hs.by_ ?_
        have h1 := lenT_put (PC.sweep ⟨c.floor, aput c.ents tok ⟨true, st, bytes⟩⟩) hn
        have h2 : (PC.sweep ⟨c.floor, aput c.ents tok ⟨true, st, bytes⟩⟩).ents.length ≤ (aput c.ents tok (⟨true, st, bytes⟩ : DE)).length := List.length_filter_le _ _
        rw [aput_len_same he] at h2
        have := hw.len
        omega
theorem revoke_wf {T : PT} (hw : wfT T) (num tok fl : Int) : wfT (revokeP T num tok fl).1 := by
  have h1 := offer_wf hw num tok fl (fresh := ⟨true, 1, []⟩) (by simp)
  unfold revokeP
  split
  · exact h1
  · split
    · exact finish_wf h1 _ _ _ (by simp)
    · exact h1
end Go.Proofs.Ytdconcindpfmcaa
