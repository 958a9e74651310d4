/- Layer 19: New, Offer, Floor, Finish, Revoke. -/
import Derived.Test.YtdconcindpfmcaaDc
set_option linter.unusedVariables false
set_option linter.unusedSimpArgs false
namespace Go.Proofs.Ytdconcindpfmcaa
open V A

theorem tab_pack {g : Nat} {mo : Option Nat} {cl : List (Int × CL)} {T : PT} (h : mo = none → cl = []) (e : plainT cl = T) : Ent (tabR g mo cl) [.ext (tabA g T)] :=
  ent_pack (f := fun x : Option Nat × List (Int × CL) => tabR g x.1 x.2) (mo, cl) ⟨e, h⟩
theorem tab_unpack (g : Nat) (T : PT) : EntX [.ext (tabA g T)] (fun x : Option Nat × List (Int × CL) => plainT x.2 = T ∧ (x.1 = none → x.2 = [])) fun x => tabR g x.1 x.2 := ent_unpack _ _
theorem offer_spec {g h h1 h2 h3 : Nat} {T : PT} {num tok fl : Int} {fresh : DE} (hw : wfT T) (ht1 : 0 ≤ tok) (ht2 : tok < 18446744073709551616) (hf1 : 0 ≤ fl) :
    FSpec Try.prog 62 [ptrA g h, .v (kI num) h1, .v (kU tok) h2, .v (kU fl) h3, entAV fresh] [.ext (tabA g T)] fun a cs => verR (offerP T num tok fl fresh).2 a cs [.ext (tabA g (offerP T num tok fl fresh).1)] := by
  refine FSpec.entX (tab_unpack g T) fun x hx => ?_
  obtain ⟨mo, cl⟩ := x
  obtain ⟨hp, hmo⟩ := hx
  subst hp
  refine (offer_walk hmo hw ht1 ht2 hf1).weak fun a cs hR => ?_
  obtain ⟨mo', cl', h1, h2, h3⟩ := hR
  rcases h3 with ⟨hk, rfl, rfl⟩ | ⟨hk, x, rfl, rfl⟩
  · exact ⟨_, [.ext (tabA g _)], [], Fit.refl _, tab_pack h1 h2, .inl ⟨hk, rfl, rfl⟩⟩
  · exact ⟨_, [.ext (tabA g _)] ++ [.row x 5 1 _], [], Fit.refl _, by rw [List.append_nil]; exact Ent.app (tab_pack h1 h2) (Ent.refl [_]), .inr ⟨hk, x, rfl, rfl⟩⟩
/-- New. -/
theorem new_spec : FSpec Try.prog 32 [] [] fun a cs => ∃ g, a = ptrA g 10 ∧ cs = [.ext (tabA g [])] := by
  refine FSpec.weak (R := fun a cs => ∃ g, a = ptrA g 10 ∧ cs = [.blk g 114 [.v (.map none) 0]]) ?_ fun a cs hR => ?_
  · refine a_enter hT [] [] Try.func32 rfl rfl rfl trivial fun c => ?_
    refine a_build hT hZ [.v (.map none) 0] rfl rfl rfl rfl rfl rfl ?_
    refine a_box hT 10 rfl rfl rfl rfl fun g => ?_
    exact a_ret hT [10] rfl rfl rfl rfl rfl rfl ⟨g, rfl, rfl⟩
  · obtain ⟨g, rfl, rfl⟩ := hR
    exact ⟨_, [.ext (tabA g [])], [], Fit.refl _, ((Ent.fits (a := [.blk g 114 [.v (.map none) 0]]) (b := [tbBlk g none]) ⟨⟨rfl, rfl, rfl, trivial⟩, trivial⟩).trans (Ent.cons (tbBlk g none) (Ent.app (ent_shut []) (ent_shut [])))).trans (tab_pack (fun _ => rfl) rfl), g, rfl, rfl⟩
/-- Offer. -/
theorem Offer_spec {g h h1 h2 h3 : Nat} {T : PT} {num tok fl : Int} (hw : wfT T) (ht1 : 0 ≤ tok) (ht2 : tok < 18446744073709551616) (hf1 : 0 ≤ fl) :
    FSpec Try.prog 33 [ptrA g h, .v (kI num) h1, .v (kU tok) h2, .v (kU fl) h3] [.ext (tabA g T)] fun a cs => verR (offerP T num tok fl ⟨false, 0, []⟩).2 a cs [.ext (tabA g (offerP T num tok fl ⟨false, 0, []⟩).1)] := by
  refine a_enter hT [ptrA g 10, .v (kI num) 0, .v (kU tok) 0, .v (kU fl) 0] [10] Try.func33 rfl rfl rfl ⟨rfl, rfl, rfl, rfl, trivial⟩ fun c => ?_
  refine a_new hT hZ 20 rfl rfl rfl rfl fun gv => ?_
  refine a_f hT rfl rfl rfl ?_
  refine a_build hT hZ [.v (.bool false) 0, .v (kI 0) 0, nilA] rfl rfl rfl rfl rfl rfl ?_
  refine a_callF hT rfl rfl rfl (by kernel_rfl) (offer_spec (g := g) (h := 10) (h1 := 0) (h2 := 0) (h3 := 0) (fresh := ⟨false, 0, []⟩) hw ht1 ht2 hf1) [10] [10, 1] ⟨rfl, rfl, rfl, rfl, ⟨rfl, rfl, ⟨rfl, rfl⟩, trivial⟩, trivial⟩ rfl ⟨rfl, trivial⟩ ?_
  rintro _ _ (⟨hk, rfl, rfl⟩ | ⟨hk, x, rfl, rfl⟩)
  · exact a_ret hT [10] rfl rfl rfl rfl rfl rfl (.inl ⟨hk, rfl, rfl⟩)
  · exact a_ret hT [10, 1] rfl rfl rfl rfl rfl rfl (.inr ⟨hk, x, rfl, rfl⟩)
def floorP (T : PT) (num : Int) : Int := ((aget T num).map (·.floor)).getD 0
theorem tab_spec {f : FuncId} {args : List AV} {g : Nat} {T : PT} {R : AV → PT → Prop} (h : ∀ mo cl, (mo = none → cl = []) → plainT cl = T → FSpec Try.prog f args (tabR g mo cl) fun a cs => ∃ T', R a T' ∧ Ent cs [.ext (tabA g T')]) : FSpec Try.prog f args [.ext (tabA g T)] fun a cs => ∃ T', R a T' ∧ cs = [.ext (tabA g T')] := by
  refine FSpec.entX (tab_unpack g T) fun x hx => ?_
  refine (h x.1 x.2 hx.2 hx.1).weak fun a cs ⟨T', h1, h2⟩ => ⟨a, [.ext (tabA g T')], [], Fit.refl _, h2, T', h1, rfl⟩
/-- Floor. -/
theorem Floor_spec {g h h1 : Nat} {T : PT} {num : Int} : FSpec Try.prog 34 [ptrA g h, .v (kI num) h1] [.ext (tabA g T)] fun a cs => ∃ T', (a = .v (kU (floorP T num)) 0 ∧ T' = T) ∧ cs = [.ext (tabA g T')] := by
  refine tab_spec fun mo cl hmo hp => ?_
  subst hp
  refine a_enter hT [ptrA g 10, .v (kI num) 0] [10, 11, 14] Try.func34 rfl rfl rfl ⟨rfl, rfl, trivial⟩ fun c => ?_
  refine a_gf hT rfl rfl rfl rfl ?_
  cases mo with
  | none =>
    cases hmo rfl
    refine a_lookN hT num rfl rfl rfl mtC kI_ok zeroC rfl rfl ?_
    refine a_t hT rfl rfl rfl ?_
    exact a_ret hT [10, 11, 14] rfl rfl rfl rfl rfl rfl ⟨_, ⟨rfl, rfl⟩, tab_pack hmo rfl⟩
  | some m =>
    cases hres : aget cl num with
    | none =>
      refine a_lookG hT (kv := kI) (va := clV) cl num none rfl rfl rfl mtC kI_ok zeroC rfl rfl rfl rfl rfl hres ?_
      refine a_t hT rfl rfl rfl ?_
      exact a_ret hT [10, 11, 14] rfl rfl rfl rfl rfl rfl ⟨_, ⟨by unfold floorP; rw [aget_plain, hres]; rfl, rfl⟩, tab_pack hmo rfl⟩
    | some x =>
      refine a_lookG hT (kv := kI) (va := clV) cl num (some x) rfl rfl rfl mtC kI_ok zeroC rfl rfl rfl rfl rfl hres ?_
      refine a_f hT rfl rfl rfl ?_
      refine a_lookG hT (kv := kI) (va := clV) cl num (some x) rfl rfl rfl mtC kI_ok zeroC rfl rfl rfl rfl rfl hres ?_
      obtain ⟨a, b, hab, hna⟩ := aget_split hres
      refine a_ent [14] [12, 13, 14] (clC x ++ [.ext (listA (clsC a ++ clsC b))]) rfl rfl (by rw [hab, clsC_app]; exact ent_focus (clsC a) (clC x) (clsC b)) ?_
      refine a_ret hT [10, 11, 12, 13, 14] rfl rfl rfl rfl rfl rfl ⟨_, ⟨by unfold floorP; rw [aget_plain, hres]; rfl, rfl⟩, (Ent.cons _ (Ent.cons _ ?_)).trans (tab_pack hmo rfl)⟩
      rw [hab, clsC_app]
      exact ent_unfocus (clsC a) (clC x) (clsC b)
def finishP (T : PT) (num tok st : Int) (bytes : List UInt8) : PT × Bool :=
  match aget T num with
  | none => (T, false)
  | some c => match aget c.ents tok with
    | none => (T, false)
    | some e => if e.done then (T, false) else (aput T num (PC.sweep ⟨c.floor, aput c.ents tok ⟨true, st, bytes⟩⟩), true)
set_option maxRecDepth 100000 in
/-- Finish. -/
theorem Finish_spec {g h h1 h2 h3 : Nat} {T : PT} {num tok st : Int} {bytes : List UInt8} (hw : wfT T) (hb : bytes.length ≤ lim) : FSpec Try.prog 38 [ptrA g h, .v (kI num) h1, .v (kU tok) h2, .v (kI st) h3, .d (A.bytesD bytes)] [.ext (tabA g T)]
    fun a cs => ∃ T', (a = .v (.bool (finishP T num tok st bytes).2) 0 ∧ T' = (finishP T num tok st bytes).1) ∧ cs = [.ext (tabA g T')] := by
  refine tab_spec fun mo cl hmo hp => ?_
  subst hp
  refine a_enter hT [ptrA g 10, .v (kI num) 0, .v (kU tok) 0, .v (kI st) 0, .d (A.bytesD bytes)] [10, 11, 14] Try.func38 rfl rfl rfl ⟨rfl, rfl, rfl, rfl, rfl, trivial⟩ fun c => ?_
  refine a_gf hT rfl rfl rfl rfl ?_
  cases mo with
  | none =>
    cases hmo rfl
    refine a_lookN hT num rfl rfl rfl mtC kI_ok zeroC rfl rfl ?_
    refine a_t hT rfl rfl rfl ?_
    exact a_ret hT [10, 11, 14] rfl rfl rfl rfl rfl rfl ⟨_, ⟨rfl, rfl⟩, tab_pack hmo rfl⟩
  | some m =>
    cases hres : aget cl num with
    | none =>
      refine a_lookG hT (kv := kI) (va := clV) cl num none rfl rfl rfl mtC kI_ok zeroC rfl rfl rfl rfl rfl hres ?_
      refine a_t hT rfl rfl rfl ?_
      have hf : finishP (plainT cl) num tok st bytes = (plainT cl, false) := by unfold finishP; rw [aget_plain, hres]; rfl
      exact a_ret hT [10, 11, 14] rfl rfl rfl rfl rfl rfl ⟨_, ⟨by rw [hf]; rfl, rfl⟩, by rw [hf]; exact tab_pack hmo rfl⟩
    | some x =>
      refine a_lookG hT (kv := kI) (va := clV) cl num (some x) rfl rfl rfl mtC kI_ok zeroC rfl rfl rfl rfl rfl hres ?_
      refine a_f hT rfl rfl rfl ?_
      refine a_lookG hT (kv := kI) (va := clV) cl num (some x) rfl rfl rfl mtC kI_ok zeroC rfl rfl rfl rfl rfl hres ?_
      obtain ⟨a, b, hab, hna⟩ := aget_split hres
      have hap : aget (plainT cl) num = some x.c := by rw [aget_plain, hres]; rfl
      have hwx := hw.at hap
      refine a_ent [14] [12, 13, 14] (clC x ++ [.ext (listA (clsC a ++ clsC b))]) rfl rfl (by rw [hab, clsC_app]; exact ent_focus (clsC a) (clC x) (clsC b)) ?_
      have back : Ent [tbBlk g (some m), mapC (some m) cl, clBlk x.gb x.r x.c.floor 13, .map x.r (mapG kU entAV x.c.ents), .ext (listA (clsC a ++ clsC b))] [.ext (tabA g (plainT cl))] := (Ent.cons _ (Ent.cons _ (by rw [hab, clsC_app]; exact ent_unfocus (clsC a) (clC x) (clsC b)))).trans (tab_pack hmo rfl)
      cases he : aget x.c.ents tok with
      | none =>
        refine a_lookG hT (kv := kU) (va := entAV) x.c.ents tok none rfl rfl rfl mtE kU_ok zeroE rfl rfl rfl rfl rfl he ?_
        refine a_new hT hZ 22 rfl rfl rfl rfl fun ge => ?_
        refine a_gt hT rfl rfl rfl rfl ?_
        refine a_t hT rfl rfl rfl ?_
        have hf : finishP (plainT cl) num tok st bytes = (plainT cl, false) := by unfold finishP; rw [hap]; simp only [he]
        exact a_ret hT [10, 11, 12, 13, 14] rfl rfl rfl rfl rfl rfl ⟨_, ⟨by rw [hf]; rfl, rfl⟩, by rw [hf]; exact back⟩
      | some e =>
        refine a_lookG hT (kv := kU) (va := entAV) x.c.ents tok (some e) rfl rfl rfl mtE kU_ok zeroE rfl rfl rfl rfl rfl he ?_
        refine a_new hT hZ 22 rfl rfl rfl rfl fun ge => ?_
        refine a_gf hT rfl rfl rfl rfl ?_
        refine a_if hT rfl rfl (fun hd => ?_) (fun hd => ?_)
        · have hf : finishP (plainT cl) num tok st bytes = (plainT cl, false) := by unfold finishP; rw [hap]; simp only [he]; rw [if_pos hd]
          exact a_ret hT [10, 11, 12, 13, 14] rfl rfl rfl rfl rfl rfl ⟨_, ⟨by rw [hf]; rfl, rfl⟩, by rw [hf]; exact back⟩
        · refine a_draw hT [] true [(0, false), (4, false), (5, false), (6, false), (1, false), (2, false), (3, false), (7, true), (8, true), (9, true)] rfl rfl (by kernel_rfl) (by kernel_rfl) rfl ?_
          refine a_call hT rfl rfl rfl (by kernel_rfl) (cloneF hb) [] [] rfl rfl ?_
          rintro _ _ ⟨rfl, rfl⟩
          refine a_build hT hZ [.v (.bool true) 0, .v (kI st) 0, .d (A.bytesD bytes)] rfl rfl rfl rfl rfl rfl ?_
          refine a_mputG hT (kv := kU) (va := entAV) x.c.ents tok ⟨true, st, bytes⟩ rfl rfl rfl mtE kU_ok rfl rfl rfl rfl rfl rfl ?_
          have hwa := hwx.add (tok := tok) (e := ⟨true, st, bytes⟩) hb
          refine a_call hT rfl rfl rfl (by kernel_rfl) (sweep_spec (gb := x.gb) (r := x.r) (h3 := 13) (floor := x.c.floor) hwa.nd) [12, 13] [12, 13] rfl rfl ?_
          rintro _ _ rfl
          have hf : finishP (plainT cl) num tok st bytes = (aput (plainT cl) num (PC.sweep ⟨x.c.floor, aput x.c.ents tok ⟨true, st, bytes⟩⟩), true) := by unfold finishP; rw [hap]; simp only [he]; rw [if_neg (by rw [hd]; simp)]
          refine a_ret hT [10, 11, 12, 13, 14] rfl rfl rfl rfl rfl rfl ⟨_, ⟨by rw [hf]; rfl, rfl⟩, ?_⟩
          rw [hf]
          have hcl : aput cl num ⟨x.gb, x.r, PC.sweep ⟨x.c.floor, aput x.c.ents tok ⟨true, st, bytes⟩⟩⟩ = a ++ (num, ⟨x.gb, x.r, PC.sweep ⟨x.c.floor, aput x.c.ents tok ⟨true, st, bytes⟩⟩⟩) :: b := by rw [hab, aput_mid hna]
          refine Ent.trans ?_ (tab_pack (mo := some m) (cl := aput cl num ⟨x.gb, x.r, PC.sweep ⟨x.c.floor, aput x.c.ents tok ⟨true, st, bytes⟩⟩⟩) (by simp) (plain_aput _ _ _))
          unfold tabR
          rw [mapC_aput _ hres]
          refine Ent.cons _ (Ent.cons _ ?_)
          rw [hcl, clsC_app]
          exact ent_unfocus (clsC a) (clC ⟨x.gb, x.r, PC.sweep ⟨x.c.floor, aput x.c.ents tok ⟨true, st, bytes⟩⟩⟩) (clsC b)
def revokeP (T : PT) (num tok fl : Int) : PT × Bool :=
  if (offerP T num tok fl ⟨true, 1, []⟩).2.kind = 1 then ((offerP T num tok fl ⟨true, 1, []⟩).1, true)
  else if (offerP T num tok fl ⟨true, 1, []⟩).2.kind = 2 then finishP (offerP T num tok fl ⟨true, 1, []⟩).1 num tok 1 []
  else ((offerP T num tok fl ⟨true, 1, []⟩).1, false)
/-- Revoke. -/
theorem Revoke_spec {g h h1 h2 h3 : Nat} {T : PT} {num tok fl : Int} (hw : wfT T) (ht1 : 0 ≤ tok) (ht2 : tok < 18446744073709551616) (hf1 : 0 ≤ fl) :
    FSpec Try.prog 39 [ptrA g h, .v (kI num) h1, .v (kU tok) h2, .v (kU fl) h3] [.ext (tabA g T)] fun a cs => ∃ T', (a = .v (.bool (revokeP T num tok fl).2) 0 ∧ T' = (revokeP T num tok fl).1) ∧ cs = [.ext (tabA g T')] := by
  refine a_enter hT [ptrA g 10, .v (kI num) 0, .v (kU tok) 0, .v (kU fl) 0] [10] Try.func39 rfl rfl rfl ⟨rfl, rfl, rfl, rfl, trivial⟩ fun c => ?_
  refine a_f hT rfl rfl rfl ?_
  refine a_build hT hZ [.v (.bool true) 0, .v (kI 1) 0, nilA] rfl rfl rfl rfl rfl rfl ?_
  refine a_callF hT rfl rfl rfl (by kernel_rfl) (offer_spec (g := g) (h := 10) (h1 := 0) (h2 := 0) (h3 := 0) (fresh := ⟨true, 1, []⟩) hw ht1 ht2 hf1) [10] [10, 21] ⟨rfl, rfl, rfl, rfl, ⟨rfl, rfl, ⟨rfl, rfl⟩, trivial⟩, trivial⟩ rfl ⟨rfl, trivial⟩ ?_
  have hw2 := offer_wf hw num tok fl (fresh := ⟨true, 1, []⟩) (by simp)
  generalize hr : offerP T num tok fl ⟨true, 1, []⟩ = r at hw2
  have hrev : revokeP T num tok fl = if r.2.kind = 1 then (r.1, true) else if r.2.kind = 2 then finishP r.1 num tok 1 [] else (r.1, false) := by unfold revokeP; rw [hr]
  rintro _ _ (⟨hk, rfl, rfl⟩ | ⟨hk, x, rfl, rfl⟩)
  · refine a_if hT rfl rfl (fun h1 => ?_) (fun h1 => ?_)
    · have h1' : r.2.kind = 1 := of_decide_eq_true h1
      exact a_ret hT [10] rfl rfl rfl rfl rfl rfl ⟨_, ⟨by rw [hrev, if_pos h1']; rfl, rfl⟩, by rw [hrev, if_pos h1']⟩
    · have h1' : ¬ r.2.kind = 1 := of_decide_eq_false h1
      refine a_if hT rfl rfl (fun h2 => ?_) (fun h2 => ?_)
      · have h2' : r.2.kind = 2 := of_decide_eq_true h2
        refine a_callF hT rfl rfl rfl (by kernel_rfl) (Finish_spec (g := g) (h := 10) (h1 := 0) (h2 := 0) (h3 := 0) (num := num) (tok := tok) (st := 1) (bytes := []) hw2 (by simp)) [10] [10] ⟨rfl, rfl, rfl, rfl, ⟨rfl, rfl⟩, trivial⟩ rfl ⟨rfl, trivial⟩ ?_
        rintro _ _ ⟨T', ⟨rfl, rfl⟩, rfl⟩
        exact a_ret hT [10] rfl rfl rfl rfl rfl rfl ⟨_, ⟨by rw [hrev, if_neg h1', if_pos h2']; rfl, rfl⟩, by rw [hrev, if_neg h1', if_pos h2']⟩
      · have h2' : ¬ r.2.kind = 2 := of_decide_eq_false h2
        exact a_ret hT [10] rfl rfl rfl rfl rfl rfl ⟨_, ⟨by rw [hrev, if_neg h1', if_neg h2']; rfl, rfl⟩, by rw [hrev, if_neg h1', if_neg h2']⟩
  · have h1' : ¬ r.2.kind = 1 := by rw [hk]; decide
    have h2' : ¬ r.2.kind = 2 := by rw [hk]; decide
    refine a_f hT rfl rfl rfl ?_
    refine a_f hT rfl rfl rfl ?_
    exact a_ret hT [10] rfl rfl rfl rfl rfl rfl ⟨_, ⟨by rw [hrev, if_neg h1', if_neg h2']; rfl, rfl⟩, by rw [hrev, if_neg h1', if_neg h2']⟩
end Go.Proofs.Ytdconcindpfmcaa
