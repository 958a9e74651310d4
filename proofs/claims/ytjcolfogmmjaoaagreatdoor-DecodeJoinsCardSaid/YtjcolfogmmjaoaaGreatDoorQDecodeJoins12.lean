import Derived.Test.YtjcolfogmmjaoaaGreatDoorQDecodeJoins11
import Derived.Test.YtjcolfogmmjaoaaGreatDoorQDecodeJoins10
import Derived.Test.YtjcolfogmmjaoaaGreatDoorQDecodeJoins6
section
set_option linter.unusedVariables false
set_option linter.unusedSimpArgs false
set_option maxRecDepth 100000
set_option maxHeartbeats 2000000
namespace Go.Proofs.YtjcolfogmmjaoaaGreatDoor
open V A
def exm {α β : Type} (g : α → β) : Except Int α → Except Int β
  | .error e => .error e
  | .ok a => .ok (g a)
theorem exm_nil {α : Type} (x : Except Int (List α)) : exm (([] : List α) ++ ·) x = x := by cases x <;> rfl
theorem exm_id {α : Type} (x : Except Int α) : exm (fun q => q) x = x := by cases x <;> rfl
theorem exm_app {α : Type} (a b : List α) (x : Except Int (List α)) : exm (a ++ ·) (exm (b ++ ·) x) = exm ((a ++ b) ++ ·) x := by cases x <;> simp [exm]
theorem exm_cons {α : Type} (a : List α) (b : α) (x : Except Int (List α)) : exm (a ++ ·) (exm (b :: ·) x) = exm ((a ++ [b]) ++ ·) x := by cases x <;> simp [exm]
theorem valsG_cons (rec : Int → List UInt8 → RM) (f : FDP) (x : FW) (l : List FW) : valsG rec f (x :: l) = match valuesG rec f x with
    | .error e => .error e
    | .ok a => exm (a ++ ·) (valsG rec f l) := by
  conv => lhs; unfold valsG
  cases valuesG rec f x with
  | error e => rfl
  | ok a => cases valsG rec f l <;> rfl
theorem fldsG_cons (rec : Int → List UInt8 → RM) (kn : Int → List FW) (f : FDP) (l : List FDP) : fldsG rec kn (f :: l) = match valsG rec f (ownG f (kn f.num)) with
    | .error e => .error e
    | .ok a => exm (fun q => if keepP f a then VF.mk f.num a :: q else q) (fldsG rec kn l) := by
  conv => lhs; unfold fldsG
  cases valsG rec f (ownG f (kn f.num)) with
  | error e => rfl
  | ok a => cases fldsG rec kn l <;> rfl
theorem valuesG_len {rec : Int → List UInt8 → RM} {f : FDP} {x : FW} {l : List VL} (h : valuesG rec f x = .ok l) : l.length ≤ x.data.length + 1 := by
  unfold valuesG at h
  split at h
  · split at h
    · cases h
    · cases h; simp
  split at h
  · split at h
    · cases h; simp
    · cases h
  split at h
  · cases h; simp
  · split at h
    · cases h
    · rename_i l' hv
      cases h
      exact valuesP_len hv
theorem valuesG_err {rec : Int → List UInt8 → RM} (hr : ∀ t b e, rec t b = .error e → e ≠ 0) {f : FDP} {x : FW} {e : Int} (h : valuesG rec f x = .error e) : e ≠ 0 := by
  unfold valuesG at h
  split at h
  · split at h
    · rename_i e' he
      injection h with h
      subst h
      exact hr _ _ _ he
    · cases h
  split at h
  · split at h
    · cases h
    · injection h with h; subst h; decide
  split at h
  · cases h
  · split at h
    · injection h with h; subst h; decide
    · cases h
theorem valsG_err {rec : Int → List UInt8 → RM} (hr : ∀ t b e, rec t b = .error e → e ≠ 0) {f : FDP} {e : Int} : ∀ {l : List FW}, valsG rec f l = .error e → e ≠ 0
  | [], h => by cases h
  | x :: l, h => by
    rw [valsG_cons] at h
    split at h
    · rename_i e' he
      injection h with h
      subst h
      exact valuesG_err hr he
    · rename_i a ha
      cases hl : valsG rec f l with
      | error e2 => rw [hl] at h; injection h with h; subst h; exact valsG_err hr hl
      | ok b => rw [hl] at h; cases h
theorem fldsG_err {rec : Int → List UInt8 → RM} (hr : ∀ t b e, rec t b = .error e → e ≠ 0) {kn : Int → List FW} {e : Int} : ∀ {l : List FDP}, fldsG rec kn l = .error e → e ≠ 0
  | [], h => by cases h
  | f :: l, h => by
    rw [fldsG_cons] at h
    split at h
    · rename_i e' he
      injection h with h
      subst h
      exact valsG_err hr he
    · rename_i a ha
      cases hl : fldsG rec kn l with
      | error e2 => rw [hl] at h; injection h with h; subst h; exact fldsG_err hr hl
      | ok b => rw [hl] at h; cases h
theorem decM_err {s : SchP} : ∀ (n : Nat) (t : Int) (bs : List UInt8) (e : Int), decM s n t bs = .error e → e ≠ 0
  | 0, t, bs, e, h => by unfold decM at h; injection h with h; subst h; decide
  | n + 1, t, bs, e, h => by
    unfold decM at h
    split at h
    · injection h with h; subst h; decide
    · split at h
      · rename_i e2 he
        injection h with h
        subst h
        exact fldsG_err (fun t b e h => decM_err n t b e h) he
      · cases h
theorem valsG_msg {rec : Int → List UInt8 → RM} {f : FDP} (hk : f.kind = 10) (hr : ∀ t b v, rec t b = .ok v → zeroV v = false) : ∀ {l : List FW} {acc : List VL}, valsG rec f l = .ok acc → ∀ v ∈ acc, zeroV v = false
  | [], acc, h, v, hv => by unfold valsG at h; injection h with h; subst h; simp at hv
  | x :: l, acc, h, v, hv => by
    rw [valsG_cons] at h
    split at h
    · cases h
    · rename_i a ha
      cases hl : valsG rec f l with
      | error e2 => rw [hl] at h; cases h
      | ok b =>
        rw [hl] at h
        injection h with h
        subst h
        rcases List.mem_append.1 hv with hv | hv
        · unfold valuesG at ha
          rw [if_pos hk] at ha
          split at ha
          · cases ha
          · rename_i v2 hv2
            injection ha with ha
            subst ha
            simp at hv
            subst hv
            exact hr _ _ _ hv2
        · exact valsG_msg hk hr hl v hv
theorem decM_msg {s : SchP} {n : Nat} {t : Int} {bs : List UInt8} {v : VL} (h : decM s n t bs = .ok v) : zeroV v = false := by
  cases n with
  | zero => unfold decM at h; cases h
  | succ n =>
    unfold decM at h
    split at h
    · cases h
    · split at h
      · cases h
      · injection h with h; subst h; rfl
theorem flat_le {ws : List (FW × List UInt8)} (h : ∀ x ∈ ws, RawOk x) (q : FW → Bool) : (((ws.map (·.1)).filter q).flatMap (·.data)).length ≤ (ws.flatMap (·.2)).length := by
  induction ws with
  | nil => simp
  | cons x ws ih =>
    have ih := ih fun y hy => h y (by simp [hy])
    have hx := (h x (by simp)).2.2.1
    have e2 : ((x :: ws).flatMap (·.2)).length = x.2.length + (ws.flatMap (·.2)).length := by rw [List.flatMap_cons, List.length_append]
    rw [e2, List.map_cons, List.filter_cons]
    split
    · rw [List.flatMap_cons, List.length_append]; omega
    · omega
theorem kn_flat {ws : List (FW × List UInt8)} (h : ∀ x ∈ ws, RawOk x) (d : MDP) (k : Int) : ((knP d ws k).flatMap (·.data)).length ≤ (ws.flatMap (·.2)).length := flat_le h _
theorem ownG_len {f : FDP} {l : List FW} (h : l.length ≤ 4096) : (ownG f l).length ≤ 4096 := by
  unfold ownG
  split
  · exact h
  split <;> simp
theorem ownG_data {f : FDP} {l : List FW} (h : ∀ x ∈ l, x.data.length ≤ 4096) (hf : (l.flatMap (·.data)).length ≤ 4096) : ∀ x ∈ ownG f l, x.data.length ≤ 4096 := by
  unfold ownG
  split
  · exact h
  · rename_i hne
    split
    · intro x hx
      simp only [List.mem_singleton] at hx
      subst hx
      exact hf
    · intro x hx
      simp only [List.mem_singleton] at hx
      subst hx
      rcases List.eq_nil_or_concat l with e | ⟨l', y, e⟩
      · rw [e] at hne; simp at hne
      · rw [e, List.concat_eq_append]
        simp
        exact h y (by rw [e]; simp)
theorem dmsgG_spec {s : SchP} (hs : SchOk s) : ∀ (n : Nat), n ≤ 16 → ∀ {t : Nat} {bs : List UInt8}, t < s.ms.length → bs.length ≤ 4096 → FSpec Tryz.prog 38 [schA s, .v (kI t) 0, .d (A.bytesD bs), .v (kI (17 - (n : Int))) 0] [u8C] fun a cs => a = decE (decM s n t bs) ∧ cs = [u8C] := by
  intro n
  induction n with
  | zero =>
    intro _ t bs ht hl
    refine a_enter hT [schA s, .v (kI t) 0, .d (A.bytesD bs), .v (kI (17 - ((0 : Nat) : Int))) 0] [60] Tryz.func38 rfl rfl rfl ⟨Fit.refl _, rfl, Fit.refl _, rfl, trivial⟩ fun c' => ?_
    refine a_box hT 20 rfl rfl rfl rfl fun g0 => ?_
    refine a_t hT rfl rfl rfl ?_
    refine a_ret hT [60] rfl rfl rfl rfl rfl rfl ?_
    exact ⟨rfl, rfl⟩
  | succ n ih =>
  intro hn t bs ht hl
  have hs0 : s.ms[t]? = some s.ms[t] := List.getElem?_eq_getElem ht
  have hdm : s.ms[t] ∈ s.ms := List.getElem_mem ht
  generalize s.ms[t] = d at hs0 hdm
  have hdA : dAt s t = d := by unfold dAt; rw [Int.toNat_natCast, hs0]; rfl
  have hdlen : d.fs.length ≤ 32 := hs.len d hdm
  obtain ⟨dep, hdep0⟩ : ∃ dep : Int, dep = 17 - ((n + 1 : Nat) : Int) := ⟨_, rfl⟩
  rw [← hdep0]
  have hdep : dep ≤ 16 := by omega
  have hdep1 : 1 ≤ dep := by omega
  have ih2 : ∀ {t2 : Int} {b2 : List UInt8}, 0 ≤ t2 → t2 < s.ms.length → b2.length ≤ 4096 → FSpec Tryz.prog 38 [schA s, .v (kI t2) 0, .d (A.bytesD b2), .v (kI (dep + 1)) 0] [u8C] fun a cs => a = decE (decM s n t2 b2) ∧ cs = [u8C] := by
    intro t2 b2 h1 h2 h3
    obtain ⟨k, rfl⟩ : ∃ k : Nat, t2 = (k : Int) := ⟨t2.toNat, by omega⟩
    have := ih (by omega) (t := k) (bs := b2) (by omega) h3
    rw [show (17 : Int) - (n : Int) = dep + 1 by omega] at this
    exact this
  refine FSpec.le ?_
  have hlim : lim = 4294967296 := rfl
  have hS := WSplit_spec (bs := bs) (by omega)
  have hm : decM s (n + 1) t bs = match splitW bs with
    | none => .error 2
    | some ws => exm (fun fs => .msg t fs (mkS (unkP d ws))) (fldsG (decM s n) (knP d ws) d.fs) := by
    conv => lhs; unfold decM
    cases splitW bs with
    | none => rfl
    | some ws =>
      dsimp only
      rw [hdA]
      cases fldsG (decM s n) (knP d ws) d.fs <;> rfl
  have hws := splitW_ok bs.length bs
  have hsr := split_raw bs.length bs
  have hsc := splitW_cat bs.length bs
  generalize decM s (n + 1) t bs = M at hm ⊢
  generalize splitW bs = ws at hS hm hws hsr hsc
  have hat0 : (s.ms.map eM)[((t : Nat) : Int).toNat]? = some (eM d) := by rw [Int.toNat_natCast, List.getElem?_map, hs0]; rfl
  refine a_enter hT [schA s, .v (kI t) 0, .d (A.bytesD bs), .v (kI dep) 0] [60] Tryz.func38 rfl rfl rfl ⟨Fit.refl _, rfl, Fit.refl _, rfl, trivial⟩ fun c' => ?_
  refine a_box hT 20 rfl rfl rfl rfl fun g0 => ?_
  refine a_f hT rfl rfl (decide_eq_false (by show ¬ dep > 16; omega)) ?_
  cases ws with
  | none =>
    refine a_call hT rfl rfl rfl (by kernel_rfl) hS [] [] rfl rfl ?_
    rintro _ _ ⟨rfl, rfl⟩
    refine a_t hT rfl rfl rfl ?_
    refine a_ret hT [60] rfl rfl rfl rfl rfl rfl ?_
    exact ⟨_, Le.refl _, by rw [hm]; rfl, rfl⟩
  | some ws =>
    refine a_call hT rfl rfl rfl (by kernel_rfl) hS [] [] rfl rfl ?_
    rintro _ _ ⟨rfl, rfl⟩
    refine a_f hT rfl rfl rfl ?_
    refine a_ix hT _ rfl rfl rfl rfl rfl rfl (by first | omega | assumption) (by first | assumption | rfl) ?_
    refine a_new hT hZ 21 rfl rfl rfl rfl fun g => ?_
    refine a_build hT hZ [.v (kI ↑t) 0, .v (Value.slice none 0 0) 0, .v (Value.string ByteArray.empty) 0] rfl rfl rfl rfl rfl rfl ?_
    refine a_new hT hZ 22 rfl rfl rfl rfl fun g1 => ?_
    refine a_mkmap hT 23 rfl rfl rfl fun r => ?_
    obtain ⟨hw1, hw2, hw3⟩ := hws ws (Nat.le_refl _) rfl
    have hraw := hsr ws (Nat.le_refl _) rfl
    have hcat := hsc ws (Nat.le_refl _) rfl
    dsimp only at hm
    have hlw : (ws.map fun x => fwD x.1).length = ws.length := List.length_map _
    refine a_freezeK 4 20 rfl rfl rfl rfl rfl ?_
    refine a_freezeK 13 21 rfl rfl rfl rfl rfl ?_
    refine a_ent [] [24] [.ext (listA [])] rfl rfl (ent_shut []) ?_
    refine a_ent [60, 24] [24] [.ext (listA [u8C])] rfl rfl (ent_unfocus [] [u8C] []) ?_
    refine a_loop hT [3, 4, 11, 13, 14, 15, 43, 44, 45] (fun x : Nat × List (Int × KX) => [.v (kI dep) 0, .d (.p (schD s)), .d (.sl 1 (ws.map rawD)), .d (.p (eM d)), .v (.pointer (some ⟨g1, 0, none⟩)) 22, .v (.map (some r)) 23, .d (.sl 4 (ws.map fun x => fwD x.1)), .v (kI ws.length) 0, .v (kI x.1) 0]) (fun x => [(22, .blk g1 97 [.v (kI t) 0, .v (.slice none 0 0) 0, .v (.string (mkS (unkP d (ws.take x.1)))) 0]), (23, .map r (mapG kI vaK x.2)), (24, .ext (listA (u8C :: x.2.map rowK)))]) (fun x => x.1 ≤ ws.length ∧ ∀ k, kAt x.2 k = knP d (ws.take x.1) k) (fun x => ws.length - x.1) (0, []) [22, 23, 24] rfl rfl ⟨Nat.zero_le _, fun k => rfl⟩ ⟨rfl, rfl, rfl, rfl, rfl, rfl, rfl, by rw [← hlw]; rfl, rfl, trivial⟩ rfl ⟨⟨rfl, rfl, ⟨rfl, rfl, rfl, trivial⟩⟩, ⟨rfl, rfl⟩, rfl, trivial⟩ ?_
    rintro ⟨i, L⟩ ⟨i2, i3⟩
    dsimp only at i2 i3
    have hw := wN i (by omega)
    rcases Nat.lt_or_ge i ws.length with hil | hil
    · have hat : (ws.map fun x => fwD x.1)[(i : Int).toNat]? = some (fwD ws[i].1) := by simp [hil]
      have hat2 : (ws.map rawD)[(i : Int).toNat]? = some (rawD ws[i]) := by simp [hil]
      have hmem := List.getElem_mem hil
      have htk : ws.take (i + 1) = ws.take i ++ [ws[i]] := List.take_succ_eq_append_getElem hil
      generalize ws[i] = x at hat hat2 hmem htk
      obtain ⟨⟨fn, ft, fu, fd⟩, raw⟩ := x
      have hK := Known_spec (d := d) (num := fn) (typ := ft) (by omega)
      refine a_t hT rfl rfl (decide_eq_true (by show (i : Int) < (ws.length : Int); omega)) ?_
      cases hkn : knownP d fn ft with
      | true =>
        rw [hkn] at hK
        refine a_ix hT _ rfl rfl rfl rfl rfl rfl (by first | omega | assumption) (by first | assumption | rfl) ?_
        refine a_new hT hZ 25 rfl rfl rfl rfl fun g2 => ?_
        refine a_call hT rfl rfl rfl (by kernel_rfl) hK [] [] rfl rfl ?_
        rintro _ _ ⟨rfl, rfl⟩
        refine a_t hT rfl rfl rfl ?_
        cases hag : aget L fn with
        | none =>
          have hold : kAt L fn = [] := by unfold kAt; rw [hag]; rfl
          have hlimA : (([] : List FW).map fwD).length + [fwD (⟨fn, ft, fu, fd⟩ : FW)].length ≤ lim := by simp; omega
          refine a_nilchunk 26 139 4 rfl ?_
          refine a_treeN hT [3, 4, 11, 13, 14, 15, 43, 44, 45] (fun _ : Value => [.v (kI dep) 0, .d (.p (schD s)), .d (.sl 1 (ws.map rawD)), .d (.p (eM d)), .v (.pointer (some ⟨g1, 0, none⟩)) 22, .v (.map (some r)) 23, .d (.sl 4 (ws.map fun x => fwD x.1)), .v (kI ws.length) 0, .v (kI i) 0]) (fun v => [(22, .blk g1 97 [.v (kI t) 0, .v (.slice none 0 0) 0, .v (.string (mkS (unkP d (ws.take i)))) 0]), (23, .map r (mapG kI vaK (aput L fn ⟨v, ([] : List FW) ++ [(⟨fn, ft, fu, fd⟩ : FW)]⟩))), (26, .row v 139 4 ((([] : List FW) ++ [(⟨fn, ft, fu, fd⟩ : FW)]).map fwD)), (24, .ext (listA (u8C :: L.map rowK)))]) (fun _ => True) [23, 26] 11 [(0, false), (1, false), (2, false), (3, false), (4, false), (5, false), (7, false)] rfl rfl (by kernel_rfl) (by kernel_rfl) rfl ?_ ?_
          · refine a_alt hT [([(6, true), (8, true), (9, true), (10, true)], true), ([(8, true), (6, true), (9, true), (10, true)], true)] rfl rfl (by kernel_rfl) ⟨?_, ?_, trivial⟩
            · refine a_lookG hT (kv := kI) (va := vaK) L fn none rfl rfl rfl mtW kI_ok zeroW rfl rfl rfl rfl rfl hag ?_
              refine a_asL 62 (b := .row (.slice none 0 0) 26) rfl le_nilrow ?_
              refine a_lit hT 27 rfl rfl rfl rfl (by kernel_rfl) rfl rfl rfl rfl fun x27 => ?_
              refine a_app hT 28 ((([] : List FW) ++ [(⟨fn, ft, fu, fd⟩ : FW)]).map fwD) rfl rfl rfl rfl (by kernel_rfl) rfl rfl rfl rfl rfl (by rw [List.map_append]; rfl) hlimA fun v => ?_
              refine a_as 65 (b := .row v 0) rfl rfl ?_
              refine a_mputG hT (kv := kI) (va := vaK) L fn ⟨v, ([] : List FW) ++ [(⟨fn, ft, fu, fd⟩ : FW)]⟩ rfl rfl rfl mtW kI_ok rfl rfl rfl rfl rfl rfl ?_
              exact a_next hT v [22, 23, 28, 24] rfl rfl trivial ⟨rfl, rfl, rfl, rfl, rfl, rfl, rfl, rfl, rfl, trivial⟩ rfl ⟨⟨rfl, rfl, ⟨rfl, rfl, rfl, trivial⟩⟩, ⟨rfl, rfl⟩, ⟨rfl, rfl, rfl, rfl⟩, rfl, trivial⟩
            · refine a_lit hT 27 rfl rfl rfl rfl (by kernel_rfl) rfl rfl rfl rfl fun x27 => ?_
              refine a_lookG hT (kv := kI) (va := vaK) L fn none rfl rfl rfl mtW kI_ok zeroW rfl rfl rfl rfl rfl hag ?_
              refine a_asL 62 (b := .row (.slice none 0 0) 26) rfl le_nilrow ?_
              refine a_app hT 28 ((([] : List FW) ++ [(⟨fn, ft, fu, fd⟩ : FW)]).map fwD) rfl rfl rfl rfl (by kernel_rfl) rfl rfl rfl rfl rfl (by rw [List.map_append]; rfl) hlimA fun v => ?_
              refine a_as 65 (b := .row v 0) rfl rfl ?_
              refine a_mputG hT (kv := kI) (va := vaK) L fn ⟨v, ([] : List FW) ++ [(⟨fn, ft, fu, fd⟩ : FW)]⟩ rfl rfl rfl mtW kI_ok rfl rfl rfl rfl rfl rfl ?_
              exact a_next hT v [22, 23, 28, 24] rfl rfl trivial ⟨rfl, rfl, rfl, rfl, rfl, rfl, rfl, rfl, rfl, trivial⟩ rfl ⟨⟨rfl, rfl, ⟨rfl, rfl, rfl, trivial⟩⟩, ⟨rfl, rfl⟩, ⟨rfl, rfl, rfl, rfl⟩, rfl, trivial⟩
          rintro v _
          have hunk : unkP d (ws.take (i + 1)) = unkP d (ws.take i) := by rw [htk, unkP_snoc, hkn]; simp
          have hent : Ent [.row v 139 4 ((([] : List FW) ++ [(⟨fn, ft, fu, fd⟩ : FW)]).map fwD), .ext (listA (u8C :: L.map rowK))] [.ext (listA (u8C :: (aput L fn ⟨v, ([] : List FW) ++ [(⟨fn, ft, fu, fd⟩ : FW)]⟩).map rowK))] := by
            have := ent_unfocus (u8C :: L.map rowK) [rowK ((fn : Int), ⟨v, ([] : List FW) ++ [(⟨fn, ft, fu, fd⟩ : FW)]⟩)] []
            rw [List.append_nil, List.append_nil, show (u8C :: L.map rowK) ++ [rowK ((fn : Int), ⟨v, ([] : List FW) ++ [(⟨fn, ft, fu, fd⟩ : FW)]⟩)] = u8C :: (aput L (fn : Int) ⟨v, ([] : List FW) ++ [(⟨fn, ft, fu, fd⟩ : FW)]⟩).map rowK by rw [aput_new hag, List.map_append]; rfl] at this
            exact this
          refine a_nextE hT (i + 1, aput L fn ⟨v, ([] : List FW) ++ [(⟨fn, ft, fu, fd⟩ : FW)]⟩) [22, 23, 26, 24] rfl rfl ⟨⟨by show i + 1 ≤ ws.length; omega, fun k => ?_⟩, by show ws.length - (i + 1) < ws.length - i; omega⟩ ⟨rfl, rfl, rfl, rfl, rfl, rfl, rfl, rfl, by show Value.int .i64 _ = Value.int .i64 _; rw [hw], trivial⟩ rfl (show Ent [.blk g1 97 [.v (kI t) 0, .v (.slice none 0 0) 0, .v (.string (mkS (unkP d (ws.take i)))) 0], .map r (mapG kI vaK (aput L fn ⟨v, ([] : List FW) ++ [(⟨fn, ft, fu, fd⟩ : FW)]⟩)), .row v 139 4 ((([] : List FW) ++ [(⟨fn, ft, fu, fd⟩ : FW)]).map fwD), .ext (listA (u8C :: L.map rowK))] [.blk g1 97 [.v (kI t) 0, .v (.slice none 0 0) 0, .v (.string (mkS (unkP d (ws.take (i + 1))))) 0], .map r (mapG kI vaK (aput L fn ⟨v, ([] : List FW) ++ [(⟨fn, ft, fu, fd⟩ : FW)]⟩)), .ext (listA (u8C :: (aput L fn ⟨v, ([] : List FW) ++ [(⟨fn, ft, fu, fd⟩ : FW)]⟩).map rowK))] from by rw [hunk]; exact Ent.cons _ (Ent.cons _ hent))
          show kAt (aput L fn ⟨v, ([] : List FW) ++ [(⟨fn, ft, fu, fd⟩ : FW)]⟩) k = knP d (ws.take (i + 1)) k
          rw [kAt_put, htk, knP_snoc, hkn, ← i3 k]
          split
          · rename_i e
            subst e
            rw [hold]
            simp
          · rename_i e
            simp [e]
        | some kx =>
          obtain ⟨a, b, hab, hna⟩ := aget_split hag
          have hold : kAt L fn = kx.l := by unfold kAt; rw [hag]; rfl
          have hkl : kx.l.length ≤ ws.length := by rw [← hold, i3]; exact knP_len _ _ _ _
          have hlimA : (kx.l.map fwD).length + [fwD (⟨fn, ft, fu, fd⟩ : FW)].length ≤ lim := by simp; omega
          have hmapL : L.map rowK = a.map rowK ++ ([rowK ((fn : Int), kx)] ++ b.map rowK) := by rw [hab, List.map_append]; rfl
          refine a_ent [24] [26, 24] ([rowK ((fn : Int), kx)] ++ [.ext (listA (u8C :: (a.map rowK ++ b.map rowK)))]) rfl rfl (by have := ent_focus (u8C :: a.map rowK) [rowK ((fn : Int), kx)] (b.map rowK); rw [List.cons_append, ← hmapL] at this; exact this) ?_
          refine a_treeN hT [3, 4, 11, 13, 14, 15, 43, 44, 45] (fun _ : Value => [.v (kI dep) 0, .d (.p (schD s)), .d (.sl 1 (ws.map rawD)), .d (.p (eM d)), .v (.pointer (some ⟨g1, 0, none⟩)) 22, .v (.map (some r)) 23, .d (.sl 4 (ws.map fun x => fwD x.1)), .v (kI ws.length) 0, .v (kI i) 0]) (fun v => [(22, .blk g1 97 [.v (kI t) 0, .v (.slice none 0 0) 0, .v (.string (mkS (unkP d (ws.take i)))) 0]), (23, .map r (mapG kI vaK (aput L fn ⟨v, kx.l ++ [(⟨fn, ft, fu, fd⟩ : FW)]⟩))), (26, .row v 139 4 ((kx.l ++ [(⟨fn, ft, fu, fd⟩ : FW)]).map fwD)), (24, .ext (listA (u8C :: (a.map rowK ++ b.map rowK))))]) (fun _ => True) [23, 26] 11 [(0, false), (1, false), (2, false), (3, false), (4, false), (5, false), (7, false)] rfl rfl (by kernel_rfl) (by kernel_rfl) rfl ?_ ?_
          · refine a_alt hT [([(6, true), (8, true), (9, true), (10, true)], true), ([(8, true), (6, true), (9, true), (10, true)], true)] rfl rfl (by kernel_rfl) ⟨?_, ?_, trivial⟩
            · refine a_lookG hT (kv := kI) (va := vaK) L fn (some kx) rfl rfl rfl mtW kI_ok zeroW rfl rfl rfl rfl rfl hag ?_
              refine a_as 62 (b := .row kx.v 26) rfl rfl ?_
              refine a_lit hT 27 rfl rfl rfl rfl (by kernel_rfl) rfl rfl rfl rfl fun x27 => ?_
              refine a_app hT 28 ((kx.l ++ [(⟨fn, ft, fu, fd⟩ : FW)]).map fwD) rfl rfl rfl rfl (by kernel_rfl) rfl rfl rfl rfl rfl (by rw [List.map_append]; rfl) hlimA fun v => ?_
              refine a_as 65 (b := .row v 0) rfl rfl ?_
              refine a_mputG hT (kv := kI) (va := vaK) L fn ⟨v, kx.l ++ [(⟨fn, ft, fu, fd⟩ : FW)]⟩ rfl rfl rfl mtW kI_ok rfl rfl rfl rfl rfl rfl ?_
              exact a_next hT v [22, 23, 28, 24] rfl rfl trivial ⟨rfl, rfl, rfl, rfl, rfl, rfl, rfl, rfl, rfl, trivial⟩ rfl ⟨⟨rfl, rfl, ⟨rfl, rfl, rfl, trivial⟩⟩, ⟨rfl, rfl⟩, ⟨rfl, rfl, rfl, rfl⟩, rfl, trivial⟩
            · refine a_lit hT 27 rfl rfl rfl rfl (by kernel_rfl) rfl rfl rfl rfl fun x27 => ?_
              refine a_lookG hT (kv := kI) (va := vaK) L fn (some kx) rfl rfl rfl mtW kI_ok zeroW rfl rfl rfl rfl rfl hag ?_
              refine a_as 62 (b := .row kx.v 26) rfl rfl ?_
              refine a_app hT 28 ((kx.l ++ [(⟨fn, ft, fu, fd⟩ : FW)]).map fwD) rfl rfl rfl rfl (by kernel_rfl) rfl rfl rfl rfl rfl (by rw [List.map_append]; rfl) hlimA fun v => ?_
              refine a_as 65 (b := .row v 0) rfl rfl ?_
              refine a_mputG hT (kv := kI) (va := vaK) L fn ⟨v, kx.l ++ [(⟨fn, ft, fu, fd⟩ : FW)]⟩ rfl rfl rfl mtW kI_ok rfl rfl rfl rfl rfl rfl ?_
              exact a_next hT v [22, 23, 28, 24] rfl rfl trivial ⟨rfl, rfl, rfl, rfl, rfl, rfl, rfl, rfl, rfl, trivial⟩ rfl ⟨⟨rfl, rfl, ⟨rfl, rfl, rfl, trivial⟩⟩, ⟨rfl, rfl⟩, ⟨rfl, rfl, rfl, rfl⟩, rfl, trivial⟩
          rintro v _
          have hunk : unkP d (ws.take (i + 1)) = unkP d (ws.take i) := by rw [htk, unkP_snoc, hkn]; simp
          have hent : Ent [.row v 139 4 ((kx.l ++ [(⟨fn, ft, fu, fd⟩ : FW)]).map fwD), .ext (listA (u8C :: (a.map rowK ++ b.map rowK)))] [.ext (listA (u8C :: (aput L fn ⟨v, kx.l ++ [(⟨fn, ft, fu, fd⟩ : FW)]⟩).map rowK))] := by
            have := ent_unfocus (u8C :: a.map rowK) [rowK ((fn : Int), ⟨v, kx.l ++ [(⟨fn, ft, fu, fd⟩ : FW)]⟩)] (b.map rowK)
            rw [show (u8C :: a.map rowK) ++ ([rowK ((fn : Int), ⟨v, kx.l ++ [(⟨fn, ft, fu, fd⟩ : FW)]⟩)] ++ b.map rowK) = u8C :: (aput L (fn : Int) ⟨v, kx.l ++ [(⟨fn, ft, fu, fd⟩ : FW)]⟩).map rowK by rw [hab, aput_mid hna, List.map_append]; rfl] at this
            exact this
          refine a_nextE hT (i + 1, aput L fn ⟨v, kx.l ++ [(⟨fn, ft, fu, fd⟩ : FW)]⟩) [22, 23, 26, 24] rfl rfl ⟨⟨by show i + 1 ≤ ws.length; omega, fun k => ?_⟩, by show ws.length - (i + 1) < ws.length - i; omega⟩ ⟨rfl, rfl, rfl, rfl, rfl, rfl, rfl, rfl, by show Value.int .i64 _ = Value.int .i64 _; rw [hw], trivial⟩ rfl (show Ent [.blk g1 97 [.v (kI t) 0, .v (.slice none 0 0) 0, .v (.string (mkS (unkP d (ws.take i)))) 0], .map r (mapG kI vaK (aput L fn ⟨v, kx.l ++ [(⟨fn, ft, fu, fd⟩ : FW)]⟩)), .row v 139 4 ((kx.l ++ [(⟨fn, ft, fu, fd⟩ : FW)]).map fwD), .ext (listA (u8C :: (a.map rowK ++ b.map rowK)))] [.blk g1 97 [.v (kI t) 0, .v (.slice none 0 0) 0, .v (.string (mkS (unkP d (ws.take (i + 1))))) 0], .map r (mapG kI vaK (aput L fn ⟨v, kx.l ++ [(⟨fn, ft, fu, fd⟩ : FW)]⟩)), .ext (listA (u8C :: (aput L fn ⟨v, kx.l ++ [(⟨fn, ft, fu, fd⟩ : FW)]⟩).map rowK))] from by rw [hunk]; exact Ent.cons _ (Ent.cons _ hent))
          show kAt (aput L fn ⟨v, kx.l ++ [(⟨fn, ft, fu, fd⟩ : FW)]⟩) k = knP d (ws.take (i + 1)) k
          rw [kAt_put, htk, knP_snoc, hkn, ← i3 k]
          split
          · rename_i e
            subst e
            rw [hold]
            simp
          · rename_i e
            simp [e]
      | false =>
        rw [hkn] at hK
        refine a_ix hT _ rfl rfl rfl rfl rfl rfl (by first | omega | assumption) (by first | assumption | rfl) ?_
        refine a_new hT hZ 25 rfl rfl rfl rfl fun g2 => ?_
        refine a_call hT rfl rfl rfl (by kernel_rfl) hK [] [] rfl rfl ?_
        rintro _ _ ⟨rfl, rfl⟩
        refine a_f hT rfl rfl rfl ?_
        refine a_draw hT [] true [(0, false), (1, false), (2, false), (3, false), (4, false), (5, false), (6, false), (7, false), (8, false), (9, true)] rfl rfl (by kernel_rfl) (by kernel_rfl) rfl ?_
        refine a_ix hT _ rfl rfl rfl rfl rfl rfl (by first | omega | assumption) (by first | assumption | rfl) ?_
        refine a_strP hT (l := raw) rfl rfl rfl rfl rfl rfl rfl ?_
        have hunk : unkP d (ws.take (i + 1)) = unkP d (ws.take i) ++ raw := by rw [htk, unkP_snoc, hkn]; simp
        have hul := unkP_len d ws (i + 1)
        rw [hunk, List.length_append] at hul
        refine a_bin hT _ rfl rfl rfl (by decide) rfl rfl (fun w => bin_cat (by show (mkS (unkP d (ws.take i))).size + (mkS raw).size ≤ _; rw [mkS_size, mkS_size]; omega) w) ?_
        refine a_next hT (i + 1, L) [22, 23, 24] rfl rfl ⟨⟨by show i + 1 ≤ ws.length; omega, fun k => ?_⟩, by show ws.length - (i + 1) < ws.length - i; omega⟩ ⟨rfl, rfl, rfl, rfl, rfl, rfl, rfl, rfl, by show Value.int .i64 _ = Value.int .i64 _; rw [hw], trivial⟩ rfl ⟨⟨rfl, rfl, ⟨rfl, rfl, by show Value.string _ = Value.string _; rw [hunk, ← mkS_app]; rfl, trivial⟩⟩, ⟨rfl, rfl⟩, rfl, trivial⟩
        show kAt L k = knP d (ws.take (i + 1)) k
        rw [htk, knP_snoc, hkn, ← i3 k]
        simp
    · refine a_f hT rfl rfl (decide_eq_false (by show ¬ (i : Int) < (ws.length : Int); omega)) ?_
      have hi : i = ws.length := by omega
      subst hi
      rw [List.take_length] at i3 ⊢
      refine a_ent [24] [60, 24] [u8C, .ext (listA (L.map rowK))] rfl rfl (ent_focus [] [u8C] (L.map rowK)) ?_
      refine a_freezeM 23 24 (kv := kI) (vf := KX.v) (df := fun x => x.l.map fwD) L rfl rfl ?_
      refine a_nilrowB 22 1 40 99 2 rfl rfl rfl ?_
      have hlf : (d.fs.map eF).length = d.fs.length := List.length_map _
      have hdl := hdlen
      generalize hkn : knP d ws = kn at hm i3
      have hm : M = exm (fun fs => .msg t fs (mkS (unkP d ws))) (fldsG (decM s n) kn d.fs) := by rw [hm, ← hkn]
      have hkl : ∀ k, (kn k).length ≤ 4096 := fun k => by rw [← hkn]; have := knP_len d ws ws.length k; rw [List.take_length] at this; omega
      have hkf : ∀ k, ((kn k).flatMap (·.data)).length ≤ 4096 := fun k => by rw [← hkn]; have := kn_flat hraw d k; rw [hcat] at this; omega
      have hkd : ∀ k, ∀ x ∈ kn k, x.data.length ≤ 4096 := fun k x hx => by
        rw [← hkn] at hx
        unfold knP at hx
        obtain ⟨y, hy, rfl⟩ := List.mem_map.1 (List.mem_filter.1 hx).1
        have := hw2 y hy
        omega
      refine a_loop hT [3, 4, 14, 15, 77, 78, 79] (fun x : Nat × List VF × Value => [.v (kI dep) 0, .d (.p (schD s)), .v (.pointer (some ⟨g1, 0, none⟩)) 22, .v (.map (some r)) 23, .d (.sl 5 (d.fs.map eF)), .v (kI d.fs.length) 0, .v (kI x.1) 0]) (fun x => [(22, .blk g1 97 [.v (kI t) 0, .row x.2.2 40, .v (.string (mkS (unkP d ws))) 0]), (40, .row x.2.2 99 2 (vfsD x.2.1)), (23, .map r (mapG kI vaKD L)), (60, u8C)]) (fun x => x.1 ≤ d.fs.length ∧ exm (x.2.1 ++ ·) (fldsG (decM s n) kn (d.fs.drop x.1)) = fldsG (decM s n) kn d.fs ∧ x.2.1.length ≤ x.1) (fun x => d.fs.length - x.1) (0, [], .slice none 0 0) [22, 40, 23, 60] rfl rfl ⟨Nat.zero_le _, exm_nil _, Nat.le_refl _⟩ ⟨rfl, rfl, rfl, rfl, rfl, by rw [← hlf]; rfl, rfl, trivial⟩ rfl ⟨⟨rfl, rfl, ⟨rfl, rfl, rfl, trivial⟩⟩, ⟨rfl, rfl, rfl, rfl⟩, ⟨rfl, rfl⟩, rfl, trivial⟩ ?_
      rintro ⟨i, done, vf⟩ ⟨j2, j3, j4⟩
      dsimp only at j2 j3 j4
      have hw := wN i (by omega)
      rcases Nat.lt_or_ge i d.fs.length with hil | hil
      · have hat : (d.fs.map eF)[(i : Int).toNat]? = some (eF d.fs[i]) := by simp [hil]
        have hmem := List.getElem_mem hil
        rw [drop_at hil, fldsG_cons] at j3
        generalize d.fs[i] = f at hat hmem j3
        have hty := hs.ty d hdm f hmem
        have hO := own_specG (f := f) (l := kn f.num) (by have := hkl f.num; omega) (by have := hkf f.num; omega)
        have hol : (ownG f (kn f.num)).length ≤ 4096 := ownG_len (hkl _)
        have hod : ∀ x ∈ ownG f (kn f.num), x.data.length ≤ 4096 := ownG_data (hkd _) (hkf _)
        have j5 := j3
        generalize ownG f (kn f.num) = ow at hO hol hod j5
        have how : (ow.map fwD).length = ow.length := List.length_map _
        refine a_t hT rfl rfl (decide_eq_true (by show (i : Int) < (d.fs.length : Int); omega)) ?_
        refine a_ix hT _ rfl rfl rfl rfl rfl rfl (by first | omega | assumption) (by first | assumption | rfl) ?_
        refine a_new hT hZ 25 rfl rfl rfl rfl fun g2 => ?_
        refine a_run hT 1 rfl rfl ?_
        refine a_freezeK 19 25 rfl rfl rfl rfl rfl ?_
        refine a_lookG hT (kv := kI) (va := vaKD) L f.num (aget L f.num) rfl rfl rfl mtW kI_ok zeroW rfl rfl rfl rfl rfl rfl ?_
        refine a_asL 87 (b := .d (.sl 4 ((kAt L f.num).map fwD))) rfl (kAt_le L f.num) ?_
        rw [i3]
        refine a_call hT rfl rfl rfl (by kernel_rfl) hO [] [] rfl rfl ?_
        rintro _ _ ⟨rfl, rfl⟩
        refine a_nilrow 20 41 31 1 rfl rfl ?_
        refine a_loop hT [3, 4, 14, 15, 19, 20, 77, 78, 79, 88, 89, 90] (fun x : Nat × List VL × Value => [.v (kI dep) 0, .d (.p (schD s)), .v (.pointer (some ⟨g1, 0, none⟩)) 22, .v (.map (some r)) 23, .d (.p (eF f)), .row x.2.2 41, .d (.sl 5 (d.fs.map eF)), .v (kI d.fs.length) 0, .v (kI i) 0, .d (.sl 4 (ow.map fwD)), .v (kI ow.length) 0, .v (kI x.1) 0]) (fun x => [(22, .blk g1 97 [.v (kI t) 0, .row vf 40, .v (.string (mkS (unkP d ws))) 0]), (40, .row vf 99 2 (vfsD done)), (23, .map r (mapG kI vaKD L)), (41, .row x.2.2 31 1 (vlsD x.2.1)), (60, u8C)]) (fun x => x.1 ≤ ow.length ∧ exm (x.2.1 ++ ·) (valsG (decM s n) f (ow.drop x.1)) = valsG (decM s n) f ow ∧ x.2.1.length ≤ x.1 * 5000) (fun x => ow.length - x.1) (0, [], .slice none 0 0) [22, 40, 23, 41, 60] rfl rfl ⟨Nat.zero_le _, exm_nil _, by simp⟩ ⟨rfl, rfl, rfl, rfl, rfl, rfl, rfl, rfl, rfl, rfl, by rw [← how]; rfl, rfl, trivial⟩ rfl ⟨⟨rfl, rfl, ⟨rfl, rfl, rfl, trivial⟩⟩, ⟨rfl, rfl, rfl, rfl⟩, ⟨rfl, rfl⟩, ⟨rfl, rfl, rfl, rfl⟩, rfl, trivial⟩ ?_
        rintro ⟨j, acc, v20⟩ ⟨l2, l3, l4⟩
        dsimp only at l2 l3 l4
        have hwj := wN j (by omega)
        have hvl := vlsD_len acc
        rcases Nat.lt_or_ge j ow.length with hjl | hjl
        · have hat2 : (ow.map fwD)[(j : Int).toNat]? = some (fwD ow[j]) := by simp [hjl]
          have hxd := hod _ (List.getElem_mem hjl)
          rw [drop_at hjl, valsG_cons] at l3
          generalize ow[j] = x at hat2 hxd l3
          have hV := values_specG (s := s) (rec := decM s n) (f := f) (x := x) (d := dep) (by omega) (by omega) (fun hk => ih2 (hty hk).1 (hty hk).2 hxd) (fun e _ he => decM_err _ _ _ _ he)
          have hvn := fun l => valuesG_len (rec := decM s n) (f := f) (x := x) (l := l)
          have l5 := l3
          generalize valuesG (decM s n) f x = uv at hV hvn l5
          obtain ⟨xn, xt, xu, xd⟩ := x
          refine a_t hT rfl rfl (decide_eq_true (by show (j : Int) < (ow.length : Int); omega)) ?_
          cases uv with
          | error er =>
            have hM : M = .error er := by rw [hm, ← j5, ← l5]; rfl
            refine a_ix hT _ rfl rfl rfl rfl rfl rfl (by omega) hat2 ?_
            refine a_new hT hZ 42 rfl rfl rfl rfl fun g3 => ?_
            refine a_call hT rfl rfl rfl (by kernel_rfl) hV [60] [60] rfl rfl ?_
            rintro _ _ ⟨⟨hne, dd, rfl⟩, rfl⟩
            refine a_if hT rfl rfl (fun hq => ?_) (fun hq => ?_)
            · refine a_ret hT [60] rfl rfl rfl rfl rfl rfl ?_
              exact ⟨_, Le.refl _, by rw [hM]; rfl, rfl⟩
            · exact absurd (show er = 0 by simpa using hq) hne
          | ok l =>
            have hll : l.length ≤ 4097 := by have := hvn l rfl; omega
            have hvl2 := vlsD_len l
            have l6 : exm ((acc ++ l) ++ ·) (valsG (decM s n) f (ow.drop (j + 1))) = valsG (decM s n) f ow := by rw [← l5]; exact (exm_app _ _ _).symm
            refine a_ix hT _ rfl rfl rfl rfl rfl rfl (by first | omega | assumption) (by first | assumption | rfl) ?_
            refine a_new hT hZ 42 rfl rfl rfl rfl fun g3 => ?_
            refine a_call hT rfl rfl rfl (by kernel_rfl) hV [60] [60] rfl rfl ?_
            rintro _ _ ⟨rfl, rfl⟩
            refine a_f hT rfl rfl rfl ?_
            refine a_app hT 41 _ rfl rfl rfl rfl (by kernel_rfl) rfl rfl rfl rfl rfl rfl (by first | (simp; done) | (simp; omega) | (simp; unfold lim; omega) | (simp; assumption)) fun v => ?_
            exact a_next hT (j + 1, acc ++ l, v) [22, 40, 23, 41, 60] rfl rfl ⟨⟨by show j + 1 ≤ ow.length; omega, l6, by show (acc ++ l).length ≤ (j + 1) * 5000; rw [List.length_append]; omega⟩, by show ow.length - (j + 1) < ow.length - j; omega⟩ ⟨rfl, rfl, rfl, rfl, rfl, rfl, rfl, rfl, rfl, rfl, rfl, by show Value.int .i64 _ = Value.int .i64 _; rw [hwj], trivial⟩ rfl ⟨⟨rfl, rfl, ⟨rfl, rfl, rfl, trivial⟩⟩, ⟨rfl, rfl, rfl, rfl⟩, ⟨rfl, rfl⟩, ⟨rfl, rfl, rfl, (vlsD_app acc l).symm⟩, rfl, trivial⟩
        · refine a_f hT rfl rfl (decide_eq_false (by show ¬ (j : Int) < (ow.length : Int); omega)) ?_
          rw [List.drop_eq_nil_of_le hjl] at l3
          have l7 : valsG (decM s n) f ow = .ok acc := by rw [← l3]; show Except.ok (acc ++ []) = _; rw [List.append_nil]
          rw [l7] at j5
          have j6 : exm (done ++ ·) (exm (fun q => if keepP f acc then VF.mk f.num acc :: q else q) (fldsG (decM s n) kn (d.fs.drop (i + 1)))) = fldsG (decM s n) kn d.fs := j5
          have hacc : acc.length ≤ 30000000 := by have : j * 5000 ≤ 4096 * 5000 := Nat.mul_le_mul_right _ (by omega); omega
          refine a_freeze 20 41 rfl rfl rfl rfl ?_
          have hvfl := vfsD_len done
          cases hkp : keepP f acc with
          | false =>
            rw [hkp] at j6
            have j7 : exm (done ++ ·) (fldsG (decM s n) kn (d.fs.drop (i + 1))) = fldsG (decM s n) kn d.fs := by rw [← j6]; simp only [Bool.false_eq_true, if_false]; rw [exm_id]
            cases acc with
            | nil =>
              refine a_gf hT rfl rfl rfl rfl ?_
              refine a_f hT rfl rfl rfl ?_
              exact a_next hT (i + 1, done, vf) [22, 40, 23, 60] rfl rfl ⟨⟨by show i + 1 ≤ d.fs.length; omega, j7, by show done.length ≤ i + 1; omega⟩, by show d.fs.length - (i + 1) < d.fs.length - i; omega⟩ ⟨rfl, rfl, rfl, rfl, rfl, rfl, by show Value.int .i64 _ = Value.int .i64 _; rw [hw], trivial⟩ rfl ⟨⟨rfl, rfl, ⟨rfl, rfl, rfl, trivial⟩⟩, ⟨rfl, rfl, rfl, rfl⟩, ⟨rfl, rfl⟩, rfl, trivial⟩
            | cons a0 acc =>
              have hZr := Zero_spec (v := a0)
              refine a_g hT rfl rfl rfl (fun h => ?_) (fun h => ?_)
              · have h := of_decide_eq_true h
                refine a_g hT rfl rfl rfl (fun h1 => ?_) (fun h1 => ?_)
                · refine a_gt hT rfl rfl rfl rfl ?_
                  refine a_t hT rfl rfl rfl ?_
                  refine a_build hT hZ [.v (kI (FDP.num f)) 0, .d (A.Dat.sl 1 (vlsD (Prod.fst (Prod.snd (j, a0 :: acc, v20)))))] rfl rfl rfl rfl rfl rfl ?_
                  refine a_lit hT 41 rfl rfl rfl rfl (by kernel_rfl) rfl rfl rfl rfl fun x41 => ?_
                  refine a_app hT 40 _ rfl rfl rfl rfl (by kernel_rfl) rfl rfl rfl rfl rfl rfl (by first | (simp; done) | (simp; omega) | (simp; unfold lim; omega) | (simp; assumption)) fun v => ?_
                  exfalso; unfold keepP at hkp; simp_all
                · refine a_g hT rfl rfl rfl (fun h2 => ?_) (fun h2 => ?_)
                  · have h2 : f.kind = 10 := eq_of_beq h2
                    have hz0 := valsG_msg h2 (fun t b v h => decM_msg h) l7 a0 (by simp)
                    exfalso; unfold keepP at hkp; simp_all
                  · have h2 := ne_of_beq_false h2
                    refine a_ix hT _ rfl rfl rfl rfl rfl rfl (by first | omega | assumption) (by first | assumption | rfl) ?_
                    refine a_call hT rfl rfl rfl (by kernel_rfl) hZr [] [] rfl rfl ?_
                    rintro _ _ ⟨rfl, rfl⟩
                    refine a_if hT rfl rfl (fun h3 => ?_) (fun h3 => ?_)
                    · simp at h3
                      refine a_build hT hZ [.v (kI (FDP.num f)) 0, .d (A.Dat.sl 1 (vlsD (Prod.fst (Prod.snd (j, a0 :: acc, v20)))))] rfl rfl rfl rfl rfl rfl ?_
                      refine a_lit hT 41 rfl rfl rfl rfl (by kernel_rfl) rfl rfl rfl rfl fun x41 => ?_
                      refine a_app hT 40 _ rfl rfl rfl rfl (by kernel_rfl) rfl rfl rfl rfl rfl rfl (by first | (simp; done) | (simp; omega) | (simp; unfold lim; omega) | (simp; assumption)) fun v => ?_
                      exfalso; unfold keepP at hkp; simp_all
                    · simp at h3
                      exact a_next hT (i + 1, done, vf) [22, 40, 23, 60] rfl rfl ⟨⟨by show i + 1 ≤ d.fs.length; omega, j7, by show done.length ≤ i + 1; omega⟩, by show d.fs.length - (i + 1) < d.fs.length - i; omega⟩ ⟨rfl, rfl, rfl, rfl, rfl, rfl, by show Value.int .i64 _ = Value.int .i64 _; rw [hw], trivial⟩ rfl ⟨⟨rfl, rfl, ⟨rfl, rfl, rfl, trivial⟩⟩, ⟨rfl, rfl, rfl, rfl⟩, ⟨rfl, rfl⟩, rfl, trivial⟩
              · have h := of_decide_eq_false h
                refine a_f hT rfl rfl rfl ?_
                exact absurd (show ((vlsD (a0 :: acc)).length : Int) > 0 by rw [vlsD_len]; simp only [List.length_cons]; omega) h
          | true =>
            rw [hkp] at j6
            have j7 : exm ((done ++ [VF.mk f.num acc]) ++ ·) (fldsG (decM s n) kn (d.fs.drop (i + 1))) = fldsG (decM s n) kn d.fs := by rw [← j6]; simp only [if_true]; rw [exm_cons]
            cases acc with
            | nil => cases hkp
            | cons a0 acc =>
              have hZr := Zero_spec (v := a0)
              refine a_g hT rfl rfl rfl (fun h => ?_) (fun h => ?_)
              · have h := of_decide_eq_true h
                refine a_g hT rfl rfl rfl (fun h1 => ?_) (fun h1 => ?_)
                · refine a_gt hT rfl rfl rfl rfl ?_
                  refine a_t hT rfl rfl rfl ?_
                  refine a_build hT hZ [.v (kI (FDP.num f)) 0, .d (A.Dat.sl 1 (vlsD (Prod.fst (Prod.snd (j, a0 :: acc, v20)))))] rfl rfl rfl rfl rfl rfl ?_
                  refine a_lit hT 41 rfl rfl rfl rfl (by kernel_rfl) rfl rfl rfl rfl fun x41 => ?_
                  refine a_app hT 40 _ rfl rfl rfl rfl (by kernel_rfl) rfl rfl rfl rfl rfl rfl (by first | (simp; done) | (simp; omega) | (simp; unfold lim; omega) | (simp; assumption)) fun v => ?_
                  exact a_next hT (i + 1, done ++ [VF.mk f.num (a0 :: acc)], v) [22, 40, 23, 60] rfl rfl ⟨⟨by show i + 1 ≤ d.fs.length; omega, j7, by show (done ++ [_]).length ≤ i + 1; rw [List.length_append]; simp only [List.length_cons, List.length_nil]; omega⟩, by show d.fs.length - (i + 1) < d.fs.length - i; omega⟩ ⟨rfl, rfl, rfl, rfl, rfl, rfl, by show Value.int .i64 _ = Value.int .i64 _; rw [hw], trivial⟩ rfl ⟨⟨rfl, rfl, ⟨rfl, rfl, rfl, trivial⟩⟩, ⟨rfl, rfl, rfl, (vfsD_app done [VF.mk f.num (a0 :: acc)]).symm⟩, ⟨rfl, rfl⟩, rfl, trivial⟩
                · refine a_g hT rfl rfl rfl (fun h2 => ?_) (fun h2 => ?_)
                  · have h2 : f.kind = 10 := eq_of_beq h2
                    refine a_t hT rfl rfl rfl ?_
                    refine a_build hT hZ [.v (kI (FDP.num f)) 0, .d (A.Dat.sl 1 (vlsD (Prod.fst (Prod.snd (j, a0 :: acc, v20)))))] rfl rfl rfl rfl rfl rfl ?_
                    refine a_lit hT 41 rfl rfl rfl rfl (by kernel_rfl) rfl rfl rfl rfl fun x41 => ?_
                    refine a_app hT 40 _ rfl rfl rfl rfl (by kernel_rfl) rfl rfl rfl rfl rfl rfl (by first | (simp; done) | (simp; omega) | (simp; unfold lim; omega) | (simp; assumption)) fun v => ?_
                    exact a_next hT (i + 1, done ++ [VF.mk f.num (a0 :: acc)], v) [22, 40, 23, 60] rfl rfl ⟨⟨by show i + 1 ≤ d.fs.length; omega, j7, by show (done ++ [_]).length ≤ i + 1; rw [List.length_append]; simp only [List.length_cons, List.length_nil]; omega⟩, by show d.fs.length - (i + 1) < d.fs.length - i; omega⟩ ⟨rfl, rfl, rfl, rfl, rfl, rfl, by show Value.int .i64 _ = Value.int .i64 _; rw [hw], trivial⟩ rfl ⟨⟨rfl, rfl, ⟨rfl, rfl, rfl, trivial⟩⟩, ⟨rfl, rfl, rfl, (vfsD_app done [VF.mk f.num (a0 :: acc)]).symm⟩, ⟨rfl, rfl⟩, rfl, trivial⟩
                  · have h2 := ne_of_beq_false h2
                    refine a_ix hT _ rfl rfl rfl rfl rfl rfl (by first | omega | assumption) (by first | assumption | rfl) ?_
                    refine a_call hT rfl rfl rfl (by kernel_rfl) hZr [] [] rfl rfl ?_
                    rintro _ _ ⟨rfl, rfl⟩
                    refine a_if hT rfl rfl (fun h3 => ?_) (fun h3 => ?_)
                    · simp at h3
                      refine a_build hT hZ [.v (kI (FDP.num f)) 0, .d (A.Dat.sl 1 (vlsD (Prod.fst (Prod.snd (j, a0 :: acc, v20)))))] rfl rfl rfl rfl rfl rfl ?_
                      refine a_lit hT 41 rfl rfl rfl rfl (by kernel_rfl) rfl rfl rfl rfl fun x41 => ?_
                      refine a_app hT 40 _ rfl rfl rfl rfl (by kernel_rfl) rfl rfl rfl rfl rfl rfl (by first | (simp; done) | (simp; omega) | (simp; unfold lim; omega) | (simp; assumption)) fun v => ?_
                      exact a_next hT (i + 1, done ++ [VF.mk f.num (a0 :: acc)], v) [22, 40, 23, 60] rfl rfl ⟨⟨by show i + 1 ≤ d.fs.length; omega, j7, by show (done ++ [_]).length ≤ i + 1; rw [List.length_append]; simp only [List.length_cons, List.length_nil]; omega⟩, by show d.fs.length - (i + 1) < d.fs.length - i; omega⟩ ⟨rfl, rfl, rfl, rfl, rfl, rfl, by show Value.int .i64 _ = Value.int .i64 _; rw [hw], trivial⟩ rfl ⟨⟨rfl, rfl, ⟨rfl, rfl, rfl, trivial⟩⟩, ⟨rfl, rfl, rfl, (vfsD_app done [VF.mk f.num (a0 :: acc)]).symm⟩, ⟨rfl, rfl⟩, rfl, trivial⟩
                    · simp at h3
                      exfalso; unfold keepP at hkp; simp_all
              · have h := of_decide_eq_false h
                refine a_f hT rfl rfl rfl ?_
                exact absurd (show ((vlsD (a0 :: acc)).length : Int) > 0 by rw [vlsD_len]; simp only [List.length_cons]; omega) h
      · refine a_f hT rfl rfl (decide_eq_false (by show ¬ (i : Int) < (d.fs.length : Int); omega)) ?_
        rw [List.drop_eq_nil_of_le hil] at j3
        have hM : M = .ok (.msg t done (mkS (unkP d ws))) := by rw [hm, ← j3]; show Except.ok (VL.msg t (done ++ []) _) = _; rw [List.append_nil]
        refine a_freezeB 22 1 40 rfl rfl rfl rfl rfl ?_
        refine a_ret hT [60] rfl rfl rfl rfl rfl rfl ?_
        exact ⟨_, Le.tup (.cons (le_ifcA rfl) (.cons (Le.refl _) .nil)), by rw [hM]; rfl, rfl⟩
end Go.Proofs.YtjcolfogmmjaoaaGreatDoor
end

section
set_option linter.unusedVariables false
set_option linter.unusedSimpArgs false
set_option maxRecDepth 100000
set_option maxHeartbeats 1000000
namespace Go.Proofs.YtjcolfogmmjaoaaGreatDoor
open V A
theorem AppendR_spec {l : List UInt8} {n : Nat} (hn : n < 18446744073709551616) (hl : l.length ≤ 900000) : FSpec Tryz.prog 134 [.d (A.bytesD l), .v (kU n) 0] [] fun a cs => ∃ v, a = .row v 1 ∧ cs = [.row v 5 1 ((l ++ varP n).map eB)] := by
  have hlim : lim = 4294967296 := rfl
  have hlen := bytesD_len l
  rw [varP_vb hn]
  refine a_enter hT [.d (A.bytesD l), .v (kU n) 0] [] Tryz.func134 rfl rfl rfl ⟨Fit.refl _, rfl, trivial⟩ fun c' => ?_
  refine a_mkslice hT 1 (z := .int .u8 0) 0 (l.length + 10) rfl rfl rfl rfl (by kernel_rfl) (by kernel_rfl) rfl rfl rfl rfl (by show IntKind.i64.wrap (((l.map eB).length : Int) + 10) = _; rw [hlen, w64 (by omega) (by omega)]; omega) (Nat.zero_le _) (by omega) fun v => ?_
  refine a_app hT 1 (l.map eB) rfl rfl rfl rfl (by kernel_rfl) rfl rfl rfl rfl rfl rfl (by show 0 + (l.map eB).length ≤ lim; omega) fun v0 => ?_
  refine a_loop hT [1, 5] (fun y : List UInt8 × Nat × Value => [.v (kU y.2.1) 0, .row y.2.2 1]) (fun y => [(1, .row y.2.2 5 1 (y.1.map eB))]) (fun y => y.1 ++ vb y.2.1 = l ++ vb n ∧ y.2.1 < 18446744073709551616) (fun y => y.2.1) (l, n, v0) [1] rfl rfl ⟨rfl, hn⟩ ⟨rfl, rfl, trivial⟩ rfl ⟨⟨rfl, rfl, rfl, rfl⟩, trivial⟩ ?_
  rintro ⟨acc, m, v⟩ ⟨i1, i2⟩
  dsimp only at i1 i2
  have hal : acc.length ≤ l.length + 10 := by
    have h1 := congrArg List.length i1
    have h2 := vb_len10 hn
    rw [List.length_append, List.length_append] at h1
    omega
  have hvm : vb m = vb m := rfl
  conv at hvm => rhs; unfold vb
  by_cases hm : 127 < m
  · rw [if_pos hm] at hvm
    refine a_t hT rfl rfl (decide_eq_true (by show (m : Int) ≥ 128; omega)) ?_
    refine a_bin hT _ rfl rfl rfl (by decide) rfl rfl (fun w => (bin_or w)) ?_
    refine a_lit hT 20 rfl rfl rfl rfl (by kernel_rfl) rfl rfl rfl rfl fun x20 => ?_
    refine a_app hT 1 _ rfl rfl rfl rfl (by kernel_rfl) rfl rfl rfl rfl rfl rfl (by simp only [List.length_map, List.length_cons, List.length_nil]; omega) fun v1 => ?_
    refine a_bin hT _ rfl rfl rfl (by decide) rfl rfl (fun w => (bin_shr (by omega) w)) ?_
    exact a_next hT (acc ++ [UInt8.ofNat (m % 128 + 128)], m / 128, v1) [1] rfl rfl ⟨⟨by rw [← i1, hvm]; simp, by show m / 128 < _; omega⟩, by show m / 128 < m; omega⟩ ⟨congrArg (Value.int .u64) (shr7 m), rfl, trivial⟩ rfl ⟨⟨rfl, rfl, rfl, by show _ = (acc ++ [_]).map eB; rw [List.map_append]; show _ ++ [[A.Dat.v (.int .u8 _)]] = _ ++ [[A.Dat.v (.int .u8 _)]]; rw [byte_or]⟩, trivial⟩
  · rw [if_neg hm] at hvm
    refine a_f hT rfl rfl (decide_eq_false (by show ¬ (m : Int) ≥ 128; omega)) ?_
    refine a_lit hT 20 rfl rfl rfl rfl (by kernel_rfl) rfl rfl rfl rfl fun x20 => ?_
    refine a_app hT 1 _ rfl rfl rfl rfl (by kernel_rfl) rfl rfl rfl rfl rfl rfl (by simp only [List.length_map, List.length_cons, List.length_nil]; omega) fun v1 => ?_
    refine a_ret hT [1] rfl rfl rfl rfl rfl rfl ?_
    exact ⟨_, rfl, by rw [← i1, hvm, List.map_append]; show [Chunk.row _ _ _ (_ ++ [[A.Dat.v (.int .u8 _)]])] = [Chunk.row _ _ _ (_ ++ [[A.Dat.v (.int .u8 _)]])]; rw [byte_lo hm]⟩
theorem Append_spec {l : List UInt8} {n : Nat} (hn : n < 18446744073709551616) (hl : l.length ≤ 900000) : FSpec Tryz.prog 134 [.d (A.bytesD l), .v (kU n) 0] [] fun a cs => a = .d (A.bytesD (l ++ varP n)) ∧ cs = [] := (AppendR_spec hn hl).freeze
theorem byte_nat (n : Nat) : IntKind.u8.wrap (n : Int) = (((UInt8.ofNat n).toNat : Nat) : Int) := by
  unfold IntKind.wrap
  simp [IntKind.bits, IntKind.signed]
theorem shrN (n k : Nat) (hk : k ≤ 64) : Int.fdiv (n : Int) (2 ^ k) = ((n / 2 ^ k : Nat) : Int) := by
  rw [Int.fdiv_eq_ediv_of_nonneg _ (by exact Int.le_of_lt (Int.pow_pos (by decide)))]
  push_cast
  rfl
theorem Append32_spec {l : List UInt8} {n : Nat} (hl : l.length ≤ 900000) : FSpec Tryz.prog 136 [.d (A.bytesD l), .v (.int .u32 (n : Int)) 0] [] fun a cs => a = .d (A.bytesD (l ++ le32 n)) ∧ cs = [] := by
  have hlim : lim = 4294967296 := rfl
  have hlen := bytesD_len l
  have key : FSpec Tryz.prog 136 [.d (A.bytesD l), .v (.int .u32 (n : Int)) 0] [] fun a cs => ∃ v, a = .row v 1 ∧ cs = [.row v 5 1 ((l ++ le32 n).map eB)] := by
    refine a_enter hT [.d (A.bytesD l), .v (.int .u32 (n : Int)) 0] [] Tryz.func136 rfl rfl rfl ⟨Fit.refl _, rfl, trivial⟩ fun c' => ?_
    refine a_lit hT 1 rfl rfl rfl rfl (by kernel_rfl) rfl rfl rfl rfl fun x1 => ?_
    refine a_app hT 1 (l.map eB) rfl rfl rfl rfl (by kernel_rfl) rfl rfl rfl rfl rfl rfl (by show 0 + (l.map eB).length ≤ lim; omega) fun v0 => ?_
    refine a_bin hT _ rfl rfl rfl (by decide) rfl rfl (fun w => (bin_shr (by omega) w)) ?_
    refine a_bin hT _ rfl rfl rfl (by decide) rfl rfl (fun w => (bin_shr (by omega) w)) ?_
    refine a_bin hT _ rfl rfl rfl (by decide) rfl rfl (fun w => (bin_shr (by omega) w)) ?_
    refine a_lit hT 2 rfl rfl rfl rfl (by kernel_rfl) rfl rfl rfl rfl fun x2 => ?_
    refine a_app hT 1 _ rfl rfl rfl rfl (by kernel_rfl) rfl rfl rfl rfl rfl rfl (by simp only [List.length_map, List.length_cons, List.length_nil]; omega) fun v1 => ?_
    refine a_ret hT [1] rfl rfl rfl rfl rfl rfl ?_
    refine ⟨_, rfl, ?_⟩
    rw [List.map_append]
    have e1 := byte_nat n
    have e2 := byte_nat (n / 256)
    have e3 := byte_nat (n / 65536)
    have e4 := byte_nat (n / 16777216)
    have s2 := shrN n 8 (by decide)
    have s3 := shrN n 16 (by decide)
    have s4 := shrN n 24 (by decide)
    show [Chunk.row _ _ _ (_ ++ [[A.Dat.v (.int .u8 (IntKind.u8.wrap (n : Int)))], [A.Dat.v (.int .u8 (IntKind.u8.wrap (Int.fdiv (n : Int) (2 ^ 8))))], [A.Dat.v (.int .u8 (IntKind.u8.wrap (Int.fdiv (n : Int) (2 ^ 16))))], [A.Dat.v (.int .u8 (IntKind.u8.wrap (Int.fdiv (n : Int) (2 ^ 24))))]])] = _
    rw [s2, s3, s4, e1, show n / 2 ^ 8 = n / 256 from rfl, show n / 2 ^ 16 = n / 65536 from rfl, show n / 2 ^ 24 = n / 16777216 from rfl, e2, e3, e4]
    rfl
  exact key.freeze
theorem u8_eq {a b : Nat} (h : a % 256 = b % 256) : UInt8.ofNat a = UInt8.ofNat b := by
  apply UInt8.toNat_inj.1
  simp only [UInt8.toNat_ofNat']
  omega
theorem le32_mod (n : Nat) : le32 (n % 4294967296) = le32 n := by
  unfold le32
  rw [u8_eq (a := n % 4294967296) (b := n) (by omega), u8_eq (a := n % 4294967296 / 256) (b := n / 256) (by omega), u8_eq (a := n % 4294967296 / 65536) (b := n / 65536) (by omega), u8_eq (a := n % 4294967296 / 16777216) (b := n / 16777216) (by omega)]
theorem wrap_u32 (n : Nat) : IntKind.u32.wrap (n : Int) = ((n % 4294967296 : Nat) : Int) := by
  unfold IntKind.wrap
  simp [IntKind.bits, IntKind.signed]
theorem Append64_spec {l : List UInt8} {n : Nat} (hl : l.length ≤ 800000) : FSpec Tryz.prog 135 [.d (A.bytesD l), .v (kU n) 0] [] fun a cs => a = .d (A.bytesD (l ++ le64 n)) ∧ cs = [] := by
  have h1 := Append32_spec (l := l) (n := n % 4294967296) (by omega)
  have h2 := Append32_spec (l := l ++ le32 n) (n := n / 4294967296 % 4294967296) (by rw [List.length_append]; show l.length + 4 ≤ _; omega)
  have s2 := shrN n 32 (by decide)
  rw [← wrap_u32, le32_mod] at h1
  rw [← wrap_u32, le32_mod, show n / 4294967296 = n / 2 ^ 32 from rfl, ← s2] at h2
  rw [List.append_assoc] at h2
  refine a_enter hT [.d (A.bytesD l), .v (kU n) 0] [] Tryz.func135 rfl rfl rfl ⟨Fit.refl _, rfl, trivial⟩ fun c' => ?_
  refine a_call hT rfl rfl rfl (by kernel_rfl) h1 [] [] rfl rfl ?_
  rintro _ _ ⟨rfl, rfl⟩
  refine a_bin hT _ rfl rfl rfl (by decide) rfl rfl (fun w => (bin_shr (by omega) w)) ?_
  refine a_call hT rfl rfl rfl (by kernel_rfl) h2 [] [] rfl rfl ?_
  rintro _ _ ⟨rfl, rfl⟩
  refine a_ret hT [] rfl rfl rfl rfl rfl rfl ?_
  exact ⟨rfl, rfl⟩
end Go.Proofs.YtjcolfogmmjaoaaGreatDoor
end

section
set_option linter.unusedVariables false
set_option linter.unusedSimpArgs false
set_option maxRecDepth 100000
set_option maxHeartbeats 1000000
namespace Go.Proofs.YtjcolfogmmjaoaaGreatDoor
open V A
theorem zig_eq {n : Int} (hn : I64 n) : IntKind.wrap IntKind.u64 ↑(BitVec.toNat (BitVec.ofInt (IntKind.bits IntKind.u64) (IntKind.wrap IntKind.u64 (IntKind.wrap IntKind.u64 n * 2 ^ min (Int.toNat 1) (IntKind.bits IntKind.u64))) ^^^ BitVec.ofInt (IntKind.bits IntKind.u64) (IntKind.wrap IntKind.u64 (Int.fdiv n (2 ^ min (Int.toNat 63) (IntKind.bits IntKind.i64)))))) = ((zigP n).toNat : Int) := by
  unfold I64 at hn
  have hw : ∀ m : Int, IntKind.u64.wrap m = m % 18446744073709551616 := fun m => by
    unfold IntKind.wrap
    simp [IntKind.bits, IntKind.signed]
  have e1 : IntKind.wrap IntKind.u64 (IntKind.wrap IntKind.u64 n * 2 ^ min (Int.toNat 1) (IntKind.bits IntKind.u64)) = ((2 * n % 18446744073709551616).toNat : Int) := by
    rw [hw, hw, show (2 : Int) ^ min (Int.toNat 1) (IntKind.bits IntKind.u64) = 2 from rfl]
    omega
  rw [e1]
  by_cases h0 : 0 ≤ n
  · have e2 : Int.fdiv n (2 ^ min (Int.toNat 63) (IntKind.bits IntKind.i64)) = 0 := by
      rw [show (2 : Int) ^ min (Int.toNat 63) (IntKind.bits IntKind.i64) = 9223372036854775808 from by decide, Int.fdiv_eq_ediv_of_nonneg _ (by decide)]
      omega
    rw [e2]
    show IntKind.u64.wrap ↑(BitVec.toNat (BitVec.ofInt 64 _ ^^^ BitVec.ofInt 64 (IntKind.u64.wrap 0))) = _
    rw [show BitVec.ofInt 64 (IntKind.u64.wrap 0) = 0#64 by decide, BitVec.xor_zero, bv_nat, hw]
    unfold zigP
    rw [if_pos h0]
    omega
  · have e2 : Int.fdiv n (2 ^ min (Int.toNat 63) (IntKind.bits IntKind.i64)) = -1 := by
      rw [show (2 : Int) ^ min (Int.toNat 63) (IntKind.bits IntKind.i64) = 9223372036854775808 from by decide, Int.fdiv_eq_ediv_of_nonneg _ (by decide)]
      omega
    rw [e2]
    show IntKind.u64.wrap ↑(BitVec.toNat (BitVec.ofInt 64 _ ^^^ BitVec.ofInt 64 (IntKind.u64.wrap (-1)))) = _
    rw [show BitVec.ofInt 64 (IntKind.u64.wrap (-1)) = BitVec.allOnes 64 by decide, BitVec.xor_allOnes, BitVec.toNat_not, bv_nat, hw]
    unfold zigP
    rw [if_neg h0]
    omega
theorem key_eq {num typ : Nat} (h1 : num ≤ 536870911) (h2 : typ ≤ 7) : IntKind.wrap IntKind.u64 ↑(BitVec.toNat (BitVec.ofInt (IntKind.bits IntKind.u64) (IntKind.wrap IntKind.u64 (IntKind.wrap IntKind.u64 (num : Int) * 2 ^ min (Int.toNat 3) (IntKind.bits IntKind.u64))) ||| BitVec.ofInt (IntKind.bits IntKind.u64) (IntKind.wrap IntKind.u64 (typ : Int)))) = ((num * 8 + typ : Nat) : Int) := by
  have e1 : IntKind.wrap IntKind.u64 (IntKind.wrap IntKind.u64 (num : Int) * 2 ^ min (Int.toNat 3) (IntKind.bits IntKind.u64)) = ((num * 2 ^ 3 : Nat) : Int) := by
    rw [wrapN64 (by omega), show (2 : Int) ^ min (Int.toNat 3) (IntKind.bits IntKind.u64) = 8 from rfl, show (num : Int) * 8 = ((num * 8 : Nat) : Int) by push_cast; rfl, wrapN64 (by omega)]
  rw [e1, wrapN64 (a := typ) (by omega)]
  have := or64 (a := num * 2 ^ 3) (b := typ) (by omega) (by omega)
  show IntKind.u64.wrap ↑(BitVec.toNat (BitVec.ofInt 64 ((num * 2 ^ 3 : Nat) : Int) ||| BitVec.ofInt 64 (typ : Int))) = _
  rw [this, Nat.or_comm, or_add (i := 3) (by omega)]
  congr 1
  omega
theorem Zig_spec {n : Int} (hn : I64 n) : FSpec Tryz.prog 137 [.v (Value.int .i64 n) 0] [] fun a cs => a = .v (kU (zigP n).toNat) 0 ∧ cs = [] := by
  refine a_enter hT [.v (Value.int .i64 n) 0] [] Tryz.func137 rfl rfl rfl ⟨rfl, trivial⟩ fun c' => ?_
  refine a_bin hT _ rfl rfl rfl (by decide) rfl rfl (fun w => (bin_shl (by omega) w)) ?_
  refine a_bin hT _ rfl rfl rfl (by decide) rfl rfl (fun w => (bin_shr (by omega) w)) ?_
  refine a_bin hT _ rfl rfl rfl (by decide) rfl rfl (fun w => (bin_xor w)) ?_
  refine a_ret hT [] rfl rfl rfl rfl rfl rfl ?_
  exact ⟨congrArg (fun x => AV.v (Value.int .u64 x) 0) (zig_eq hn), rfl⟩
theorem wireAppend_spec {f : FW} (hd : f.data.length ≤ 800000) (hn : f.n < 18446744073709551616) : FSpec Tryz.prog 88 [.d (A.bytesD []), fwA f] [] fun a cs => a = .tup [.d (A.bytesD (appW f)), .v (kI (if formedW f then 0 else 1)) 0] ∧ cs = [] := by
  refine FSpec.le ?_
  have hW := WFormed_spec (f := f)
  refine a_enter hT [.d (A.bytesD []), fwA f] [] Tryz.func88 rfl rfl rfl ⟨Fit.refl _, Fit.refl _, trivial⟩ fun c' => ?_
  cases hfo : formedW f with
  | false =>
    rw [hfo] at hW
    have happ : appW f = [] := by unfold appW; rw [hfo]; rfl
    rw [happ]
    refine a_box hT 20 rfl rfl rfl rfl fun g => ?_
    refine a_call hT rfl rfl rfl (by kernel_rfl) hW [] [] rfl rfl ?_
    rintro _ _ ⟨rfl, rfl⟩
    refine a_t hT rfl rfl rfl ?_
    refine a_ret hT [] rfl rfl rfl rfl rfl rfl ?_
    exact ⟨_, Le.tup (.cons le_nil (.cons (Le.refl _) .nil)), rfl, rfl⟩
  | true =>
    rw [hfo] at hW
    have happ : appW f = varP (f.num * 8 + f.typ) ++ payW f := by unfold appW; rw [hfo]; rfl
    rw [happ]
    obtain ⟨⟨h1, h2⟩, hc⟩ := formedW_cases hfo
    refine a_box hT 20 rfl rfl rfl rfl fun g => ?_
    refine a_call hT rfl rfl rfl (by kernel_rfl) hW [] [] rfl rfl ?_
    rintro _ _ ⟨rfl, rfl⟩
    refine a_f hT rfl rfl rfl ?_
    refine a_bin hT _ rfl rfl rfl (by decide) rfl rfl (fun w => (bin_shl (by omega) w)) ?_
    refine a_bin hT _ rfl rfl rfl (by decide) rfl rfl (fun w => (bin_or w)) ?_
    have hA0 := Append_spec (l := []) (n := f.num * 8 + f.typ) (by omega) (by simp)
    rw [List.nil_append, ← key_eq (by omega) (by omega)] at hA0
    refine a_call hT rfl rfl rfl (by kernel_rfl) hA0 [] [] rfl rfl ?_
    rintro _ _ ⟨rfl, rfl⟩
    have hkl := varP_len (f.num * 8 + f.typ)
    obtain ⟨num, typ, n, data⟩ := f
    dsimp only at hc hkl hd hn ⊢
    rcases hc with ⟨rfl, rfl⟩ | ⟨rfl, rfl⟩ | ⟨rfl, rfl, h5⟩ | ⟨rfl, rfl⟩
    · have hA := Append_spec (l := varP (num * 8 + 0)) (n := n) hn (by omega)
      refine a_t hT rfl rfl rfl ?_
      refine a_call hT rfl rfl rfl (by kernel_rfl) hA [] [] rfl rfl ?_
      rintro _ _ ⟨rfl, rfl⟩
      refine a_ret hT [] rfl rfl rfl rfl rfl rfl ?_
      exact ⟨_, Le.refl _, rfl, rfl⟩
    · have hA := Append64_spec (l := varP (num * 8 + 1)) (n := n) (by omega)
      refine a_f hT rfl rfl rfl ?_
      refine a_t hT rfl rfl rfl ?_
      refine a_call hT rfl rfl rfl (by kernel_rfl) hA [] [] rfl rfl ?_
      rintro _ _ ⟨rfl, rfl⟩
      refine a_ret hT [] rfl rfl rfl rfl rfl rfl ?_
      exact ⟨_, Le.refl _, rfl, rfl⟩
    · have hA := Append32_spec (l := varP (num * 8 + 5)) (n := n) (by omega)
      rw [show ((n : Nat) : Int) = IntKind.u32.wrap (n : Int) from (wrapN32 (by omega)).symm] at hA
      refine a_f hT rfl rfl rfl ?_
      refine a_f hT rfl rfl rfl ?_
      refine a_t hT rfl rfl rfl ?_
      refine a_call hT rfl rfl rfl (by kernel_rfl) hA [] [] rfl rfl ?_
      rintro _ _ ⟨rfl, rfl⟩
      refine a_ret hT [] rfl rfl rfl rfl rfl rfl ?_
      exact ⟨_, Le.refl _, rfl, rfl⟩
    · have hA := AppendR_spec (l := varP (num * 8 + 2)) (n := data.length) (by omega) (by omega)
      rw [show ((data.length : Nat) : Int) = IntKind.u64.wrap ((data.map eB).length : Int) from by rw [bytesD_len]; exact (wrapN64 (by omega)).symm] at hA
      refine a_f hT rfl rfl rfl ?_
      refine a_f hT rfl rfl rfl ?_
      refine a_f hT rfl rfl rfl ?_
      refine a_t hT rfl rfl rfl ?_
      refine a_draw hT [] false [(0, false), (1, false), (2, false), (3, false), (4, false), (6, false), (7, false), (5, true), (8, true), (9, true)] rfl rfl (by kernel_rfl) (by kernel_rfl) rfl ?_
      refine a_call hT rfl rfl rfl (by kernel_rfl) hA [] [1] rfl rfl ?_
      rintro _ _ ⟨v, rfl, rfl⟩
      have hl2 := varP_len data.length
      refine a_app hT 1 _ rfl rfl rfl rfl (by kernel_rfl) rfl rfl rfl rfl rfl rfl (by simp only [List.length_map, List.length_append]; unfold lim; omega) fun v1 => ?_
      first
        | (refine a_run hT 1 rfl rfl ?_; refine a_freeze 0 1 rfl rfl rfl rfl ?_)
        | (refine a_run hT 2 rfl rfl ?_; refine a_freeze 0 1 rfl rfl rfl rfl ?_)
        | (refine a_run hT 3 rfl rfl ?_; refine a_freeze 0 1 rfl rfl rfl rfl ?_)
        | (refine a_run hT 4 rfl rfl ?_; refine a_freeze 0 1 rfl rfl rfl rfl ?_)
        | (refine a_run hT 5 rfl rfl ?_; refine a_freeze 0 1 rfl rfl rfl rfl ?_)
      refine a_ret hT [] rfl rfl rfl rfl rfl rfl ?_
      refine ⟨_, Le.refl _, ?_, rfl⟩
      rw [show payW ⟨num, 2, 0, data⟩ = varP data.length ++ data from rfl, ← List.append_assoc]
      show AV.tup [.d (.sl 1 (((varP (num * 8 + 2) ++ varP data.length).map eB) ++ data.map eB)), _] = _
      rw [← List.map_append]
      rfl
end Go.Proofs.YtjcolfogmmjaoaaGreatDoor
end

section
set_option linter.unusedVariables false
set_option linter.unusedSimpArgs false
set_option maxRecDepth 100000
set_option maxHeartbeats 2000000
namespace Go.Proofs.YtjcolfogmmjaoaaGreatDoor
open V A
theorem cloneVR {l : List VL} (hl : l.length ≤ lim) : FSpec Tryz.prog 54 [.d (.sl 1 (vlsD l))] [] fun a cs => ∃ x, a = .row x 1 ∧ cs = [.row x 31 1 (vlsD l)] := by
  refine a_enter hT [.d (.sl 1 (vlsD l))] [] Tryz.func54 rfl rfl rfl ⟨rfl, trivial⟩ fun c => ?_
  refine a_isnil hT rfl rfl rfl rfl rfl rfl fun b hb => ?_
  refine a_if hT rfl rfl (fun h => ?_) (fun h => ?_)
  · refine a_run hT 4 rfl rfl ?_
    refine a_nilrow 2 1 31 1 rfl rfl ?_
    refine a_ret hT [1] rfl rfl rfl rfl rfl rfl ⟨_, rfl, ?_⟩
    rw [hb h]
  · refine a_lit hT 1 rfl rfl rfl rfl elV rfl rfl rfl rfl fun x => ?_
    refine a_app hT 1 (vlsD l) rfl rfl rfl rfl elV rfl rfl rfl rfl rfl rfl (by rw [vlsD_map]; simpa using hl) fun x => ?_
    refine a_ret hT [1] rfl rfl rfl rfl rfl rfl ⟨x, rfl, rfl⟩
def msgD (ty : Int) (fs : List VF) (u : ByteArray) : List A.Dat := [.v (kI ty), .sl 2 (vfsD fs), .v (.string u)]
def msgA (ty : Int) (fs : List VF) (u : ByteArray) : AV := .agg ((msgD ty fs u).map nd)
def NormS (s : SchP) : VL → Prop
  | .msg ty fs u => ∀ dep : Int, 0 ≤ ty → fitsP s (.msg ty fs u) ty dep = true → FSpec Tryz.prog 42 [schA s, msgA ty fs u] [] fun a cs => a = msgA ty (normFs s (dAt s ty) fs) u ∧ cs = []
  | .none | .int _ | .uint _ | .bool _ | .text _ | .bytes _ | .enum _ => True
theorem normal_ind {s : SchP} (hs : SchOk s) : ∀ {v : VL}, WfV v → NormS s v := by
  intro v hv
  induction hv with
  | msg h1 h2 h3 h4 h5 ih =>
    rename_i ty fs unk
    intro dep ht0 hfit
    unfold fitsP at hfit
    rw [Bool.and_eq_true, Bool.and_eq_true] at hfit
    obtain ⟨_, hf⟩ := hfit
    cases hm : s.ms[ty.toNat]? with
    | none => rw [hm] at hf; cases hf
    | some d =>
    rw [hm] at hf
    dsimp only at hf
    rw [Bool.and_eq_true] at hf
    have hf := hf.2
    have hdm : d ∈ s.ms := List.mem_of_getElem? hm
    have hd : dAt s ty = d := by unfold dAt; rw [hm]; rfl
    have hfo := hs.fs d hdm
    rw [hd]
    have hat0 : (s.ms.map eM)[ty.toNat]? = some (eM d) := by rw [List.getElem?_map, hm]; rfl
    have hlen : (vfsD fs).length = fs.length := vfsD_len fs
    refine a_enter hT [schA s, msgA ty fs unk] [] Tryz.func42 rfl rfl rfl ⟨Fit.refl _, Fit.refl _, trivial⟩ fun c' => ?_
    refine a_box hT 20 rfl rfl rfl rfl fun g => ?_
    refine a_box hT 21 rfl rfl rfl rfl fun g1 => ?_
    refine a_new hT hZ 22 rfl rfl rfl rfl fun g2 => ?_
    refine a_freezeK 2 20 rfl rfl rfl rfl rfl ?_
    refine a_freezeK 3 21 rfl rfl rfl rfl rfl ?_
    refine a_build hT hZ [.v (kI ty) 0, .v (Value.slice none 0 0) 0, .v (Value.string unk) 0] rfl rfl rfl rfl rfl rfl ?_
    refine a_new hT hZ 23 rfl rfl rfl rfl fun g3 => ?_
    refine a_run hT 1 rfl rfl ?_
    refine a_nilrowB 23 1 40 99 2 rfl rfl rfl ?_
    refine a_loop hT [2, 3, 4, 5, 23, 24, 25] (fun x : Nat × Value => [.d (.p (schD s)), .d (.p (msgD ty fs unk)), .v (.pointer (some ⟨g2, 0, none⟩)) 22, .v (.pointer (some ⟨g3, 0, none⟩)) 23, .d (.sl 2 (vfsD fs)), .v (kI fs.length) 0, .v (kI x.1) 0]) (fun x => [(22, .blk g2 97 [.v (.int .i64 0) 0, .v (.slice none 0 0) 0, .v (.string .empty) 0]), (23, .blk g3 97 [.v (kI ty) 0, .row x.2 40, .v (.string unk) 0]), (40, .row x.2 99 2 (vfsD (normFs s d (fs.take x.1))))]) (fun x => x.1 ≤ fs.length) (fun x => fs.length - x.1) (0, .slice none 0 0) [22, 23, 40] rfl rfl (Nat.zero_le _) ⟨rfl, rfl, rfl, rfl, rfl, by rw [← hlen]; rfl, rfl, trivial⟩ rfl ⟨⟨rfl, rfl, rfl, rfl, rfl, trivial⟩, ⟨rfl, rfl, rfl, rfl, rfl, trivial⟩, ⟨rfl, rfl, rfl, by rw [List.take_zero]; unfold normFs; rfl⟩, trivial⟩ ?_
    rintro ⟨i, vf⟩ i2
    dsimp only at i2
    have hw := wN i (by omega)
    rcases Nat.lt_or_ge i fs.length with hil | hil
    · have hat : (vfsD fs)[(i : Int).toNat]? = some (vfD fs[i]) := by rw [vfsD_map, Int.toNat_natCast, List.getElem?_map, List.getElem?_eq_getElem hil]; rfl
      have hmem := List.getElem_mem hil
      have htk : fs.take (i + 1) = fs.take i ++ [fs[i]] := List.take_succ_eq_append_getElem hil
      generalize fs[i] = x at hat hmem htk
      obtain ⟨num, vs⟩ := x
      have hnum := h3 num vs hmem
      have hvl := h2 num vs hmem
      obtain ⟨_, f, hff, hne, hrl, hfv⟩ := fitsFs_mem hf num vs hmem
      have hFi := Find_spec (d := d) (num := num) hfo hnum
      rw [hff] at hFi
      have hCl := cloneVR (l := vs) (by unfold lim; omega)
      have hlv : (vlsD vs).length = vs.length := by rw [vlsD_map, List.length_map]
      refine a_t hT rfl rfl (decide_eq_true (by show (i : Int) < (fs.length : Int); omega)) ?_
      refine a_ix hT _ rfl rfl rfl rfl rfl rfl (by omega) hat ?_
      refine a_new hT hZ 41 rfl rfl rfl rfl fun g4 => ?_
      refine a_run hT 1 rfl rfl ?_
      refine a_freezeK 7 41 rfl rfl rfl rfl rfl ?_
      refine a_treeN hT [2, 3, 4, 5, 7, 8, 23, 24, 25] (fun g : Nat => [.d (.p (schD s)), .d (.p (msgD ty fs unk)), .v (.pointer (some ⟨g2, 0, none⟩)) 22, .v (.pointer (some ⟨g3, 0, none⟩)) 23, .d (.p (vfD (.mk num vs))), .v (.pointer (some ⟨g, 0, none⟩)) 42, .d (.sl 2 (vfsD fs)), .v (kI fs.length) 0, .v (kI i) 0]) (fun g => [(22, .blk g2 97 [.v (.int .i64 0) 0, .v (.slice none 0 0) 0, .v (.string .empty) 0]), (23, .blk g3 97 [.v (kI ty) 0, .row vf 40, .v (.string unk) 0]), (40, .row vf 99 2 (vfsD (normFs s d (fs.take i)))), (42, .blk g 68 ((eF f).map nd))]) (fun _ => True) [] 15 [(0, false), (2, false), (6, false), (1, false), (3, false), (7, false), (4, false), (5, false)] rfl rfl (by kernel_rfl) (by kernel_rfl) rfl ?_ ?_
      · refine a_ix hT _ rfl rfl rfl rfl rfl rfl (by first | omega | assumption) (by first | assumption | rfl) ?_
        refine a_alt hT [([(8, true), (9, false), (10, false), (11, false), (12, true), (13, true), (14, true)], true), ([(12, true), (8, true), (9, true), (10, false), (11, false), (13, true), (14, true)], true)] rfl rfl (by kernel_rfl) ⟨?_, ?_, trivial⟩
        · refine a_call hT rfl rfl rfl (by kernel_rfl) hFi [] [] rfl rfl ?_
          rintro _ _ ⟨rfl, rfl⟩
          refine a_new hT hZ 41 rfl rfl rfl rfl fun g5 => ?_
          exact a_next hT g5 [22, 23, 40, 41] rfl rfl trivial ⟨rfl, rfl, rfl, rfl, rfl, rfl, rfl, rfl, rfl, trivial⟩ rfl ⟨⟨rfl, rfl, rfl, rfl, rfl, trivial⟩, ⟨rfl, rfl, rfl, rfl, rfl, trivial⟩, ⟨rfl, rfl, rfl, rfl⟩, ⟨rfl, rfl, rfl, rfl, rfl, rfl, rfl, trivial⟩, trivial⟩
        · refine a_new hT hZ 41 rfl rfl rfl rfl fun g5 => ?_
          refine a_call hT rfl rfl rfl (by kernel_rfl) hFi [] [] rfl rfl ?_
          rintro _ _ ⟨rfl, rfl⟩
          exact a_next hT g5 [22, 23, 40, 41] rfl rfl trivial ⟨rfl, rfl, rfl, rfl, rfl, rfl, rfl, rfl, rfl, trivial⟩ rfl ⟨⟨rfl, rfl, rfl, rfl, rfl, trivial⟩, ⟨rfl, rfl, rfl, rfl, rfl, trivial⟩, ⟨rfl, rfl, rfl, rfl⟩, ⟨rfl, rfl, rfl, rfl, rfl, rfl, rfl, trivial⟩, trivial⟩
      rintro g5 _
      refine a_call hT rfl rfl rfl (by kernel_rfl) hCl [] [1] rfl rfl ?_
      rintro _ _ ⟨x, rfl, rfl⟩
      refine a_loop hT [2, 3, 4, 5, 7, 8, 10, 23, 24, 25, 44, 45, 46] (fun j : Nat => [.d (.p (schD s)), .d (.p (msgD ty fs unk)), .v (.pointer (some ⟨g2, 0, none⟩)) 22, .v (.pointer (some ⟨g3, 0, none⟩)) 23, .d (.p (vfD (.mk num vs))), .v (.pointer (some ⟨g5, 0, none⟩)) 42, .row x 1, .d (.sl 2 (vfsD fs)), .v (kI fs.length) 0, .v (kI i) 0, .row x 1, .v (kI vs.length) 0, .v (kI j) 0]) (fun j => [(22, .blk g2 97 [.v (.int .i64 0) 0, .v (.slice none 0 0) 0, .v (.string .empty) 0]), (23, .blk g3 97 [.v (kI ty) 0, .row vf 40, .v (.string unk) 0]), (40, .row vf 99 2 (vfsD (normFs s d (fs.take i)))), (42, .blk g5 68 ((eF f).map nd)), (1, .row x 31 1 (vlsD (normVs s (vs.take j) ++ vs.drop j)))]) (fun j => j ≤ vs.length) (fun j => vs.length - j) 0 [22, 23, 40, 42, 1] rfl rfl (Nat.zero_le _) ⟨rfl, rfl, rfl, rfl, rfl, rfl, rfl, rfl, rfl, rfl, rfl, by rw [← hlv]; rfl, rfl, trivial⟩ rfl ⟨⟨rfl, rfl, rfl, rfl, rfl, trivial⟩, ⟨rfl, rfl, rfl, rfl, rfl, trivial⟩, ⟨rfl, rfl, rfl, rfl⟩, ⟨rfl, rfl, rfl, rfl, rfl, rfl, rfl, trivial⟩, ⟨rfl, rfl, rfl, by rw [List.take_zero, List.drop_zero]; unfold normVs; rfl⟩, trivial⟩ ?_
      intro j j2
      have hwj := wN j (by omega)
      rcases Nat.lt_or_ge j vs.length with hjl | hjl
      · have hmv := List.getElem_mem hjl
        have htj : vs.take (j + 1) = vs.take j ++ [vs[j]] := List.take_succ_eq_append_getElem hjl
        have hdj : vs.drop j = vs[j] :: vs.drop (j + 1) := List.drop_eq_getElem_cons hjl
        have hone := fitsVs_mem hfv _ hmv
        have hih := ih num vs _ hmem hmv
        generalize vs[j] = v at hmv htj hdj hone hih
        have hnl : (normVs s (vs.take j)).length = j := by rw [normVs_map, List.length_map, List.length_take]; omega
        have hrow : vlsD (normVs s (vs.take j) ++ vs.drop j) = vlsD (normVs s (vs.take j)) ++ [vlD v] :: vlsD (vs.drop (j + 1)) := by rw [hdj, vlsD_app]; rfl
        have hrl : (vlsD (normVs s (vs.take j))).length = j := by rw [vlsD_len, hnl]
        have hrow2 : vlsD (normVs s (vs.take (j + 1)) ++ vs.drop (j + 1)) = vlsD (normVs s (vs.take j)) ++ [vlD (normP s v)] :: vlsD (vs.drop (j + 1)) := by
          rw [htj, normVs_map, List.map_append, List.append_assoc, vlsD_app, ← normVs_map]; rfl
        have hge : (vlsD (normVs s (vs.take j)) ++ [vlD v] :: vlsD (vs.drop (j + 1)))[j]? = some [vlD v] := by
          rw [List.getElem?_append_right (by omega), hrl, Nat.sub_self]; rfl
        have hset : ∀ e : List A.Dat, (vlsD (normVs s (vs.take j)) ++ [vlD v] :: vlsD (vs.drop (j + 1))).set j e = vlsD (normVs s (vs.take j)) ++ e :: vlsD (vs.drop (j + 1)) := by
          intro e
          rw [List.set_append_right _ _ (by omega), hrl, Nat.sub_self]; rfl
        dsimp only
        rw [hrow]
        refine a_rowfact 1 rfl rfl ?_
        rintro (⟨_, e⟩ | ⟨gr, cap, rfl⟩)
        · exfalso
          have := congrArg List.length e
          simp at this
        have hrlen : (vlsD (normVs s (vs.take j)) ++ [vlD v] :: vlsD (vs.drop (j + 1))).length = vs.length := by
          rw [← hrow, vlsD_len, List.length_append, hnl, List.length_drop]; omega
        refine a_t hT rfl rfl (decide_eq_true (by show (j : Int) < (vs.length : Int); omega)) ?_
        refine a_rix hT j rfl rfl rfl rfl rfl rfl rfl (by omega) ?_
        refine a_rld hT j 0 [vlD v] (.d (vlD v)) rfl rfl rfl rfl rfl rfl (by omega) hge rfl ?_
        cases v with
        | msg ty2 fs2 unk2 =>
          have hnm : normP s (.msg ty2 fs2 unk2) = .msg ty2 (normFs s (dAt s ty2) fs2) unk2 := by conv => lhs; unfold normP
          rw [show ∀ r, oneK f r (.msg ty2 fs2 unk2) = (decide (f.kind = 10) && r) from fun _ => rfl, Bool.and_eq_true] at hone
          have hk10 := of_decide_eq_true hone.1
          have hty := hs.ty d hdm f (findF_num hff).2 hk10
          have hfv := hone.2
          have hte : ty2 = f.ty := by
            unfold fitsP at hfv
            rw [Bool.and_eq_true, Bool.and_eq_true] at hfv
            exact of_decide_eq_true hfv.1.1
          rw [← hte] at hfv
          have hN := hih (dep + 1) (by omega) hfv
          rw [hnm] at hrow2
          generalize normFs s (dAt s ty2) fs2 = nf at hN hrow2
          refine a_new hT hZ 43 rfl rfl rfl rfl fun g6 => ?_
          refine a_t hT rfl rfl rfl ?_
          refine a_callF hT rfl rfl rfl (by kernel_rfl) hN [] [] ⟨⟨rfl, rfl, rfl, trivial⟩, ⟨rfl, rfl, rfl, trivial⟩, trivial⟩ rfl trivial ?_
          rintro _ _ ⟨rfl, rfl⟩
          refine a_rix hT (j) rfl rfl rfl rfl rfl rfl (by first | rfl | omega) (by omega) ?_
          refine a_asL 62 (b := .d (vlD (.msg ty2 nf unk2))) rfl (le_ifcA rfl) ?_
          refine a_rst hT j 0 [vlD (.msg ty2 fs2 unk2)] (vlD (.msg ty2 nf unk2)) rfl rfl rfl rfl rfl rfl rfl (by omega) hge (by decide) rfl ?_
          exact a_next hT (j + 1) [22, 23, 40, 42, 1] rfl rfl ⟨by omega, by omega⟩ ⟨rfl, rfl, rfl, rfl, rfl, rfl, rfl, rfl, rfl, rfl, rfl, rfl, by show Value.int .i64 _ = Value.int .i64 _; rw [hwj], trivial⟩ rfl ⟨⟨rfl, rfl, rfl, rfl, rfl, trivial⟩, ⟨rfl, rfl, rfl, rfl, rfl, trivial⟩, ⟨rfl, rfl, rfl, rfl⟩, ⟨rfl, rfl, rfl, rfl, rfl, rfl, rfl, trivial⟩, ⟨rfl, rfl, rfl, (hset _).trans hrow2.symm⟩, trivial⟩
        | _ =>
          unfold normP at hrow2
          refine a_assertN hT zMsg rfl rfl rfl rfl rfl (by kernel_rfl) rfl ?_
          refine a_new hT hZ 43 rfl rfl rfl rfl fun g6 => ?_
          refine a_f hT rfl rfl rfl ?_
          exact a_next hT (j + 1) [22, 23, 40, 42, 1] rfl rfl ⟨by omega, by omega⟩ ⟨rfl, rfl, rfl, rfl, rfl, rfl, rfl, rfl, rfl, rfl, rfl, rfl, by show Value.int .i64 _ = Value.int .i64 _; rw [hwj], trivial⟩ rfl ⟨⟨rfl, rfl, rfl, rfl, rfl, trivial⟩, ⟨rfl, rfl, rfl, rfl, rfl, trivial⟩, ⟨rfl, rfl, rfl, rfl⟩, ⟨rfl, rfl, rfl, rfl, rfl, rfl, rfl, trivial⟩, ⟨rfl, rfl, rfl, hrow2.symm⟩, trivial⟩
      · refine a_f hT rfl rfl (decide_eq_false (by show ¬ (j : Int) < (vs.length : Int); omega)) ?_
        have hj : j = vs.length := by omega
        subst hj
        dsimp only
        rw [List.take_length, List.drop_length, List.append_nil]
        refine a_freeze 10 1 rfl rfl rfl rfl ?_
        have hkeep : normFs s d (fs.take (i + 1)) = normFs s d (fs.take i) ++ (if keepN f.rep (normVs s vs) then [.mk num (normVs s vs)] else []) := by
          have hat2 : fAt d num = f := by unfold fAt; rw [hff]; rfl
          rw [htk, normFs_app, normFs_cons, normF_mk, hat2]
          congr 1
          unfold normFs
          rw [List.append_nil]
        have hnl : (normVs s vs).length = vs.length := by rw [normVs_map, List.length_map]
        obtain ⟨w, ws, hws⟩ : ∃ w ws, normVs s vs = w :: ws := by
          cases hq : normVs s vs with
          | nil =>
            rw [hq] at hnl
            exact absurd (List.eq_nil_of_length_eq_zero hnl.symm) hne
          | cons w ws => exact ⟨w, ws, rfl⟩
        rw [hws] at hkeep ⊢
        have hZr := Zero_spec (v := w)
        have hvfl : (vfsD (normFs s d (fs.take i))).length ≤ 100000 := by
          have := normFs_len s d (fs.take i)
          rw [List.length_take] at this
          rw [vfsD_len]; omega
        refine a_ix hT _ rfl rfl rfl rfl rfl rfl (by decide) (show (vlsD (w :: ws))[Int.toNat 0]? = some [vlD w] from rfl) ?_
        have hk1 : f.rep = true → keepN f.rep (w :: ws) = true := fun h => by unfold keepN; rw [h]; rfl
        have hk2 : f.rep = false → keepN f.rep (w :: ws) = !zeroV w := fun h => by unfold keepN; rw [h]; rfl
        cases w with
        | msg a b c =>
          refine a_new hT hZ 43 rfl rfl rfl rfl fun g6 => ?_
          refine a_gt hT rfl rfl rfl rfl ?_
          refine a_gt hT rfl rfl rfl rfl ?_
          refine a_t hT rfl rfl rfl ?_
          refine a_build hT hZ [.v (kI num) 0, .d (A.Dat.sl 1 (vlsD (VL.msg a b c :: ws)))] rfl rfl rfl rfl rfl rfl ?_
          refine a_lit hT 44 rfl rfl rfl rfl (by kernel_rfl) rfl rfl rfl rfl fun x44 => ?_
          refine a_app hT 40 _ rfl rfl rfl rfl (by kernel_rfl) rfl rfl rfl rfl rfl rfl (by simp only [List.length_append, List.length_cons, List.length_nil]; unfold lim; omega) fun v1 => ?_
          exact a_next hT (i + 1, v1) [22, 23, 40] rfl rfl ⟨by show i + 1 ≤ fs.length; omega, by show fs.length - (i + 1) < fs.length - i; omega⟩ ⟨rfl, rfl, rfl, rfl, rfl, rfl, by show Value.int .i64 _ = Value.int .i64 _; rw [hw], trivial⟩ rfl ⟨⟨rfl, rfl, rfl, rfl, rfl, trivial⟩, ⟨rfl, rfl, rfl, rfl, rfl, trivial⟩, ⟨rfl, rfl, rfl, by show _ = vfsD (normFs s d (fs.take (i + 1))); rw [hkeep, show keepN f.rep (VL.msg a b c :: ws) = true from by cases hq : f.rep with | true => rfl | false => rfl, if_pos rfl, vfsD_app]; rfl⟩, trivial⟩
        | _ =>
          refine a_assertN hT zMsg rfl rfl rfl rfl rfl (by kernel_rfl) rfl ?_
          refine a_new hT hZ 43 rfl rfl rfl rfl fun g6 => ?_
          refine a_gf hT rfl rfl rfl rfl ?_
          refine a_g hT rfl rfl rfl (fun h => ?_) (fun h => ?_)
          · refine a_t hT rfl rfl rfl ?_
            refine a_build hT hZ [.v (kI num) 0, .d (A.Dat.sl 1 (vlsD (_ :: ws)))] rfl rfl rfl rfl rfl rfl ?_
            refine a_lit hT 44 rfl rfl rfl rfl (by kernel_rfl) rfl rfl rfl rfl fun x44 => ?_
            refine a_app hT 40 _ rfl rfl rfl rfl (by kernel_rfl) rfl rfl rfl rfl rfl rfl (by simp only [List.length_append, List.length_cons, List.length_nil]; unfold lim; omega) fun v1 => ?_
            exact a_next hT (i + 1, v1) [22, 23, 40] rfl rfl ⟨by show i + 1 ≤ fs.length; omega, by show fs.length - (i + 1) < fs.length - i; omega⟩ ⟨rfl, rfl, rfl, rfl, rfl, rfl, by show Value.int .i64 _ = Value.int .i64 _; rw [hw], trivial⟩ rfl ⟨⟨rfl, rfl, rfl, rfl, rfl, trivial⟩, ⟨rfl, rfl, rfl, rfl, rfl, trivial⟩, ⟨rfl, rfl, rfl, by show _ = vfsD (normFs s d (fs.take (i + 1))); rw [hkeep, hk1 h, if_pos rfl, vfsD_app]; rfl⟩, trivial⟩
          · refine a_ix hT _ rfl rfl rfl rfl rfl rfl (by decide) (show (vlsD (_ :: ws))[Int.toNat 0]? = some [vlD _] from rfl) ?_
            refine a_call hT rfl rfl rfl (by kernel_rfl) hZr [] [] rfl rfl ?_
            rintro _ _ ⟨rfl, rfl⟩
            refine a_if hT rfl rfl (fun h1 => ?_) (fun h1 => ?_)
            · refine a_build hT hZ [.v (kI num) 0, .d (A.Dat.sl 1 (vlsD (_ :: ws)))] rfl rfl rfl rfl rfl rfl ?_
              refine a_lit hT 44 rfl rfl rfl rfl (by kernel_rfl) rfl rfl rfl rfl fun x44 => ?_
              refine a_app hT 40 _ rfl rfl rfl rfl (by kernel_rfl) rfl rfl rfl rfl rfl rfl (by simp only [List.length_append, List.length_cons, List.length_nil]; unfold lim; omega) fun v1 => ?_
              exact a_next hT (i + 1, v1) [22, 23, 40] rfl rfl ⟨by show i + 1 ≤ fs.length; omega, by show fs.length - (i + 1) < fs.length - i; omega⟩ ⟨rfl, rfl, rfl, rfl, rfl, rfl, by show Value.int .i64 _ = Value.int .i64 _; rw [hw], trivial⟩ rfl ⟨⟨rfl, rfl, rfl, rfl, rfl, trivial⟩, ⟨rfl, rfl, rfl, rfl, rfl, trivial⟩, ⟨rfl, rfl, rfl, by show _ = vfsD (normFs s d (fs.take (i + 1))); rw [hkeep, (hk2 h).trans h1, if_pos rfl, vfsD_app]; rfl⟩, trivial⟩
            · exact a_next hT (i + 1, vf) [22, 23, 40] rfl rfl ⟨by show i + 1 ≤ fs.length; omega, by show fs.length - (i + 1) < fs.length - i; omega⟩ ⟨rfl, rfl, rfl, rfl, rfl, rfl, by show Value.int .i64 _ = Value.int .i64 _; rw [hw], trivial⟩ rfl ⟨⟨rfl, rfl, rfl, rfl, rfl, trivial⟩, ⟨rfl, rfl, rfl, rfl, rfl, trivial⟩, ⟨rfl, rfl, rfl, by show _ = vfsD (normFs s d (fs.take (i + 1))); rw [hkeep, (hk2 h).trans h1, if_neg (by decide), List.append_nil]⟩, trivial⟩
    · refine a_f hT rfl rfl (decide_eq_false (by show ¬ (i : Int) < (fs.length : Int); omega)) ?_
      have hi : i = fs.length := by omega
      subst hi
      rw [List.take_length]
      refine a_freezeB 23 1 40 rfl rfl rfl rfl rfl ?_
      refine a_ret hT [] rfl rfl rfl rfl rfl rfl ?_
      exact ⟨rfl, rfl⟩
  | _ => exact trivial
end Go.Proofs.YtjcolfogmmjaoaaGreatDoor
end

section
set_option linter.unusedVariables false
set_option linter.unusedSimpArgs false
set_option maxRecDepth 100000
set_option maxHeartbeats 2000000
namespace Go.Proofs.YtjcolfogmmjaoaaGreatDoor
open V A
theorem Fits_spec {s : SchP} (hz : SzS s) {v : VL} (hv : WfV v) {t : Int} : FSpec Tryz.prog 36 [schA s, .v (kI t) 0, nd (vlD v)] [u8C] fun a cs => a = bA (fitsTop s v t) ∧ cs = [u8C] := by
  have hF := Formed_spec hz
  have hso := fun h => schOk (s := s) h
  have hlm : (s.ms.map eM).length = s.ms.length := List.length_map _
  unfold fitsTop
  refine a_enter hT [schA s, .v (kI t) 0, nd (vlD v)] [60] Tryz.func36 rfl rfl rfl ⟨Fit.refl _, rfl, Fit.refl _, trivial⟩ fun c' => ?_
  cases hfo : formedP s with
  | false =>
    rw [hfo] at hF
    refine a_box hT 61 rfl rfl rfl rfl fun g => ?_
    refine a_call hT rfl rfl rfl (by kernel_rfl) hF [] [] rfl rfl ?_
    rintro _ _ ⟨rfl, rfl⟩
    refine a_gf hT rfl rfl rfl rfl ?_
    refine a_gf hT rfl rfl rfl rfl ?_
    refine a_gf hT rfl rfl rfl rfl ?_
    refine a_ret hT [60] rfl rfl rfl rfl rfl rfl ?_
    first | exact ⟨rfl, rfl⟩ | rfl
  | true =>
    rw [hfo] at hF
    refine a_box hT 61 rfl rfl rfl rfl fun g => ?_
    refine a_call hT rfl rfl rfl (by kernel_rfl) hF [] [] rfl rfl ?_
    rintro _ _ ⟨rfl, rfl⟩
    refine a_gt hT rfl rfl rfl rfl ?_
    refine a_g hT rfl rfl rfl (fun h => ?_) (fun h => ?_)
    · have h := of_decide_eq_true h
      refine a_g hT rfl rfl rfl (fun h1 => ?_) (fun h1 => ?_)
      · have h1 := of_decide_eq_true h1
        have h0 : (0 : Int) ≤ t := by first | assumption | omega
        have h1' : t < (s.ms.length : Int) := by rw [← hlm]; assumption
        have hfi := fits_spec (hso hfo) hv (t := t) (dep := 1) h0 h1' (by decide) (by decide)
        refine a_call hT rfl rfl rfl (by kernel_rfl) hfi [60] [60] rfl rfl ?_
        rintro _ _ ⟨rfl, rfl⟩
        refine a_ret hT [60] rfl rfl rfl rfl rfl rfl ?_
        exact ⟨by rw [decide_eq_true h0, decide_eq_true h1']; rfl, rfl⟩
      · have h1 := of_decide_eq_false h1
        refine a_ret hT [60] rfl rfl rfl rfl rfl rfl ?_
        have h7 : ¬ t < (s.ms.length : Int) := by rw [← hlm]; assumption
        exact b_eq (by rw [decide_eq_false h7]; simp)
    · have h := of_decide_eq_false h
      refine a_gf hT rfl rfl rfl rfl ?_
      refine a_ret hT [60] rfl rfl rfl rfl rfl rfl ?_
      exact b_eq (by rw [decide_eq_false (show ¬ (0 : Int) ≤ t by assumption)]; simp)
theorem Must_spec {ty : Int} {fs : List VF} {u : ByteArray} : FSpec Tryz.prog 44 [nd (vlD (.msg ty fs u))] [] fun a cs => a = msgA ty fs u ∧ cs = [] := by
  refine FSpec.le ?_
  refine a_enter hT [nd (vlD (.msg ty fs u))] [] Tryz.func44 rfl rfl rfl ⟨Fit.refl _, trivial⟩ fun c' => ?_
  refine a_new hT hZ 20 rfl rfl rfl rfl fun g => ?_
  refine a_ret hT [] rfl rfl rfl rfl rfl rfl ?_
  exact ⟨_, Le.agg (.cons nd_of (.cons nd_of (.cons nd_of .nil))), rfl, rfl⟩
def normA (s : SchP) (v : VL) (t : Int) : AV := if fitsTop s v t then .tup [.d (vlD (normP s v)), .v (kI 0) 0] else .tup [.v .nilIface 0, .v (kI 1) 0]
theorem Normal_spec {s : SchP} (hz : SzS s) {v : VL} (hv : WfV v) {t : Int} : FSpec Tryz.prog 21 [schA s, .v (kI t) 0, nd (vlD v)] [u8C] fun a cs => a = normA s v t ∧ cs = [u8C] := by
  refine FSpec.le ?_
  have hF := Fits_spec hz hv (t := t)
  have hso := fun h => schOk (s := s) h
  unfold normA
  refine a_enter hT [schA s, .v (kI t) 0, nd (vlD v)] [60] Tryz.func21 rfl rfl rfl ⟨Fit.refl _, rfl, Fit.refl _, trivial⟩ fun c' => ?_
  cases hfo : fitsTop s v t with
  | false =>
    rw [hfo] at hF
    refine a_box hT 61 rfl rfl rfl rfl fun g => ?_
    refine a_call hT rfl rfl rfl (by kernel_rfl) hF [60] [60] rfl rfl ?_
    rintro _ _ ⟨rfl, rfl⟩
    refine a_t hT rfl rfl rfl ?_
    refine a_ret hT [60] rfl rfl rfl rfl rfl rfl ?_
    exact ⟨_, Le.refl _, rfl, rfl⟩
  | true =>
    rw [hfo] at hF
    cases v with
    | msg ty fs u =>
      have hN : FSpec Tryz.prog 42 [schA s, msgA ty fs u] [] fun a cs => a = msgA ty (normFs s (dAt s ty) fs) u ∧ cs = [] := by
        unfold fitsTop at hfo
        rw [Bool.and_eq_true, Bool.and_eq_true, Bool.and_eq_true] at hfo
        obtain ⟨f1, f2, f3, f4⟩ := hfo
        have hte : ty = t := by
          have f5 := f4
          unfold fitsP at f5
          rw [Bool.and_eq_true, Bool.and_eq_true] at f5
          exact of_decide_eq_true f5.1.1
        subst hte
        exact normal_ind (hso f1) hv 1 (of_decide_eq_true f2) f4
      refine a_box hT 61 rfl rfl rfl rfl fun g => ?_
      refine a_call hT rfl rfl rfl (by kernel_rfl) hF [60] [60] rfl rfl ?_
      rintro _ _ ⟨rfl, rfl⟩
      refine a_f hT rfl rfl rfl ?_
      refine a_drawX hT [] 3 [(0, false), (1, false), (2, false), (3, true)] rfl rfl (by kernel_rfl) (by kernel_rfl) rfl ?_
      refine a_callF hT rfl rfl rfl (by kernel_rfl) hN [] [] ⟨⟨rfl, rfl, rfl, trivial⟩, ⟨rfl, rfl, rfl, trivial⟩, trivial⟩ rfl trivial ?_
      rintro _ _ ⟨rfl, rfl⟩
      refine a_rest hT [(4, true), (5, true), (6, true)] rfl rfl (by kernel_rfl) ?_
      refine a_ret hT [60] rfl rfl rfl rfl rfl rfl ?_
      refine ⟨_, Le.tup (.cons (le_ifcA rfl) (.cons (Le.refl _) .nil)), ?_, rfl⟩
      rw [if_pos rfl, show normP s (.msg ty fs u) = .msg ty (normFs s (dAt s ty) fs) u from by conv => lhs; unfold normP]
      rfl
    | _ => exact absurd hfo (by unfold fitsTop fitsP; simp)
end Go.Proofs.YtjcolfogmmjaoaaGreatDoor
end

section
set_option linter.unusedVariables false
set_option linter.unusedSimpArgs false
set_option maxRecDepth 100000
set_option maxHeartbeats 2000000
namespace Go.Proofs.YtjcolfogmmjaoaaGreatDoor
open V A
theorem pack_spec {l : List UInt8} {x : FW} (hl : l.length ≤ 800000) (hn : x.n < 18446744073709551616) : FSpec Tryz.prog 91 [.d (A.bytesD l), fwA x] [] fun a cs => a = .d (A.bytesD (l ++ packW x)) ∧ cs = [] := by
  refine a_enter hT [.d (A.bytesD l), fwA x] [] Tryz.func91 rfl rfl rfl ⟨Fit.refl _, Fit.refl _, trivial⟩ fun c' => ?_
  have hA := Append_spec (l := l) (n := x.n) hn (by omega)
  have hA4 := Append64_spec (l := l) (n := x.n) (by omega)
  have hA2 := Append32_spec (l := l) (n := x.n % 4294967296) (by omega)
  rw [← wrap_u32, le32_mod] at hA2
  obtain ⟨num, typ, n, data⟩ := x
  dsimp only at hA hA4 hA2
  unfold packW
  dsimp only
  refine a_box hT 20 rfl rfl rfl rfl fun g => ?_
  refine a_if hT rfl rfl (fun h => ?_) (fun h => ?_)
  · have h : (typ : Int) = 5 := eq_of_beq h
    rw [if_pos (by omega : typ = 5)]
    refine a_call hT rfl rfl rfl (by kernel_rfl) hA2 [] [] rfl rfl ?_
    rintro _ _ ⟨rfl, rfl⟩
    refine a_ret hT [] rfl rfl rfl rfl rfl rfl ?_
    exact ⟨rfl, rfl⟩
  · have h : ¬ (typ : Int) = 5 := ne_of_beq_false h
    rw [if_neg (by omega : ¬ typ = 5)]
    refine a_if hT rfl rfl (fun h1 => ?_) (fun h1 => ?_)
    · have h1 : (typ : Int) = 1 := eq_of_beq h1
      rw [if_pos (by omega : typ = 1)]
      refine a_call hT rfl rfl rfl (by kernel_rfl) hA4 [] [] rfl rfl ?_
      rintro _ _ ⟨rfl, rfl⟩
      refine a_ret hT [] rfl rfl rfl rfl rfl rfl ?_
      exact ⟨rfl, rfl⟩
    · have h1 : ¬ (typ : Int) = 1 := ne_of_beq_false h1
      rw [if_neg (by omega : ¬ typ = 1)]
      refine a_call hT rfl rfl rfl (by kernel_rfl) hA [] [] rfl rfl ?_
      rintro _ _ ⟨rfl, rfl⟩
      refine a_ret hT [] rfl rfl rfl rfl rfl rfl ?_
      exact ⟨rfl, rfl⟩
theorem u64_wrap (n : Int) : IntKind.u64.wrap n = ((u64 n : Nat) : Int) := by
  unfold u64
  rw [Int.toNat_of_nonneg (Int.emod_nonneg n (by decide))]
  unfold IntKind.wrap
  simp [IntKind.bits, IntKind.signed]
theorem field_spec {s : SchP} {f : FDP} {v : VL} {m : List UInt8} (hf : 0 ≤ f.num) (hv : WfV v) (hM : ∀ ty fs u, v = .msg ty fs u → FSpec Tryz.prog 43 [schA s, msgA ty fs u] [] fun a cs => a = .d (A.bytesD m) ∧ cs = []) :
    FSpec Tryz.prog 90 [schA s, .agg ((eF f).map nd), nd (vlD v)] [] fun a cs => a = fwA (mkW f v m) ∧ cs = [] := by
  have hW := Wire_spec (k := f.kind)
  have hwr := wireK_rng f.kind
  have hfw : fwA (mkW f v m) = .agg [.v (kI f.num) 0, .v (kI (wireK f.kind)) 0, .v (kU (numW f.kind v)) 0, .d (A.bytesD (dataW m v))] := by
    unfold fwA mkW
    dsimp only
    rw [Int.toNat_of_nonneg hf, Int.toNat_of_nonneg hwr.1]
  rw [hfw]
  refine FSpec.le ?_
  obtain ⟨num, name, kind, rep, ty⟩ := f
  dsimp only at hW hfw hf ⊢
  generalize wireK kind = wk at hW
  refine a_enter hT [schA s, .agg ((eF ⟨num, name, kind, rep, ty⟩).map nd), nd (vlD v)] [] Tryz.func90 rfl rfl rfl ⟨Fit.refl _, Fit.refl _, Fit.refl _, trivial⟩ fun c' => ?_
  refine a_box hT 20 rfl rfl rfl rfl fun g1 => ?_
  refine a_box hT 21 rfl rfl rfl rfl fun g2 => ?_
  refine a_new hT hZ 22 rfl rfl rfl rfl fun g3 => ?_
  refine a_freezeK 3 20 rfl rfl rfl rfl rfl ?_
  refine a_freezeK 4 21 rfl rfl rfl rfl rfl ?_
  refine a_treeN hT [2, 3, 4, 6, 7] (fun g : Nat => [nd (vlD v), .d (.p (schD s)), .d (.p (eF ⟨num, name, kind, rep, ty⟩)), .v (.pointer (some ⟨g3, 0, none⟩)) 22, .v (.pointer (some ⟨g, 0, none⟩)) 23]) (fun g => [(22, .blk g3 139 [.v (kI 0) 0, .v (kI 0) 0, .v (kU 0) 0, .v (.slice none 0 0) 0]), (23, .blk g 139 [.v (kI num) 0, .v (kI wk) 0, .v (kU 0) 0, .v (.slice none 0 0) 0])]) (fun _ => True) [] 8 [(0, false), (2, false), (1, false), (3, false)] rfl rfl (by kernel_rfl) (by kernel_rfl) rfl ?_ ?_
  · refine a_alt hT [([(4, true), (5, false), (6, true), (7, true)], true), ([(6, true), (4, true), (5, true), (7, true)], true)] rfl rfl (by kernel_rfl) ⟨?_, ?_, trivial⟩
    · refine a_call hT rfl rfl rfl (by kernel_rfl) hW [] [] rfl rfl ?_
      rintro _ _ ⟨rfl, rfl⟩
      refine a_build hT hZ [.v (kI (FDP.num { num := num, name := name, kind := kind, rep := rep, ty := ty })) 0, .v (kI wk) 0, .v (Value.int IntKind.u64 0) 0, .v (Value.slice none 0 0) 0] rfl rfl rfl rfl rfl rfl ?_
      refine a_new hT hZ 23 rfl rfl rfl rfl fun g => ?_
      exact a_next hT g [22, 23] rfl rfl trivial ⟨Fit.refl _, rfl, rfl, rfl, rfl, trivial⟩ rfl ⟨⟨rfl, rfl, rfl, rfl, rfl, rfl, trivial⟩, ⟨rfl, rfl, rfl, rfl, rfl, rfl, trivial⟩, trivial⟩
    · refine a_new hT hZ 23 rfl rfl rfl rfl fun g => ?_
      refine a_call hT rfl rfl rfl (by kernel_rfl) hW [] [] rfl rfl ?_
      rintro _ _ ⟨rfl, rfl⟩
      refine a_build hT hZ [.v (kI (FDP.num { num := num, name := name, kind := kind, rep := rep, ty := ty })) 0, .v (kI wk) 0, .v (Value.int IntKind.u64 0) 0, .v (Value.slice none 0 0) 0] rfl rfl rfl rfl rfl rfl ?_
      exact a_next hT g [22, 23] rfl rfl trivial ⟨Fit.refl _, rfl, rfl, rfl, rfl, trivial⟩ rfl ⟨⟨rfl, rfl, rfl, rfl, rfl, rfl, trivial⟩, ⟨rfl, rfl, rfl, rfl, rfl, rfl, trivial⟩, trivial⟩
  rintro g _
  cases v with
  | int n =>
    have hn : I64 n := by cases hv; assumption
    have hZg := Zig_spec hn
    refine a_t hT rfl rfl rfl ?_
    refine a_if hT rfl rfl (fun h => ?_) (fun h => ?_)
    · have h := eq_of_beq h
      refine a_callF hT rfl rfl rfl (by kernel_rfl) hZg [] [] ⟨rfl, trivial⟩ rfl trivial ?_
      rintro _ _ ⟨rfl, rfl⟩
      refine a_ret hT [] rfl rfl rfl rfl rfl rfl ?_
      exact ⟨_, Le.agg (.cons (Le.refl _) (.cons (Le.refl _) (.cons (Le.refl _) (.cons le_nil .nil)))), by rw [show numW kind (.int n) = (zigP n).toNat from if_pos (by assumption)]; rfl, rfl⟩
    · have h := ne_of_beq_false h
      refine a_ret hT [] rfl rfl rfl rfl rfl rfl ?_
      exact ⟨_, Le.agg (.cons (Le.refl _) (.cons (Le.refl _) (.cons (Le.refl _) (.cons le_nil .nil)))), by rw [show numW kind (.int n) = u64 n from if_neg (by assumption), ← u64_wrap]; rfl, rfl⟩
  | uint u =>
    refine a_assertN hT (.int .i64 0) rfl rfl rfl rfl rfl (by kernel_rfl) rfl ?_
    refine a_f hT rfl rfl rfl ?_
    refine a_t hT rfl rfl rfl ?_
    refine a_ret hT [] rfl rfl rfl rfl rfl rfl ?_
    exact ⟨_, Le.agg (.cons (Le.refl _) (.cons (Le.refl _) (.cons nd_of (.cons le_nil .nil)))), by show _ = AV.agg [_, _, .v (kU ((u.toNat : Nat) : Int)) 0, _]; rw [Int.toNat_of_nonneg (by cases hv; rename_i hu; exact hu.1)]; rfl, rfl⟩
  | bool b =>
    refine a_assertN hT (.int .i64 0) rfl rfl rfl rfl rfl (by kernel_rfl) rfl ?_
    refine a_f hT rfl rfl rfl ?_
    refine a_assertN hT (.int .u64 0) rfl rfl rfl rfl rfl (by kernel_rfl) rfl ?_
    refine a_f hT rfl rfl rfl ?_
    refine a_t hT rfl rfl rfl ?_
    refine a_if hT rfl rfl (fun h => ?_) (fun h => ?_)
    · refine a_ret hT [] rfl rfl rfl rfl rfl rfl ?_
      exact ⟨_, Le.agg (.cons (Le.refl _) (.cons (Le.refl _) (.cons (Le.refl _) (.cons le_nil .nil)))), by rw [show b = true by simpa using (by assumption)]; rfl, rfl⟩
    · refine a_ret hT [] rfl rfl rfl rfl rfl rfl ?_
      exact ⟨_, Le.agg (.cons (Le.refl _) (.cons (Le.refl _) (.cons (Le.refl _) (.cons le_nil .nil)))), by rw [show b = false by simpa using (by assumption)]; rfl, rfl⟩
  | enum n =>
    refine a_assertN hT (.int .i64 0) rfl rfl rfl rfl rfl (by kernel_rfl) rfl ?_
    refine a_f hT rfl rfl rfl ?_
    refine a_assertN hT (.int .u64 0) rfl rfl rfl rfl rfl (by kernel_rfl) rfl ?_
    refine a_f hT rfl rfl rfl ?_
    refine a_assertN hT (.bool false) rfl rfl rfl rfl rfl (by kernel_rfl) rfl ?_
    refine a_f hT rfl rfl rfl ?_
    refine a_t hT rfl rfl rfl ?_
    refine a_ret hT [] rfl rfl rfl rfl rfl rfl ?_
    exact ⟨_, Le.agg (.cons (Le.refl _) (.cons (Le.refl _) (.cons (Le.refl _) (.cons le_nil .nil)))), by show _ = AV.agg [_, _, .v (kU ((u64 n : Nat) : Int)) 0, _]; rw [← u64_wrap, show IntKind.i64.wrap n = n from w64 (by cases hv; omega) (by cases hv; omega)]; rfl, rfl⟩
  | text t =>
    have hts : t.size ≤ lim := by cases hv; unfold lim; omega
    refine a_assertN hT (.int .i64 0) rfl rfl rfl rfl rfl (by kernel_rfl) rfl ?_
    refine a_f hT rfl rfl rfl ?_
    refine a_assertN hT (.int .u64 0) rfl rfl rfl rfl rfl (by kernel_rfl) rfl ?_
    refine a_f hT rfl rfl rfl ?_
    refine a_assertN hT (.bool false) rfl rfl rfl rfl rfl (by kernel_rfl) rfl ?_
    refine a_f hT rfl rfl rfl ?_
    refine a_assertN hT (.int .i32 0) rfl rfl rfl rfl rfl (by kernel_rfl) rfl ?_
    refine a_f hT rfl rfl rfl ?_
    refine a_t hT rfl rfl rfl ?_
    refine a_bytes hT rfl rfl rfl rfl rfl rfl rfl hts ?_
    refine a_ret hT [] rfl rfl rfl rfl rfl rfl ?_
    exact ⟨_, Le.refl _, rfl, rfl⟩
  | bytes t =>
    have hts : t.size ≤ lim := by cases hv; unfold lim; omega
    refine a_assertN hT (.int .i64 0) rfl rfl rfl rfl rfl (by kernel_rfl) rfl ?_
    refine a_f hT rfl rfl rfl ?_
    refine a_assertN hT (.int .u64 0) rfl rfl rfl rfl rfl (by kernel_rfl) rfl ?_
    refine a_f hT rfl rfl rfl ?_
    refine a_assertN hT (.bool false) rfl rfl rfl rfl rfl (by kernel_rfl) rfl ?_
    refine a_f hT rfl rfl rfl ?_
    refine a_assertN hT (.int .i32 0) rfl rfl rfl rfl rfl (by kernel_rfl) rfl ?_
    refine a_f hT rfl rfl rfl ?_
    refine a_assertN hT (.string ByteArray.empty) rfl rfl rfl rfl rfl (by kernel_rfl) rfl ?_
    refine a_f hT rfl rfl rfl ?_
    refine a_t hT rfl rfl rfl ?_
    refine a_bytes hT rfl rfl rfl rfl rfl rfl rfl hts ?_
    refine a_ret hT [] rfl rfl rfl rfl rfl rfl ?_
    exact ⟨_, Le.refl _, rfl, rfl⟩
  | msg ty2 fs2 u2 =>
    have hM := hM _ _ _ rfl
    refine a_assertN hT (.int .i64 0) rfl rfl rfl rfl rfl (by kernel_rfl) rfl ?_
    refine a_f hT rfl rfl rfl ?_
    refine a_assertN hT (.int .u64 0) rfl rfl rfl rfl rfl (by kernel_rfl) rfl ?_
    refine a_f hT rfl rfl rfl ?_
    refine a_assertN hT (.bool false) rfl rfl rfl rfl rfl (by kernel_rfl) rfl ?_
    refine a_f hT rfl rfl rfl ?_
    refine a_assertN hT (.int .i32 0) rfl rfl rfl rfl rfl (by kernel_rfl) rfl ?_
    refine a_f hT rfl rfl rfl ?_
    refine a_assertN hT (.string ByteArray.empty) rfl rfl rfl rfl rfl (by kernel_rfl) rfl ?_
    refine a_f hT rfl rfl rfl ?_
    refine a_assertN hT (.string ByteArray.empty) rfl rfl rfl rfl rfl (by kernel_rfl) rfl ?_
    refine a_f hT rfl rfl rfl ?_
    refine a_t hT rfl rfl rfl ?_
    refine a_new hT hZ 24 rfl rfl rfl rfl fun g4 => ?_
    refine a_callF hT rfl rfl rfl (by kernel_rfl) hM [] [] ⟨⟨rfl, rfl, rfl, trivial⟩, ⟨rfl, rfl, rfl, trivial⟩, trivial⟩ rfl trivial ?_
    rintro _ _ ⟨rfl, rfl⟩
    refine a_ret hT [] rfl rfl rfl rfl rfl rfl ?_
    exact ⟨_, Le.refl _, rfl, rfl⟩
  | none =>
    refine a_assertN hT (.int .i64 0) rfl rfl rfl rfl rfl (by kernel_rfl) rfl ?_
    refine a_f hT rfl rfl rfl ?_
    refine a_assertN hT (.int .u64 0) rfl rfl rfl rfl rfl (by kernel_rfl) rfl ?_
    refine a_f hT rfl rfl rfl ?_
    refine a_assertN hT (.bool false) rfl rfl rfl rfl rfl (by kernel_rfl) rfl ?_
    refine a_f hT rfl rfl rfl ?_
    refine a_assertN hT (.int .i32 0) rfl rfl rfl rfl rfl (by kernel_rfl) rfl ?_
    refine a_f hT rfl rfl rfl ?_
    refine a_assertN hT (.string ByteArray.empty) rfl rfl rfl rfl rfl (by kernel_rfl) rfl ?_
    refine a_f hT rfl rfl rfl ?_
    refine a_assertN hT (.string ByteArray.empty) rfl rfl rfl rfl rfl (by kernel_rfl) rfl ?_
    refine a_f hT rfl rfl rfl ?_
    refine a_assertN hT zMsg rfl rfl rfl rfl rfl (by kernel_rfl) rfl ?_
    refine a_f hT rfl rfl rfl ?_
    refine a_ret hT [] rfl rfl rfl rfl rfl rfl ?_
    exact ⟨_, Le.agg (.cons (Le.refl _) (.cons (Le.refl _) (.cons (Le.refl _) (.cons le_nil .nil)))), rfl, rfl⟩
end Go.Proofs.YtjcolfogmmjaoaaGreatDoor
end
