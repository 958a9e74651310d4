import Derived.Test.YtjcolfogmmjaoaaDoorQDecodePacked9
section
/- Layer 11: message, of numbers alone. -/
set_option linter.unusedVariables false
set_option linter.unusedSimpArgs false
set_option maxRecDepth 100000
set_option maxHeartbeats 2000000
namespace Go.Proofs.YtjcolfogmmjaoaaDoor
open V A
theorem mtW : mapT Tryd.prog 113 3 109 = true := by kernel_rfl
theorem zeroW : (Tryd.prog.info? 109).map (·.zero) = some (some (.slice none 0 0)) := by kernel_rfl
theorem dmsg_spec {s : SchP} {d : MDP} {t : Nat} {dep : Int} {bs : List UInt8} (hs : s.ms[t]? = some d) (hd : FlatM d) (hdep : dep ≤ 16) (hl : bs.length ≤ 4096) : FSpec Tryd.prog 30 [schA s, .v (kI t) 0, .d (A.bytesD bs), .v (kI dep) 0] [] fun a cs => a = decA (msgP d t bs) ∧ cs = [] := by
  refine FSpec.le ?_
  have hlim : lim = 4294967296 := rfl
  have hS := WSplit_spec (bs := bs) (by omega)
  have hm : msgP d t bs = msgP d t bs := rfl
  conv at hm => rhs; unfold msgP
  have hws := splitW_ok bs.length bs
  generalize msgP d t bs = M at hm ⊢
  generalize splitW bs = ws at hS hm hws
  have hat0 : (s.ms.map eM)[((t : Nat) : Int).toNat]? = some (eM d) := by simp [hs]
  refine a_enter hT [schA s, .v (kI t) 0, .d (A.bytesD bs), .v (kI dep) 0] [] Tryd.func30 rfl rfl rfl ⟨Fit.refl _, rfl, Fit.refl _, rfl, trivial⟩ fun c' => ?_
  refine a_box hT 20 rfl rfl rfl rfl fun g0 => ?_
  refine a_f hT rfl rfl (decide_eq_false (by show ¬ dep > 16; omega)) ?_
  cases ws with
  | none =>
    refine a_call hT rfl rfl rfl (by kernel_rfl) hS [] [] rfl rfl ?_
    rintro _ _ ⟨rfl, rfl⟩
    refine a_t hT rfl rfl rfl ?_
    refine a_ret hT [] rfl rfl rfl rfl rfl rfl ?_
    exact ⟨_, Le.refl _, by rw [hm]; rfl, rfl⟩
  | some ws =>
    refine a_call hT rfl rfl rfl (by kernel_rfl) hS [] [] rfl rfl ?_
    rintro _ _ ⟨rfl, rfl⟩
    refine a_f hT rfl rfl rfl ?_
    refine a_ix hT _ rfl rfl rfl rfl rfl rfl (by first | omega | assumption) (by first | assumption | rfl) ?_
    refine a_new hT hZ 21 rfl rfl rfl rfl fun g => ?_
    refine a_build hT hZ [.v (kI ↑t) 0, .v (Value.slice none 0 0) 0, .v (Value.string ByteArray.empty) 0] rfl rfl rfl rfl rfl rfl ?_
    refine a_new hT hZ 22 rfl rfl rfl rfl fun g1 => ?_
    refine a_mkmap hT 23 rfl rfl rfl fun r => ?_
    obtain ⟨hw1, hw2, hw3⟩ := hws ws (Nat.le_refl _) rfl
    have hlw : (ws.map fun x => fwD x.1).length = ws.length := List.length_map _
    refine a_freezeK 4 20 rfl rfl rfl rfl rfl ?_
    refine a_freezeK 13 21 rfl rfl rfl rfl rfl ?_
    refine a_ent [] [24] [.ext (listA [])] rfl rfl (ent_shut []) ?_
    refine a_loop hT [3, 4, 11, 13, 14, 15, 43, 44, 45] (fun x : Nat × List (Int × KX) => [.v (kI dep) 0, .d (.p (schD s)), .d (.sl 1 (ws.map rawD)), .d (.p (eM d)), .v (.pointer (some ⟨g1, 0, none⟩)) 22, .v (.map (some r)) 23, .d (.sl 4 (ws.map fun x => fwD x.1)), .v (kI ws.length) 0, .v (kI x.1) 0]) (fun x => [(22, .blk g1 30 [.v (kI t) 0, .v (.slice none 0 0) 0, .v (.string (mkS (unkP d (ws.take x.1)))) 0]), (23, .map r (mapG kI vaK x.2)), (24, .ext (listA (x.2.map rowK)))]) (fun x => x.1 ≤ ws.length ∧ ∀ k, kAt x.2 k = knP d (ws.take x.1) k) (fun x => ws.length - x.1) (0, []) [22, 23, 24] rfl rfl ⟨Nat.zero_le _, fun k => rfl⟩ ⟨rfl, rfl, rfl, rfl, rfl, rfl, rfl, by rw [← hlw]; rfl, rfl, trivial⟩ rfl ⟨⟨rfl, rfl, ⟨rfl, rfl, rfl, trivial⟩⟩, ⟨rfl, rfl⟩, rfl, trivial⟩ ?_
    rintro ⟨i, L⟩ ⟨i2, i3⟩
    dsimp only at i2 i3
    have hw := wN i (by omega)
    rcases Nat.lt_or_ge i ws.length with hil | hil
    · have hat : (ws.map fun x => fwD x.1)[(i : Int).toNat]? = some (fwD ws[i].1) := by simp [hil]
      have hat2 : (ws.map rawD)[(i : Int).toNat]? = some (rawD ws[i]) := by simp [hil]
      have hmem := List.getElem_mem hil
      have htk : ws.take (i + 1) = ws.take i ++ [ws[i]] := List.take_succ_eq_append_getElem hil
      generalize ws[i] = x at hat hat2 hmem htk
      obtain ⟨⟨fn, ft, fu, fd⟩, raw⟩ := x
      have hK := Known_spec (d := d) (num := fn) (typ := ft) (by have := hd.len; omega)
      refine a_t hT rfl rfl (decide_eq_true (by show (i : Int) < (ws.length : Int); omega)) ?_
      cases hkn : knownP d fn ft with
      | true =>
        rw [hkn] at hK
        refine a_ix hT _ rfl rfl rfl rfl rfl rfl (by first | omega | assumption) (by first | assumption | rfl) ?_
        refine a_new hT hZ 25 rfl rfl rfl rfl fun g2 => ?_
        refine a_call hT rfl rfl rfl (by kernel_rfl) hK [] [] rfl rfl ?_
        rintro _ _ ⟨rfl, rfl⟩
        refine a_t hT rfl rfl rfl ?_
        cases hag : aget L fn with
        | none =>
          have hold : kAt L fn = [] := by unfold kAt; rw [hag]; rfl
          have hlimA : (([] : List FW).map fwD).length + [fwD (⟨fn, ft, fu, fd⟩ : FW)].length ≤ lim := by simp; omega
          refine a_nilchunk 26 114 4 rfl ?_
          refine a_treeN hT [3, 4, 11, 13, 14, 15, 43, 44, 45] (fun _ : Value => [.v (kI dep) 0, .d (.p (schD s)), .d (.sl 1 (ws.map rawD)), .d (.p (eM d)), .v (.pointer (some ⟨g1, 0, none⟩)) 22, .v (.map (some r)) 23, .d (.sl 4 (ws.map fun x => fwD x.1)), .v (kI ws.length) 0, .v (kI i) 0]) (fun v => [(22, .blk g1 30 [.v (kI t) 0, .v (.slice none 0 0) 0, .v (.string (mkS (unkP d (ws.take i)))) 0]), (23, .map r (mapG kI vaK (aput L fn ⟨v, ([] : List FW) ++ [(⟨fn, ft, fu, fd⟩ : FW)]⟩))), (26, .row v 114 4 ((([] : List FW) ++ [(⟨fn, ft, fu, fd⟩ : FW)]).map fwD)), (24, .ext (listA (L.map rowK)))]) (fun _ => True) [23, 26] 11 [(0, false), (1, false), (2, false), (3, false), (4, false), (5, false), (7, false)] rfl rfl (by kernel_rfl) (by kernel_rfl) rfl ?_ ?_
          · refine a_alt hT [([(6, true), (8, true), (9, true), (10, true)], true), ([(8, true), (6, true), (9, true), (10, true)], true)] rfl rfl (by kernel_rfl) ⟨?_, ?_, trivial⟩
            · refine a_lookG hT (kv := kI) (va := vaK) L fn none rfl rfl rfl mtW kI_ok zeroW rfl rfl rfl rfl rfl hag ?_
              refine a_asL 62 (b := .row (.slice none 0 0) 26) rfl le_nilrow ?_
              refine a_lit hT 27 rfl rfl rfl rfl (by kernel_rfl) rfl rfl rfl rfl fun x27 => ?_
              refine a_app hT 28 ((([] : List FW) ++ [(⟨fn, ft, fu, fd⟩ : FW)]).map fwD) rfl rfl rfl rfl (by kernel_rfl) rfl rfl rfl rfl rfl (by rw [List.map_append]; rfl) hlimA fun v => ?_
              refine a_as 65 (b := .row v 0) rfl rfl ?_
              refine a_mputG hT (kv := kI) (va := vaK) L fn ⟨v, ([] : List FW) ++ [(⟨fn, ft, fu, fd⟩ : FW)]⟩ rfl rfl rfl mtW kI_ok rfl rfl rfl rfl rfl rfl ?_
              exact a_next hT v [22, 23, 28, 24] rfl rfl trivial ⟨rfl, rfl, rfl, rfl, rfl, rfl, rfl, rfl, rfl, trivial⟩ rfl ⟨⟨rfl, rfl, ⟨rfl, rfl, rfl, trivial⟩⟩, ⟨rfl, rfl⟩, ⟨rfl, rfl, rfl, rfl⟩, rfl, trivial⟩
            · refine a_lit hT 27 rfl rfl rfl rfl (by kernel_rfl) rfl rfl rfl rfl fun x27 => ?_
              refine a_lookG hT (kv := kI) (va := vaK) L fn none rfl rfl rfl mtW kI_ok zeroW rfl rfl rfl rfl rfl hag ?_
              refine a_asL 62 (b := .row (.slice none 0 0) 26) rfl le_nilrow ?_
              refine a_app hT 28 ((([] : List FW) ++ [(⟨fn, ft, fu, fd⟩ : FW)]).map fwD) rfl rfl rfl rfl (by kernel_rfl) rfl rfl rfl rfl rfl (by rw [List.map_append]; rfl) hlimA fun v => ?_
              refine a_as 65 (b := .row v 0) rfl rfl ?_
              refine a_mputG hT (kv := kI) (va := vaK) L fn ⟨v, ([] : List FW) ++ [(⟨fn, ft, fu, fd⟩ : FW)]⟩ rfl rfl rfl mtW kI_ok rfl rfl rfl rfl rfl rfl ?_
              exact a_next hT v [22, 23, 28, 24] rfl rfl trivial ⟨rfl, rfl, rfl, rfl, rfl, rfl, rfl, rfl, rfl, trivial⟩ rfl ⟨⟨rfl, rfl, ⟨rfl, rfl, rfl, trivial⟩⟩, ⟨rfl, rfl⟩, ⟨rfl, rfl, rfl, rfl⟩, rfl, trivial⟩
          rintro v _
          have hunk : unkP d (ws.take (i + 1)) = unkP d (ws.take i) := by rw [htk, unkP_snoc, hkn]; simp
          have hent : Ent [.row v 114 4 ((([] : List FW) ++ [(⟨fn, ft, fu, fd⟩ : FW)]).map fwD), .ext (listA (L.map rowK))] [.ext (listA ((aput L fn ⟨v, ([] : List FW) ++ [(⟨fn, ft, fu, fd⟩ : FW)]⟩).map rowK))] := by
            have := ent_unfocus (L.map rowK) [rowK ((fn : Int), ⟨v, ([] : List FW) ++ [(⟨fn, ft, fu, fd⟩ : FW)]⟩)] []
            rw [List.append_nil, List.append_nil, show L.map rowK ++ [rowK ((fn : Int), ⟨v, ([] : List FW) ++ [(⟨fn, ft, fu, fd⟩ : FW)]⟩)] = (aput L (fn : Int) ⟨v, ([] : List FW) ++ [(⟨fn, ft, fu, fd⟩ : FW)]⟩).map rowK by rw [aput_new hag, List.map_append]; rfl] at this
            exact this
          refine a_nextE hT (i + 1, aput L fn ⟨v, ([] : List FW) ++ [(⟨fn, ft, fu, fd⟩ : FW)]⟩) [22, 23, 26, 24] rfl rfl ⟨⟨by show i + 1 ≤ ws.length; omega, fun k => ?_⟩, by show ws.length - (i + 1) < ws.length - i; omega⟩ ⟨rfl, rfl, rfl, rfl, rfl, rfl, rfl, rfl, by show Value.int .i64 _ = Value.int .i64 _; rw [hw], trivial⟩ rfl (show Ent [.blk g1 30 [.v (kI t) 0, .v (.slice none 0 0) 0, .v (.string (mkS (unkP d (ws.take i)))) 0], .map r (mapG kI vaK (aput L fn ⟨v, ([] : List FW) ++ [(⟨fn, ft, fu, fd⟩ : FW)]⟩)), .row v 114 4 ((([] : List FW) ++ [(⟨fn, ft, fu, fd⟩ : FW)]).map fwD), .ext (listA (L.map rowK))] [.blk g1 30 [.v (kI t) 0, .v (.slice none 0 0) 0, .v (.string (mkS (unkP d (ws.take (i + 1))))) 0], .map r (mapG kI vaK (aput L fn ⟨v, ([] : List FW) ++ [(⟨fn, ft, fu, fd⟩ : FW)]⟩)), .ext (listA ((aput L fn ⟨v, ([] : List FW) ++ [(⟨fn, ft, fu, fd⟩ : FW)]⟩).map rowK))] from by rw [hunk]; exact Ent.cons _ (Ent.cons _ hent))
          show kAt (aput L fn ⟨v, ([] : List FW) ++ [(⟨fn, ft, fu, fd⟩ : FW)]⟩) k = knP d (ws.take (i + 1)) k
          rw [kAt_put, htk, knP_snoc, hkn, ← i3 k]
          split
          · rename_i e
            subst e
            rw [hold]
            simp
          · rename_i e
            simp [e]
        | some kx =>
          obtain ⟨a, b, hab, hna⟩ := aget_split hag
          have hold : kAt L fn = kx.l := by unfold kAt; rw [hag]; rfl
          have hkl : kx.l.length ≤ ws.length := by rw [← hold, i3]; exact knP_len _ _ _ _
          have hlimA : (kx.l.map fwD).length + [fwD (⟨fn, ft, fu, fd⟩ : FW)].length ≤ lim := by simp; omega
          have hmapL : L.map rowK = a.map rowK ++ ([rowK ((fn : Int), kx)] ++ b.map rowK) := by rw [hab, List.map_append]; rfl
          refine a_ent [24] [26, 24] ([rowK ((fn : Int), kx)] ++ [.ext (listA (a.map rowK ++ b.map rowK))]) rfl rfl (by have := ent_focus (a.map rowK) [rowK ((fn : Int), kx)] (b.map rowK); rw [← hmapL] at this; exact this) ?_
          refine a_treeN hT [3, 4, 11, 13, 14, 15, 43, 44, 45] (fun _ : Value => [.v (kI dep) 0, .d (.p (schD s)), .d (.sl 1 (ws.map rawD)), .d (.p (eM d)), .v (.pointer (some ⟨g1, 0, none⟩)) 22, .v (.map (some r)) 23, .d (.sl 4 (ws.map fun x => fwD x.1)), .v (kI ws.length) 0, .v (kI i) 0]) (fun v => [(22, .blk g1 30 [.v (kI t) 0, .v (.slice none 0 0) 0, .v (.string (mkS (unkP d (ws.take i)))) 0]), (23, .map r (mapG kI vaK (aput L fn ⟨v, kx.l ++ [(⟨fn, ft, fu, fd⟩ : FW)]⟩))), (26, .row v 114 4 ((kx.l ++ [(⟨fn, ft, fu, fd⟩ : FW)]).map fwD)), (24, .ext (listA (a.map rowK ++ b.map rowK)))]) (fun _ => True) [23, 26] 11 [(0, false), (1, false), (2, false), (3, false), (4, false), (5, false), (7, false)] rfl rfl (by kernel_rfl) (by kernel_rfl) rfl ?_ ?_
          · refine a_alt hT [([(6, true), (8, true), (9, true), (10, true)], true), ([(8, true), (6, true), (9, true), (10, true)], true)] rfl rfl (by kernel_rfl) ⟨?_, ?_, trivial⟩
            · refine a_lookG hT (kv := kI) (va := vaK) L fn (some kx) rfl rfl rfl mtW kI_ok zeroW rfl rfl rfl rfl rfl hag ?_
              refine a_as 62 (b := .row kx.v 26) rfl rfl ?_
              refine a_lit hT 27 rfl rfl rfl rfl (by kernel_rfl) rfl rfl rfl rfl fun x27 => ?_
              refine a_app hT 28 ((kx.l ++ [(⟨fn, ft, fu, fd⟩ : FW)]).map fwD) rfl rfl rfl rfl (by kernel_rfl) rfl rfl rfl rfl rfl (by rw [List.map_append]; rfl) hlimA fun v => ?_
              refine a_as 65 (b := .row v 0) rfl rfl ?_
              refine a_mputG hT (kv := kI) (va := vaK) L fn ⟨v, kx.l ++ [(⟨fn, ft, fu, fd⟩ : FW)]⟩ rfl rfl rfl mtW kI_ok rfl rfl rfl rfl rfl rfl ?_
              exact a_next hT v [22, 23, 28, 24] rfl rfl trivial ⟨rfl, rfl, rfl, rfl, rfl, rfl, rfl, rfl, rfl, trivial⟩ rfl ⟨⟨rfl, rfl, ⟨rfl, rfl, rfl, trivial⟩⟩, ⟨rfl, rfl⟩, ⟨rfl, rfl, rfl, rfl⟩, rfl, trivial⟩
            · refine a_lit hT 27 rfl rfl rfl rfl (by kernel_rfl) rfl rfl rfl rfl fun x27 => ?_
              refine a_lookG hT (kv := kI) (va := vaK) L fn (some kx) rfl rfl rfl mtW kI_ok zeroW rfl rfl rfl rfl rfl hag ?_
              refine a_as 62 (b := .row kx.v 26) rfl rfl ?_
              refine a_app hT 28 ((kx.l ++ [(⟨fn, ft, fu, fd⟩ : FW)]).map fwD) rfl rfl rfl rfl (by kernel_rfl) rfl rfl rfl rfl rfl (by rw [List.map_append]; rfl) hlimA fun v => ?_
              refine a_as 65 (b := .row v 0) rfl rfl ?_
              refine a_mputG hT (kv := kI) (va := vaK) L fn ⟨v, kx.l ++ [(⟨fn, ft, fu, fd⟩ : FW)]⟩ rfl rfl rfl mtW kI_ok rfl rfl rfl rfl rfl rfl ?_
              exact a_next hT v [22, 23, 28, 24] rfl rfl trivial ⟨rfl, rfl, rfl, rfl, rfl, rfl, rfl, rfl, rfl, trivial⟩ rfl ⟨⟨rfl, rfl, ⟨rfl, rfl, rfl, trivial⟩⟩, ⟨rfl, rfl⟩, ⟨rfl, rfl, rfl, rfl⟩, rfl, trivial⟩
          rintro v _
          have hunk : unkP d (ws.take (i + 1)) = unkP d (ws.take i) := by rw [htk, unkP_snoc, hkn]; simp
          have hent : Ent [.row v 114 4 ((kx.l ++ [(⟨fn, ft, fu, fd⟩ : FW)]).map fwD), .ext (listA (a.map rowK ++ b.map rowK))] [.ext (listA ((aput L fn ⟨v, kx.l ++ [(⟨fn, ft, fu, fd⟩ : FW)]⟩).map rowK))] := by
            have := ent_unfocus (a.map rowK) [rowK ((fn : Int), ⟨v, kx.l ++ [(⟨fn, ft, fu, fd⟩ : FW)]⟩)] (b.map rowK)
            rw [show a.map rowK ++ ([rowK ((fn : Int), ⟨v, kx.l ++ [(⟨fn, ft, fu, fd⟩ : FW)]⟩)] ++ b.map rowK) = (aput L (fn : Int) ⟨v, kx.l ++ [(⟨fn, ft, fu, fd⟩ : FW)]⟩).map rowK by rw [hab, aput_mid hna, List.map_append]; rfl] at this
            exact this
          refine a_nextE hT (i + 1, aput L fn ⟨v, kx.l ++ [(⟨fn, ft, fu, fd⟩ : FW)]⟩) [22, 23, 26, 24] rfl rfl ⟨⟨by show i + 1 ≤ ws.length; omega, fun k => ?_⟩, by show ws.length - (i + 1) < ws.length - i; omega⟩ ⟨rfl, rfl, rfl, rfl, rfl, rfl, rfl, rfl, by show Value.int .i64 _ = Value.int .i64 _; rw [hw], trivial⟩ rfl (show Ent [.blk g1 30 [.v (kI t) 0, .v (.slice none 0 0) 0, .v (.string (mkS (unkP d (ws.take i)))) 0], .map r (mapG kI vaK (aput L fn ⟨v, kx.l ++ [(⟨fn, ft, fu, fd⟩ : FW)]⟩)), .row v 114 4 ((kx.l ++ [(⟨fn, ft, fu, fd⟩ : FW)]).map fwD), .ext (listA (a.map rowK ++ b.map rowK))] [.blk g1 30 [.v (kI t) 0, .v (.slice none 0 0) 0, .v (.string (mkS (unkP d (ws.take (i + 1))))) 0], .map r (mapG kI vaK (aput L fn ⟨v, kx.l ++ [(⟨fn, ft, fu, fd⟩ : FW)]⟩)), .ext (listA ((aput L fn ⟨v, kx.l ++ [(⟨fn, ft, fu, fd⟩ : FW)]⟩).map rowK))] from by rw [hunk]; exact Ent.cons _ (Ent.cons _ hent))
          show kAt (aput L fn ⟨v, kx.l ++ [(⟨fn, ft, fu, fd⟩ : FW)]⟩) k = knP d (ws.take (i + 1)) k
          rw [kAt_put, htk, knP_snoc, hkn, ← i3 k]
          split
          · rename_i e
            subst e
            rw [hold]
            simp
          · rename_i e
            simp [e]
      | false =>
        rw [hkn] at hK
        refine a_ix hT _ rfl rfl rfl rfl rfl rfl (by first | omega | assumption) (by first | assumption | rfl) ?_
        refine a_new hT hZ 25 rfl rfl rfl rfl fun g2 => ?_
        refine a_call hT rfl rfl rfl (by kernel_rfl) hK [] [] rfl rfl ?_
        rintro _ _ ⟨rfl, rfl⟩
        refine a_f hT rfl rfl rfl ?_
        refine a_draw hT [] true [(0, false), (1, false), (2, false), (3, false), (4, false), (5, false), (6, false), (7, false), (8, false), (9, true)] rfl rfl (by kernel_rfl) (by kernel_rfl) rfl ?_
        refine a_ix hT _ rfl rfl rfl rfl rfl rfl (by first | omega | assumption) (by first | assumption | rfl) ?_
        refine a_strP hT (l := raw) rfl rfl rfl rfl rfl rfl rfl ?_
        have hunk : unkP d (ws.take (i + 1)) = unkP d (ws.take i) ++ raw := by rw [htk, unkP_snoc, hkn]; simp
        have hul := unkP_len d ws (i + 1)
        rw [hunk, List.length_append] at hul
        refine a_bin hT _ rfl rfl rfl (by decide) rfl rfl (fun w => bin_cat (by show (mkS (unkP d (ws.take i))).size + (mkS raw).size ≤ _; rw [mkS_size, mkS_size]; omega) w) ?_
        refine a_next hT (i + 1, L) [22, 23, 24] rfl rfl ⟨⟨by show i + 1 ≤ ws.length; omega, fun k => ?_⟩, by show ws.length - (i + 1) < ws.length - i; omega⟩ ⟨rfl, rfl, rfl, rfl, rfl, rfl, rfl, rfl, by show Value.int .i64 _ = Value.int .i64 _; rw [hw], trivial⟩ rfl ⟨⟨rfl, rfl, ⟨rfl, rfl, by show Value.string _ = Value.string _; rw [hunk, ← mkS_app]; rfl, trivial⟩⟩, ⟨rfl, rfl⟩, rfl, trivial⟩
        show kAt L k = knP d (ws.take (i + 1)) k
        rw [htk, knP_snoc, hkn, ← i3 k]
        simp
    · refine a_f hT rfl rfl (decide_eq_false (by show ¬ (i : Int) < (ws.length : Int); omega)) ?_
      have hi : i = ws.length := by omega
      subst hi
      rw [List.take_length] at i3 ⊢
      refine a_freezeM 23 24 (kv := kI) (vf := KX.v) (df := fun x => x.l.map fwD) L rfl rfl ?_
      refine a_nilrowB 22 1 40 78 2 rfl rfl rfl ?_
      have hlf : (d.fs.map eF).length = d.fs.length := List.length_map _
      have hdl := hd.len
      generalize hkn : knP d ws = kn at hm i3
      have hm : M = (fldsP kn d.fs).map fun fs => .msg t fs (mkS (unkP d ws)) := by rw [hm]; show ((fldsP (knP d ws) d.fs).map _) = _; rw [hkn]
      have hkl : ∀ k, (kn k).length ≤ 4096 := fun k => by rw [← hkn]; have := knP_len d ws ws.length k; rw [List.take_length] at this; omega
      have hkd : ∀ k, ∀ x ∈ kn k, x.data.length ≤ 4096 := fun k x hx => by
        rw [← hkn] at hx
        unfold knP at hx
        obtain ⟨y, hy, rfl⟩ := List.mem_map.1 (List.mem_filter.1 hx).1
        have := hw2 y hy
        omega
      refine a_loop hT [3, 4, 14, 15, 77, 78, 79] (fun x : Nat × List VF × Value => [.v (kI dep) 0, .d (.p (schD s)), .v (.pointer (some ⟨g1, 0, none⟩)) 22, .v (.map (some r)) 23, .d (.sl 5 (d.fs.map eF)), .v (kI d.fs.length) 0, .v (kI x.1) 0]) (fun x => [(22, .blk g1 30 [.v (kI t) 0, .row x.2.2 40, .v (.string (mkS (unkP d ws))) 0]), (40, .row x.2.2 78 2 (vfsD x.2.1)), (23, .map r (mapG kI vaKD L))]) (fun x => x.1 ≤ d.fs.length ∧ (fldsP kn (d.fs.drop x.1)).map (x.2.1 ++ ·) = fldsP kn d.fs ∧ x.2.1.length ≤ x.1) (fun x => d.fs.length - x.1) (0, [], .slice none 0 0) [22, 40, 23] rfl rfl ⟨Nat.zero_le _, by simp, Nat.le_refl _⟩ ⟨rfl, rfl, rfl, rfl, rfl, by rw [← hlf]; rfl, rfl, trivial⟩ rfl ⟨⟨rfl, rfl, ⟨rfl, rfl, rfl, trivial⟩⟩, ⟨rfl, rfl, rfl, rfl⟩, ⟨rfl, rfl⟩, trivial⟩ ?_
      rintro ⟨i, done, vf⟩ ⟨j2, j3, j4⟩
      dsimp only at j2 j3 j4
      have hw := wN i (by omega)
      rcases Nat.lt_or_ge i d.fs.length with hil | hil
      · have hat : (d.fs.map eF)[(i : Int).toNat]? = some (eF d.fs[i]) := by simp [hil]
        have hmem := List.getElem_mem hil
        have h5 := hd.k5 _ hmem
        have h6 := hd.k6 _ hmem
        have h10 := hd.k10 _ hmem
        rw [drop_at hil] at j3
        generalize d.fs[i] = f at hat hmem h5 h6 h10 j3
        have hO := own_spec (f := f) (l := kn f.num) h10 (by have := hkl f.num; omega)
        have hol : (ownP f (kn f.num)).length ≤ 4096 := by
          unfold ownP
          split
          · exact hkl _
          · simp
        have hod : ∀ x ∈ ownP f (kn f.num), x.data.length ≤ 4096 := by
          unfold ownP
          split
          · exact hkd _
          · rename_i hne
            intro x hx
            simp at hx
            subst hx
            rcases List.eq_nil_or_concat (kn f.num) with e | ⟨l', y, e⟩
            · rw [e] at hne; simp at hne
            · rw [e, List.concat_eq_append]
              simp
              exact hkd f.num y (by rw [e]; simp)
        have j5 : ((valsP f (ownP f (kn f.num))).bind fun l => (fldsP kn (d.fs.drop (i + 1))).map fun q => if keepP f l then VF.mk f.num l :: q else q).map (done ++ ·) = fldsP kn d.fs := j3
        generalize ownP f (kn f.num) = ow at hO hol hod j5
        have how : (ow.map fwD).length = ow.length := List.length_map _
        refine a_t hT rfl rfl (decide_eq_true (by show (i : Int) < (d.fs.length : Int); omega)) ?_
        refine a_ix hT _ rfl rfl rfl rfl rfl rfl (by first | omega | assumption) (by first | assumption | rfl) ?_
        refine a_new hT hZ 25 rfl rfl rfl rfl fun g2 => ?_
        refine a_run hT 1 rfl rfl ?_
        refine a_freezeK 19 25 rfl rfl rfl rfl rfl ?_
        refine a_lookG hT (kv := kI) (va := vaKD) L f.num (aget L f.num) rfl rfl rfl mtW kI_ok zeroW rfl rfl rfl rfl rfl rfl ?_
        refine a_asL 87 (b := .d (.sl 4 ((kAt L f.num).map fwD))) rfl (kAt_le L f.num) ?_
        rw [i3]
        refine a_call hT rfl rfl rfl (by kernel_rfl) hO [] [] rfl rfl ?_
        rintro _ _ ⟨rfl, rfl⟩
        refine a_nilrow 20 41 34 1 rfl rfl ?_
        refine a_loop hT [3, 4, 14, 15, 19, 20, 77, 78, 79, 88, 89, 90] (fun x : Nat × List VL × Value => [.v (kI dep) 0, .d (.p (schD s)), .v (.pointer (some ⟨g1, 0, none⟩)) 22, .v (.map (some r)) 23, .d (.p (eF f)), .row x.2.2 41, .d (.sl 5 (d.fs.map eF)), .v (kI d.fs.length) 0, .v (kI i) 0, .d (.sl 4 (ow.map fwD)), .v (kI ow.length) 0, .v (kI x.1) 0]) (fun x => [(22, .blk g1 30 [.v (kI t) 0, .row vf 40, .v (.string (mkS (unkP d ws))) 0]), (40, .row vf 78 2 (vfsD done)), (23, .map r (mapG kI vaKD L)), (41, .row x.2.2 34 1 (vlsD x.2.1))]) (fun x => x.1 ≤ ow.length ∧ (valsP f (ow.drop x.1)).map (x.2.1 ++ ·) = valsP f ow ∧ x.2.1.length ≤ x.1 * 5000) (fun x => ow.length - x.1) (0, [], .slice none 0 0) [22, 40, 23, 41] rfl rfl ⟨Nat.zero_le _, by simp, by simp⟩ ⟨rfl, rfl, rfl, rfl, rfl, rfl, rfl, rfl, rfl, rfl, by rw [← how]; rfl, rfl, trivial⟩ rfl ⟨⟨rfl, rfl, ⟨rfl, rfl, rfl, trivial⟩⟩, ⟨rfl, rfl, rfl, rfl⟩, ⟨rfl, rfl⟩, ⟨rfl, rfl, rfl, rfl⟩, trivial⟩ ?_
        rintro ⟨j, acc, v20⟩ ⟨l2, l3, l4⟩
        dsimp only at l2 l3 l4
        have hwj := wN j (by omega)
        have hvl := vlsD_len acc
        rcases Nat.lt_or_ge j ow.length with hjl | hjl
        · have hat2 : (ow.map fwD)[(j : Int).toNat]? = some (fwD ow[j]) := by simp [hjl]
          have hxd := hod _ (List.getElem_mem hjl)
          rw [drop_at hjl] at l3
          generalize ow[j] = x at hat2 hxd l3
          have hV := values_spec (s := s) (f := f) (x := x) (d := dep) h10 h5 h6 (by omega)
          have hvn := fun l => valuesP_len (f := f) (x := x) (l := l)
          have l5 : ((valuesP f x).bind fun q => (valsP f (ow.drop (j + 1))).map (q ++ ·)).map (acc ++ ·) = valsP f ow := l3
          generalize valuesP f x = uv at hV hvn l5
          obtain ⟨xn, xt, xu, xd⟩ := x
          refine a_t hT rfl rfl (decide_eq_true (by show (j : Int) < (ow.length : Int); omega)) ?_
          cases uv with
          | none =>
            have hM : M = none := by rw [hm, ← j5, ← l5]; rfl
            subst hM
            refine a_ix hT _ rfl rfl rfl rfl rfl rfl (by first | omega | assumption) (by first | assumption | rfl) ?_
            refine a_new hT hZ 42 rfl rfl rfl rfl fun g3 => ?_
            refine a_call hT rfl rfl rfl (by kernel_rfl) hV [] [] rfl rfl ?_
            rintro _ _ ⟨rfl, rfl⟩
            refine a_t hT rfl rfl rfl ?_
            refine a_ret hT [] rfl rfl rfl rfl rfl rfl ?_
            exact ⟨_, Le.refl _, rfl, rfl⟩
          | some l =>
            have hll : l.length ≤ 4097 := by have := hvn l rfl; omega
            have hvl2 := vlsD_len l
            have l6 : (valsP f (ow.drop (j + 1))).map ((acc ++ l) ++ ·) = valsP f ow := by rw [← l5]; show _ = ((valsP f (ow.drop (j + 1))).map (l ++ ·)).map (acc ++ ·); rw [Option.map_map]; congr 1; funext q; simp
            refine a_ix hT _ rfl rfl rfl rfl rfl rfl (by first | omega | assumption) (by first | assumption | rfl) ?_
            refine a_new hT hZ 42 rfl rfl rfl rfl fun g3 => ?_
            refine a_call hT rfl rfl rfl (by kernel_rfl) hV [] [] rfl rfl ?_
            rintro _ _ ⟨rfl, rfl⟩
            refine a_f hT rfl rfl rfl ?_
            refine a_app hT 41 _ rfl rfl rfl rfl (by kernel_rfl) rfl rfl rfl rfl rfl rfl (by first | (simp; done) | (simp; omega) | (simp; unfold lim; omega) | (simp; assumption)) fun v => ?_
            exact a_next hT (j + 1, acc ++ l, v) [22, 40, 23, 41] rfl rfl ⟨⟨by show j + 1 ≤ ow.length; omega, l6, by show (acc ++ l).length ≤ (j + 1) * 5000; rw [List.length_append]; omega⟩, by show ow.length - (j + 1) < ow.length - j; omega⟩ ⟨rfl, rfl, rfl, rfl, rfl, rfl, rfl, rfl, rfl, rfl, rfl, by show Value.int .i64 _ = Value.int .i64 _; rw [hwj], trivial⟩ rfl ⟨⟨rfl, rfl, ⟨rfl, rfl, rfl, trivial⟩⟩, ⟨rfl, rfl, rfl, rfl⟩, ⟨rfl, rfl⟩, ⟨rfl, rfl, rfl, (vlsD_app acc l).symm⟩, trivial⟩
        · refine a_f hT rfl rfl (decide_eq_false (by show ¬ (j : Int) < (ow.length : Int); omega)) ?_
          rw [List.drop_eq_nil_of_le hjl] at l3
          have l7 : valsP f ow = some acc := by rw [← l3]; simp [valsP]
          rw [l7] at j5
          have j6 : ((fldsP kn (d.fs.drop (i + 1))).map fun q => if keepP f acc then VF.mk f.num acc :: q else q).map (done ++ ·) = fldsP kn d.fs := j5
          have hacc : acc.length ≤ 30000000 := by have : j * 5000 ≤ 4096 * 5000 := Nat.mul_le_mul_right _ (by omega); omega
          refine a_freeze 20 41 rfl rfl rfl rfl ?_
          have hvfl := vfsD_len done
          cases hkp : keepP f acc with
          | false =>
            rw [hkp] at j6
            have j7 : (fldsP kn (d.fs.drop (i + 1))).map (done ++ ·) = fldsP kn d.fs := by rw [← j6]; simp
            cases acc with
            | nil =>
              refine a_gf hT rfl rfl rfl rfl ?_
              refine a_f hT rfl rfl rfl ?_
              exact a_next hT (i + 1, done, vf) [22, 40, 23] rfl rfl ⟨⟨by show i + 1 ≤ d.fs.length; omega, j7, by show done.length ≤ i + 1; omega⟩, by show d.fs.length - (i + 1) < d.fs.length - i; omega⟩ ⟨rfl, rfl, rfl, rfl, rfl, rfl, by show Value.int .i64 _ = Value.int .i64 _; rw [hw], trivial⟩ rfl ⟨⟨rfl, rfl, ⟨rfl, rfl, rfl, trivial⟩⟩, ⟨rfl, rfl, rfl, rfl⟩, ⟨rfl, rfl⟩, trivial⟩
            | cons a0 acc =>
              have hZr := Zero_spec (v := a0)
              refine a_g hT rfl rfl rfl (fun h => ?_) (fun h => ?_)
              · have h := of_decide_eq_true h
                refine a_g hT rfl rfl rfl (fun h1 => ?_) (fun h1 => ?_)
                · refine a_gt hT rfl rfl rfl rfl ?_
                  refine a_t hT rfl rfl rfl ?_
                  refine a_build hT hZ [.v (kI (FDP.num f)) 0, .d (A.Dat.sl 1 (vlsD (Prod.fst (Prod.snd (j, a0 :: acc, v20)))))] rfl rfl rfl rfl rfl rfl ?_
                  refine a_lit hT 41 rfl rfl rfl rfl (by kernel_rfl) rfl rfl rfl rfl fun x41 => ?_
                  refine a_app hT 40 _ rfl rfl rfl rfl (by kernel_rfl) rfl rfl rfl rfl rfl rfl (by first | (simp; done) | (simp; omega) | (simp; unfold lim; omega) | (simp; assumption)) fun v => ?_
                  exfalso; unfold keepP at hkp; simp_all
                · refine a_g hT rfl rfl rfl (fun h2 => ?_) (fun h2 => ?_)
                  · have h2 := eq_of_beq h2
                    (exfalso; first | omega | contradiction)
                  · have h2 := ne_of_beq_false h2
                    refine a_ix hT _ rfl rfl rfl rfl rfl rfl (by first | omega | assumption) (by first | assumption | rfl) ?_
                    refine a_call hT rfl rfl rfl (by kernel_rfl) hZr [] [] rfl rfl ?_
                    rintro _ _ ⟨rfl, rfl⟩
                    refine a_if hT rfl rfl (fun h3 => ?_) (fun h3 => ?_)
                    · simp at h3
                      refine a_build hT hZ [.v (kI (FDP.num f)) 0, .d (A.Dat.sl 1 (vlsD (Prod.fst (Prod.snd (j, a0 :: acc, v20)))))] rfl rfl rfl rfl rfl rfl ?_
                      refine a_lit hT 41 rfl rfl rfl rfl (by kernel_rfl) rfl rfl rfl rfl fun x41 => ?_
                      refine a_app hT 40 _ rfl rfl rfl rfl (by kernel_rfl) rfl rfl rfl rfl rfl rfl (by first | (simp; done) | (simp; omega) | (simp; unfold lim; omega) | (simp; assumption)) fun v => ?_
                      exfalso; unfold keepP at hkp; simp_all
                    · simp at h3
                      exact a_next hT (i + 1, done, vf) [22, 40, 23] rfl rfl ⟨⟨by show i + 1 ≤ d.fs.length; omega, j7, by show done.length ≤ i + 1; omega⟩, by show d.fs.length - (i + 1) < d.fs.length - i; omega⟩ ⟨rfl, rfl, rfl, rfl, rfl, rfl, by show Value.int .i64 _ = Value.int .i64 _; rw [hw], trivial⟩ rfl ⟨⟨rfl, rfl, ⟨rfl, rfl, rfl, trivial⟩⟩, ⟨rfl, rfl, rfl, rfl⟩, ⟨rfl, rfl⟩, trivial⟩
              · have h := of_decide_eq_false h
                refine a_f hT rfl rfl rfl ?_
                exact absurd (show ((vlsD (a0 :: acc)).length : Int) > 0 by rw [vlsD_len]; simp only [List.length_cons]; omega) h
          | true =>
            rw [hkp] at j6
            have j7 : (fldsP kn (d.fs.drop (i + 1))).map ((done ++ [VF.mk f.num acc]) ++ ·) = fldsP kn d.fs := by rw [← j6, Option.map_map]; congr 1; funext q; simp
            cases acc with
            | nil => cases hkp
            | cons a0 acc =>
              have hZr := Zero_spec (v := a0)
              refine a_g hT rfl rfl rfl (fun h => ?_) (fun h => ?_)
              · have h := of_decide_eq_true h
                refine a_g hT rfl rfl rfl (fun h1 => ?_) (fun h1 => ?_)
                · refine a_gt hT rfl rfl rfl rfl ?_
                  refine a_t hT rfl rfl rfl ?_
                  refine a_build hT hZ [.v (kI (FDP.num f)) 0, .d (A.Dat.sl 1 (vlsD (Prod.fst (Prod.snd (j, a0 :: acc, v20)))))] rfl rfl rfl rfl rfl rfl ?_
                  refine a_lit hT 41 rfl rfl rfl rfl (by kernel_rfl) rfl rfl rfl rfl fun x41 => ?_
                  refine a_app hT 40 _ rfl rfl rfl rfl (by kernel_rfl) rfl rfl rfl rfl rfl rfl (by first | (simp; done) | (simp; omega) | (simp; unfold lim; omega) | (simp; assumption)) fun v => ?_
                  exact a_next hT (i + 1, done ++ [VF.mk f.num (a0 :: acc)], v) [22, 40, 23] rfl rfl ⟨⟨by show i + 1 ≤ d.fs.length; omega, j7, by show (done ++ [_]).length ≤ i + 1; rw [List.length_append]; simp only [List.length_cons, List.length_nil]; omega⟩, by show d.fs.length - (i + 1) < d.fs.length - i; omega⟩ ⟨rfl, rfl, rfl, rfl, rfl, rfl, by show Value.int .i64 _ = Value.int .i64 _; rw [hw], trivial⟩ rfl ⟨⟨rfl, rfl, ⟨rfl, rfl, rfl, trivial⟩⟩, ⟨rfl, rfl, rfl, (vfsD_app done [VF.mk f.num (a0 :: acc)]).symm⟩, ⟨rfl, rfl⟩, trivial⟩
                · refine a_g hT rfl rfl rfl (fun h2 => ?_) (fun h2 => ?_)
                  · have h2 := eq_of_beq h2
                    (exfalso; first | omega | contradiction)
                  · have h2 := ne_of_beq_false h2
                    refine a_ix hT _ rfl rfl rfl rfl rfl rfl (by first | omega | assumption) (by first | assumption | rfl) ?_
                    refine a_call hT rfl rfl rfl (by kernel_rfl) hZr [] [] rfl rfl ?_
                    rintro _ _ ⟨rfl, rfl⟩
                    refine a_if hT rfl rfl (fun h3 => ?_) (fun h3 => ?_)
                    · simp at h3
                      refine a_build hT hZ [.v (kI (FDP.num f)) 0, .d (A.Dat.sl 1 (vlsD (Prod.fst (Prod.snd (j, a0 :: acc, v20)))))] rfl rfl rfl rfl rfl rfl ?_
                      refine a_lit hT 41 rfl rfl rfl rfl (by kernel_rfl) rfl rfl rfl rfl fun x41 => ?_
                      refine a_app hT 40 _ rfl rfl rfl rfl (by kernel_rfl) rfl rfl rfl rfl rfl rfl (by first | (simp; done) | (simp; omega) | (simp; unfold lim; omega) | (simp; assumption)) fun v => ?_
                      exact a_next hT (i + 1, done ++ [VF.mk f.num (a0 :: acc)], v) [22, 40, 23] rfl rfl ⟨⟨by show i + 1 ≤ d.fs.length; omega, j7, by show (done ++ [_]).length ≤ i + 1; rw [List.length_append]; simp only [List.length_cons, List.length_nil]; omega⟩, by show d.fs.length - (i + 1) < d.fs.length - i; omega⟩ ⟨rfl, rfl, rfl, rfl, rfl, rfl, by show Value.int .i64 _ = Value.int .i64 _; rw [hw], trivial⟩ rfl ⟨⟨rfl, rfl, ⟨rfl, rfl, rfl, trivial⟩⟩, ⟨rfl, rfl, rfl, (vfsD_app done [VF.mk f.num (a0 :: acc)]).symm⟩, ⟨rfl, rfl⟩, trivial⟩
                    · simp at h3
                      exfalso; unfold keepP at hkp; simp_all
              · have h := of_decide_eq_false h
                refine a_f hT rfl rfl rfl ?_
                exact absurd (show ((vlsD (a0 :: acc)).length : Int) > 0 by rw [vlsD_len]; simp only [List.length_cons]; omega) h
      · refine a_f hT rfl rfl (decide_eq_false (by show ¬ (i : Int) < (d.fs.length : Int); omega)) ?_
        rw [List.drop_eq_nil_of_le hil] at j3
        have hM : M = some (.msg t done (mkS (unkP d ws))) := by rw [hm, ← j3]; simp [fldsP]
        subst hM
        refine a_freezeB 22 1 40 rfl rfl rfl rfl rfl ?_
        refine a_ret hT [] rfl rfl rfl rfl rfl rfl ?_
        exact ⟨_, Le.tup (.cons (le_ifcA rfl) (.cons (Le.refl _) .nil)), rfl, rfl⟩
end Go.Proofs.YtjcolfogmmjaoaaDoor
end

section
/- Layers 1, 2: the document's Varint and Bytes; layer 11: Decode. -/
set_option linter.unusedVariables false
set_option linter.unusedSimpArgs false
set_option maxRecDepth 100000
set_option maxHeartbeats 1000000
namespace Go.Proofs.YtjcolfogmmjaoaaDoor
open V A
theorem A.FSpec.nilrow {P : Program} {g : FuncId} {e k hh kn : Nat} {args : List AV} {cs : List Chunk} {R : AV → List Chunk → Prop} (h : FSpec P g (.row (.slice none 0 0) kn :: args) (.row (.slice none 0 0) e k [] :: cs) R) : FSpec P g (.v (.slice none 0 0) hh :: args) cs R :=
  ⟨fun X S w xs h1 h2 h3 h4 => h.out X S w xs h1 h2 ⟨no, S, fun b => ⟨.inr, fun h => h.elim (fun h => h.elim) id⟩, fun _ h => h.elim, row_nil e k, h3⟩ (by
    unfold Reps at h4 ⊢
    obtain ⟨x, r, rfl, h5, h6⟩ := h4
    exact ⟨x, r, rfl, le_nilrow _ _ _ h5, h6⟩)⟩
def vb (n : Nat) : List UInt8 := if 127 < n then UInt8.ofNat (n % 128 + 128) :: vb (n / 128) else [UInt8.ofNat n]
termination_by n
decreasing_by omega
theorem vb_len : ∀ (k n : Nat), n < 2 ^ (7 * k + 7) → (vb n).length ≤ k + 1 := by
  intro k
  induction k with
  | zero =>
    intro n h
    unfold vb
    rw [if_neg (by have : (2 : Nat) ^ (7 * 0 + 7) = 128 := rfl; omega)]
    simp
  | succ k ih =>
    intro n h
    unfold vb
    split
    · have := ih (n / 128) (by rw [Nat.div_lt_iff_lt_mul (by decide)]; rw [show 7 * (k + 1) + 7 = (7 * k + 7) + 7 by omega, Nat.pow_add] at h; exact h)
      simp only [List.length_cons]
      omega
    · simp
theorem vb_len10 {n : Nat} (h : n < 18446744073709551616) : (vb n).length ≤ 10 := vb_len 9 n (Nat.lt_of_lt_of_le h (by decide))
theorem byte_or {n : Nat} : IntKind.u8.wrap ↑(BitVec.toNat (BitVec.ofInt (IntKind.bits .u8) (IntKind.u8.wrap (n : Int)) ||| BitVec.ofInt (IntKind.bits .u8) 128)) = (((UInt8.ofNat (n % 128 + 128)).toNat : Nat) : Int) := by
  have h1 : IntKind.u8.wrap (n : Int) = ((n % 256 : Nat) : Int) := by
    unfold IntKind.wrap
    simp [IntKind.bits, IntKind.signed]
  rw [h1]
  have h2 : ∀ x : Fin 256, IntKind.u8.wrap ↑(BitVec.toNat (BitVec.ofInt 8 ((x.val : Nat) : Int) ||| BitVec.ofInt 8 128)) = ((x.val % 128 + 128 : Nat) : Int) := by decide +kernel
  have := h2 ⟨n % 256, by omega⟩
  show IntKind.u8.wrap ↑(BitVec.toNat (BitVec.ofInt 8 ((n % 256 : Nat) : Int) ||| BitVec.ofInt 8 128)) = _
  rw [this]
  have : (UInt8.ofNat (n % 128 + 128)).toNat = n % 128 + 128 := by simp [UInt8.toNat_ofNat']; omega
  rw [this]
  have : n % 256 % 128 = n % 128 := by omega
  rw [this]
theorem byte_lo {n : Nat} (h : ¬ 127 < n) : IntKind.u8.wrap (n : Int) = (((UInt8.ofNat n).toNat : Nat) : Int) := by
  rw [wrapN8 (by omega)]
  have : (UInt8.ofNat n).toNat = n := by simp [UInt8.toNat_ofNat']; omega
  rw [this]
theorem shr7 (n : Nat) : Int.fdiv (n : Int) (2 ^ min (Int.toNat 7) (IntKind.bits .u64)) = ((n / 128 : Nat) : Int) := by
  show Int.fdiv (n : Int) 128 = _
  rw [Int.fdiv_eq_ediv_of_nonneg _ (by decide)]
  omega
theorem RVarint_spec {l : List UInt8} {x : Value} {n : Nat} (hn : n < 18446744073709551616) (hl : l.length ≤ 1000000000) : FSpec Tryd.prog 16 [.row x 1, .v (kU n) 0] [.row x 5 1 (l.map eB)] fun a cs => ∃ v, a = .row v 1 ∧ cs = [.row v 5 1 ((l ++ vb n).map eB)] := by
  have hlim : lim = 4294967296 := rfl
  refine a_enter hT [.row x 1, .v (kU n) 0] [1] Tryd.func16 rfl rfl rfl ⟨rfl, rfl, trivial⟩ fun c' => ?_
  refine a_loop hT [0, 1] (fun y : List UInt8 × Nat × Value => [.row y.2.2 1, .v (kU y.2.1) 0]) (fun y => [(1, .row y.2.2 5 1 (y.1.map eB))]) (fun y => y.1 ++ vb y.2.1 = l ++ vb n ∧ y.2.1 < 18446744073709551616) (fun y => y.2.1) (l, n, x) [1] rfl rfl ⟨rfl, hn⟩ ⟨rfl, rfl, trivial⟩ rfl ⟨⟨rfl, rfl, rfl, rfl⟩, trivial⟩ ?_
  rintro ⟨acc, m, v⟩ ⟨i1, i2⟩
  dsimp only at i1 i2
  have hal : acc.length ≤ l.length + 10 := by
    have h1 := congrArg List.length i1
    have h2 := vb_len10 hn
    rw [List.length_append, List.length_append] at h1
    omega
  have hvm : vb m = vb m := rfl
  conv at hvm => rhs; unfold vb
  by_cases hm : 127 < m
  · rw [if_pos hm] at hvm
    refine a_t hT rfl rfl (decide_eq_true (by show (m : Int) > 127; omega)) ?_
    refine a_bin hT _ rfl rfl rfl (by decide) rfl rfl (fun w => (bin_or w)) ?_
    refine a_lit hT 20 rfl rfl rfl rfl (by kernel_rfl) rfl rfl rfl rfl fun x20 => ?_
    refine a_app hT 1 _ rfl rfl rfl rfl (by kernel_rfl) rfl rfl rfl rfl rfl rfl (by first | (simp; done) | (simp; omega) | (simp; unfold lim; omega) | (simp; assumption)) fun v1 => ?_
    refine a_bin hT _ rfl rfl rfl (by decide) rfl rfl (fun w => (bin_shr (by omega) w)) ?_
    exact a_next hT (acc ++ [UInt8.ofNat (m % 128 + 128)], m / 128, v1) [1] rfl rfl ⟨⟨by rw [← i1, hvm]; simp, by show m / 128 < _; omega⟩, by show m / 128 < m; omega⟩ ⟨rfl, congrArg (Value.int .u64) (shr7 m), trivial⟩ rfl ⟨⟨rfl, rfl, rfl, by show _ = (acc ++ [_]).map eB; rw [List.map_append]; show _ ++ [[A.Dat.v (.int .u8 _)]] = _ ++ [[A.Dat.v (.int .u8 _)]]; rw [byte_or]⟩, trivial⟩
  · rw [if_neg hm] at hvm
    refine a_f hT rfl rfl (decide_eq_false (by show ¬ (m : Int) > 127; omega)) ?_
    refine a_lit hT 20 rfl rfl rfl rfl (by kernel_rfl) rfl rfl rfl rfl fun x20 => ?_
    refine a_app hT 1 _ rfl rfl rfl rfl (by kernel_rfl) rfl rfl rfl rfl rfl rfl (by first | (simp; done) | (simp; omega) | (simp; unfold lim; omega) | (simp; assumption)) fun v1 => ?_
    refine a_ret hT [1] rfl rfl rfl rfl rfl rfl ?_
    exact ⟨_, rfl, by rw [← i1, hvm, List.map_append]; show [Chunk.row _ _ _ (_ ++ [[A.Dat.v (.int .u8 _)]])] = [Chunk.row _ _ _ (_ ++ [[A.Dat.v (.int .u8 _)]])]; rw [byte_lo hm]⟩
theorem RVarint0_spec {hh n : Nat} (hn : n < 18446744073709551616) : FSpec Tryd.prog 16 [.v (.slice none 0 0) hh, .v (kU n) 0] [] fun a cs => ∃ v, a = .row v 1 ∧ cs = [.row v 5 1 ((vb n).map eB)] :=
  (RVarint_spec (l := []) (x := .slice none 0 0) hn (by simp)).nilrow
/-- A number's field, a field of bytes. -/
def rfA (num typ n : Nat) (data : List UInt8) : AV := .agg [.v (kI num) 0, .v (kI typ) 0, .v (kU n) 0, .d (A.bytesD data)]
theorem RBytes0_spec {num n : Nat} {data : List UInt8} (hnum : num ≤ 536870911) (hn : n < 18446744073709551616) : FSpec Tryd.prog 17 [rfA num 0 n data] [] fun a cs => a = .d (A.bytesD (vb (8 * num) ++ vb n)) ∧ cs = [] := by
  have key : FSpec Tryd.prog 17 [rfA num 0 n data] [] fun a cs => ∃ v, a = .row v 1 ∧ cs = [.row v 5 1 ((vb (8 * num) ++ vb n).map eB)] := by
    have hw : IntKind.u64.wrap (IntKind.i64.wrap (IntKind.i64.wrap (8 * (num : Int)) + 0)) = ((8 * num : Nat) : Int) := by rw [w64 (x := 8 * (num : Int)) (by omega) (by omega), w64 (by omega) (by omega), wrapU (by omega) (by omega)]; omega
    have hV := RVarint0_spec (hh := 0) (n := 8 * num) (by omega)
    have hV : FSpec Tryd.prog 16 [.v (.slice none 0 0) 0, .v (.int .u64 (IntKind.u64.wrap (IntKind.i64.wrap (IntKind.i64.wrap (8 * (num : Int)) + 0)))) 0] [] fun a cs => ∃ v, a = .row v 1 ∧ cs = [.row v 5 1 ((vb (8 * num)).map eB)] := by rw [hw]; exact hV
    refine a_enter hT [rfA num 0 n data] [] Tryd.func17 rfl rfl rfl ⟨Fit.refl _, trivial⟩ fun c' => ?_
    refine a_box hT 20 rfl rfl rfl rfl fun g => ?_
    refine a_call hT rfl rfl rfl (by kernel_rfl) hV [] [1] rfl rfl ?_
    rintro _ _ ⟨v, rfl, rfl⟩
    have hV2 := RVarint_spec (l := vb (8 * num)) (x := v) (n := n) hn (by have := vb_len10 (n := 8 * num) (by omega); omega)
    refine a_t hT rfl rfl rfl ?_
    refine a_call hT rfl rfl rfl (by kernel_rfl) hV2 [1] [1] rfl rfl ?_
    rintro _ _ ⟨v1, rfl, rfl⟩
    refine a_ret hT [1] rfl rfl rfl rfl rfl rfl ?_
    exact ⟨_, rfl, rfl⟩
  exact key.freeze
theorem RBytes2_spec {num : Nat} {data : List UInt8} (hnum : num ≤ 536870911) (hd : data.length ≤ 100000000) : FSpec Tryd.prog 17 [rfA num 2 0 data] [] fun a cs => ∃ v, a = .row v 1 ∧ cs = [.row v 5 1 ((vb (8 * num + 2) ++ vb data.length ++ data).map eB)] := by
  have hlim : lim = 4294967296 := rfl
  have hw : IntKind.u64.wrap (IntKind.i64.wrap (IntKind.i64.wrap (8 * (num : Int)) + 2)) = ((8 * num + 2 : Nat) : Int) := by rw [w64 (x := 8 * (num : Int)) (by omega) (by omega), w64 (by omega) (by omega), wrapU (by omega) (by omega)]; omega
  have hV := RVarint0_spec (hh := 0) (n := 8 * num + 2) (by omega)
  have hV : FSpec Tryd.prog 16 [.v (.slice none 0 0) 0, .v (.int .u64 (IntKind.u64.wrap (IntKind.i64.wrap (IntKind.i64.wrap (8 * (num : Int)) + 2)))) 0] [] fun a cs => ∃ v, a = .row v 1 ∧ cs = [.row v 5 1 ((vb (8 * num + 2)).map eB)] := by rw [hw]; exact hV
  refine a_enter hT [rfA num 2 0 data] [] Tryd.func17 rfl rfl rfl ⟨Fit.refl _, trivial⟩ fun c' => ?_
  refine a_box hT 20 rfl rfl rfl rfl fun g => ?_
  refine a_call hT rfl rfl rfl (by kernel_rfl) hV [] [1] rfl rfl ?_
  rintro _ _ ⟨v, rfl, rfl⟩
  have hl1 := vb_len10 (n := 8 * num + 2) (by omega)
  have hl2 := vb_len10 (n := data.length) (by omega)
  have hdl := bytesD_len data
  have hV2 := RVarint_spec (l := vb (8 * num + 2)) (x := v) (n := data.length) (by omega) (by omega)
  have hw2 : IntKind.u64.wrap ((data.map eB).length : Int) = ((data.length : Nat) : Int) := by rw [hdl]; exact wrapU (by omega) (by omega)
  have hV2 : FSpec Tryd.prog 16 [.row v 1, .v (.int .u64 (IntKind.u64.wrap ((data.map eB).length : Int))) 0] [.row v 5 1 ((vb (8 * num + 2)).map eB)] fun a cs => ∃ v, a = .row v 1 ∧ cs = [.row v 5 1 ((vb (8 * num + 2) ++ vb data.length).map eB)] := by rw [hw2]; exact hV2
  refine a_f hT rfl rfl rfl ?_
  refine a_f hT rfl rfl rfl ?_
  refine a_f hT rfl rfl rfl ?_
  refine a_draw hT [1] false [(0, false), (1, false), (2, false), (3, false), (4, false), (6, false), (7, false), (5, true), (8, true), (9, true)] rfl rfl (by kernel_rfl) (by kernel_rfl) rfl ?_
  refine a_call hT rfl rfl rfl (by kernel_rfl) hV2 [1] [1] rfl rfl ?_
  rintro _ _ ⟨v1, rfl, rfl⟩
  refine a_app hT 1 _ rfl rfl rfl rfl (by kernel_rfl) rfl rfl rfl rfl rfl rfl (by first | (simp; done) | (simp; omega) | (simp; unfold lim; omega) | (simp; assumption)) fun v2 => ?_
  refine a_ret hT [1] rfl rfl rfl rfl rfl rfl ?_
  exact ⟨_, rfl, by rw [← List.map_append]⟩
theorem Decode_spec {ms : List MDP} {d : MDP} {t : Nat} {bs : List UInt8} (hp : Plain0 ⟨ms, [], []⟩) (hf : formedS ms = true) (hs : ms[t]? = some d) (hd : FlatM d) (hl : bs.length ≤ 4096) : FSpec Tryd.prog 18 [schA ⟨ms, [], []⟩, .v (kI t) 0, .d (A.bytesD bs)] [] fun a cs => a = decA (msgP d t bs) ∧ cs = [] := by
  have hF := Formed0_spec hp
  rw [hf] at hF
  have hM := dmsg_spec (s := ⟨ms, [], []⟩) (dep := 1) (bs := bs) hs hd (by decide) hl
  have hlen := bytesD_len bs
  have hml : (ms.map eM).length = ms.length := List.length_map _
  have htl := (List.getElem?_eq_some_iff.1 hs).1
  refine a_enter hT [schA ⟨ms, [], []⟩, .v (kI t) 0, .d (A.bytesD bs)] [] Tryd.func18 rfl rfl rfl ⟨Fit.refl _, rfl, Fit.refl _, trivial⟩ fun c' => ?_
  generalize msgP d t bs = M at hM ⊢
  cases M with
  | none =>
    refine a_box hT 20 rfl rfl rfl rfl fun g => ?_
    refine a_call hT rfl rfl rfl (by kernel_rfl) hF [] [] rfl rfl ?_
    rintro _ _ ⟨rfl, rfl⟩
    refine a_gf hT rfl rfl rfl rfl ?_
    refine a_gf hT rfl rfl rfl rfl ?_
    refine a_if hT rfl rfl (fun h => ?_) (fun h => ?_)
    · have h := of_decide_eq_true h
      refine a_ret hT [] rfl rfl rfl rfl rfl rfl ?_
      exact absurd (show (t : Int) ≥ ((ms.map eM).length : Int) from h) (by rw [hml]; omega)
    · have h := of_decide_eq_false h
      refine a_if hT rfl rfl (fun h1 => ?_) (fun h1 => ?_)
      · have h1 := of_decide_eq_true h1
        (exfalso; first | omega | contradiction)
      · have h1 := of_decide_eq_false h1
        refine a_call hT rfl rfl rfl (by kernel_rfl) hM [] [] rfl rfl ?_
        rintro _ _ ⟨rfl, rfl⟩
        refine a_ret hT [] rfl rfl rfl rfl rfl rfl ?_
        first | exact ⟨rfl, rfl⟩ | rfl
  | some m =>
    refine a_box hT 20 rfl rfl rfl rfl fun g => ?_
    refine a_call hT rfl rfl rfl (by kernel_rfl) hF [] [] rfl rfl ?_
    rintro _ _ ⟨rfl, rfl⟩
    refine a_gf hT rfl rfl rfl rfl ?_
    refine a_gf hT rfl rfl rfl rfl ?_
    refine a_if hT rfl rfl (fun h => ?_) (fun h => ?_)
    · have h := of_decide_eq_true h
      refine a_ret hT [] rfl rfl rfl rfl rfl rfl ?_
      exact absurd (show (t : Int) ≥ ((ms.map eM).length : Int) from h) (by rw [hml]; omega)
    · have h := of_decide_eq_false h
      refine a_if hT rfl rfl (fun h1 => ?_) (fun h1 => ?_)
      · have h1 := of_decide_eq_true h1
        (exfalso; first | omega | contradiction)
      · have h1 := of_decide_eq_false h1
        refine a_call hT rfl rfl rfl (by kernel_rfl) hM [] [] rfl rfl ?_
        rintro _ _ ⟨rfl, rfl⟩
        refine a_ret hT [] rfl rfl rfl rfl rfl rfl ?_
        first | exact ⟨rfl, rfl⟩ | rfl
end Go.Proofs.YtjcolfogmmjaoaaDoor
end

section
/- Layer 9: a value is the same as itself (numbers, messages of numbers). -/
set_option linter.unusedVariables false
set_option linter.unusedSimpArgs false
set_option maxRecDepth 100000
set_option maxHeartbeats 1000000
namespace Go.Proofs.YtjcolfogmmjaoaaDoor
open V A
inductive NN : VL → Prop
  | int (n : Int) : NN (.int n)
  | uint (n : Int) : NN (.uint n)
  | bool (b : Bool) : NN (.bool b)
  | enum (n : Int) : NN (.enum n)
  | msg {t : Int} {fs : List VF} {s : ByteArray} : fs.length ≤ 100000 → (∀ num vs, VF.mk num vs ∈ fs → vs.length ≤ 100000000) → (∀ num vs x, VF.mk num vs ∈ fs → x ∈ vs → NN x) → NN (.msg t fs s)
theorem VEqual_spec {l : List VL} {f : FuncId} {cap : List AV} (hl : l.length < 4611686018427387904) (hb : callOk Tryd.prog f = true) (hf : ∀ x ∈ l, FSpec Tryd.prog f (nd (vlD x) :: nd (vlD x) :: cap) [] fun a cs => a = bA true ∧ cs = []) :
    FSpec Tryd.prog 27 [.d (.sl 1 (vlsD l)), .d (.sl 1 (vlsD l)), .fn f cap] [] fun a cs => a = bA true ∧ cs = [] := by
  have hlen : (vlsD l).length = l.length := by rw [vlsD_map, List.length_map]
  refine a_enter hT [.d (.sl 1 (vlsD l)), .d (.sl 1 (vlsD l)), .fn f cap] [] Tryd.func27 rfl rfl rfl ⟨rfl, rfl, Fit.refl _, trivial⟩ fun c' => ?_
  refine a_f hT rfl rfl (by show ((((vlsD l).length : Int)) != ((vlsD l).length : Int)) = false; simp) ?_
  refine a_loop hT [1, 2, 15, 16, 17] (fun i : Nat => [.d (.sl 1 (vlsD l)), .fn f cap, .d (.sl 1 (vlsD l)), .v (kI l.length) 0, .v (kI i) 0]) (fun _ => []) (fun i => i ≤ l.length) (fun i => l.length - i) 0 [] rfl rfl (Nat.zero_le _) ⟨rfl, Fit.refl _, rfl, by rw [← hlen]; rfl, rfl, trivial⟩ rfl trivial ?_
  intro i i2
  have hw := wN i (by omega)
  rcases Nat.lt_or_ge i l.length with hil | hil
  · have hat : (vlsD l)[(i : Int).toNat]? = some [vlD l[i]] := by rw [vlsD_map]; simp [hil]
    have hfx := hf l[i] (List.getElem_mem hil)
    generalize l[i] = x at hat hfx
    refine a_t hT rfl rfl (decide_eq_true (by show (i : Int) < (l.length : Int); omega)) ?_
    refine a_ix hT _ rfl rfl rfl rfl rfl rfl (by first | omega | assumption) (by first | assumption | rfl) ?_
    refine a_ix hT _ rfl rfl rfl rfl rfl rfl (by first | omega | assumption) (by first | assumption | rfl) ?_
    refine a_callv hT rfl rfl rfl rfl hb hfx [] [] rfl rfl ?_
    rintro _ _ ⟨rfl, rfl⟩
    refine a_f hT rfl rfl rfl ?_
    exact a_next hT (i + 1) [] rfl rfl ⟨by show i + 1 ≤ l.length; omega, by show l.length - (i + 1) < l.length - i; omega⟩ ⟨rfl, Fit.refl _, rfl, rfl, by show Value.int .i64 _ = Value.int .i64 _; rw [hw], trivial⟩ rfl trivial
  · refine a_f hT rfl rfl (decide_eq_false (by show ¬ (i : Int) < (l.length : Int); omega)) ?_
    refine a_ret hT [] rfl rfl rfl rfl rfl rfl ?_
    exact ⟨rfl, rfl⟩
theorem FEqual_spec {l : List VF} {f : FuncId} {cap : List AV} (hl : l.length < 4611686018427387904) (hb : callOk Tryd.prog f = true) (hf : ∀ x ∈ l, FSpec Tryd.prog f (.agg ((vfD x).map nd) :: .agg ((vfD x).map nd) :: cap) [] fun a cs => a = bA true ∧ cs = []) :
    FSpec Tryd.prog 25 [.d (.sl 2 (vfsD l)), .d (.sl 2 (vfsD l)), .fn f cap] [] fun a cs => a = bA true ∧ cs = [] := by
  have hlen : (vfsD l).length = l.length := by rw [vfsD_map, List.length_map]
  refine a_enter hT [.d (.sl 2 (vfsD l)), .d (.sl 2 (vfsD l)), .fn f cap] [] Tryd.func25 rfl rfl rfl ⟨rfl, rfl, Fit.refl _, trivial⟩ fun c' => ?_
  refine a_f hT rfl rfl (by show ((((vfsD l).length : Int)) != ((vfsD l).length : Int)) = false; simp) ?_
  refine a_loop hT [1, 2, 15, 16, 17] (fun i : Nat => [.d (.sl 2 (vfsD l)), .fn f cap, .d (.sl 2 (vfsD l)), .v (kI l.length) 0, .v (kI i) 0]) (fun _ => []) (fun i => i ≤ l.length) (fun i => l.length - i) 0 [] rfl rfl (Nat.zero_le _) ⟨rfl, Fit.refl _, rfl, by rw [← hlen]; rfl, rfl, trivial⟩ rfl trivial ?_
  intro i i2
  have hw := wN i (by omega)
  rcases Nat.lt_or_ge i l.length with hil | hil
  · have hat : (vfsD l)[(i : Int).toNat]? = some (vfD l[i]) := by rw [vfsD_map]; simp [hil]
    have hfx := hf l[i] (List.getElem_mem hil)
    generalize l[i] = x at hat hfx
    obtain ⟨num, vs⟩ := x
    refine a_t hT rfl rfl (decide_eq_true (by show (i : Int) < (l.length : Int); omega)) ?_
    refine a_ix hT _ rfl rfl rfl rfl rfl rfl (by first | omega | assumption) (by first | assumption | rfl) ?_
    refine a_new hT hZ 20 rfl rfl rfl rfl fun g => ?_
    refine a_ix hT _ rfl rfl rfl rfl rfl rfl (by first | omega | assumption) (by first | assumption | rfl) ?_
    refine a_new hT hZ 21 rfl rfl rfl rfl fun g1 => ?_
    refine a_callv hT rfl rfl rfl rfl hb hfx [] [] rfl rfl ?_
    rintro _ _ ⟨rfl, rfl⟩
    refine a_f hT rfl rfl rfl ?_
    exact a_next hT (i + 1) [] rfl rfl ⟨by show i + 1 ≤ l.length; omega, by show l.length - (i + 1) < l.length - i; omega⟩ ⟨rfl, Fit.refl _, rfl, rfl, by show Value.int .i64 _ = Value.int .i64 _; rw [hw], trivial⟩ rfl trivial
  · refine a_f hT rfl rfl (decide_eq_false (by show ¬ (i : Int) < (l.length : Int); omega)) ?_
    refine a_ret hT [] rfl rfl rfl rfl rfl rfl ?_
    exact ⟨rfl, rfl⟩
theorem Same1_spec {num : Int} {vs : List VL} (hl : vs.length < 4611686018427387904) (hf : ∀ x ∈ vs, FSpec Tryd.prog 14 [nd (vlD x), nd (vlD x)] [] fun a cs => a = bA true ∧ cs = []) :
    FSpec Tryd.prog 26 [.agg ((vfD (.mk num vs)).map nd), .agg ((vfD (.mk num vs)).map nd)] [] fun a cs => a = bA true ∧ cs = [] := by
  have hE := VEqual_spec (l := vs) (f := 14) (cap := []) hl (by kernel_rfl) hf
  refine a_enter hT [.agg ((vfD (.mk num vs)).map nd), .agg ((vfD (.mk num vs)).map nd)] [] Tryd.func26 rfl rfl rfl ⟨Fit.refl _, Fit.refl _, trivial⟩ fun c' => ?_
  refine a_box hT 20 rfl rfl rfl rfl fun g => ?_
  refine a_box hT 21 rfl rfl rfl rfl fun g1 => ?_
  refine a_g hT rfl rfl rfl (fun h => ?_) (fun h => ?_)
  · have h := eq_of_beq h
    refine a_call hT rfl rfl rfl (by kernel_rfl) hE [] [] rfl rfl ?_
    rintro _ _ ⟨rfl, rfl⟩
    refine a_ret hT [] rfl rfl rfl rfl rfl rfl ?_
    first | exact ⟨rfl, rfl⟩ | rfl
  · have h := ne_of_beq_false h
    (exfalso; first | omega | contradiction)
theorem VSame_spec : ∀ {v : VL}, NN v → FSpec Tryd.prog 14 [nd (vlD v), nd (vlD v)] [] fun a cs => a = bA true ∧ cs = [] := by
  intro v hv
  induction hv with
  | @msg t fs s hl hvl hv ih =>
    have hE := FEqual_spec (l := fs) (f := 26) (cap := []) (by omega) (by kernel_rfl) (fun x hx => by
      obtain ⟨num, vs⟩ := x
      exact Same1_spec (by have := hvl num vs hx; omega) fun y hy => ih num vs y hx hy)
    refine a_enter hT [nd (vlD (.msg t fs s)), nd (vlD (.msg t fs s))] [] Tryd.func14 rfl rfl rfl ⟨Fit.refl _, Fit.refl _, trivial⟩ fun c' => ?_
    refine a_new hT hZ 20 rfl rfl rfl rfl fun g => ?_
    refine a_new hT hZ 21 rfl rfl rfl rfl fun g1 => ?_
    refine a_gf hT rfl rfl rfl rfl ?_
    refine a_f hT rfl rfl rfl ?_
    refine a_g hT rfl rfl rfl (fun h => ?_) (fun h => ?_)
    · have h := eq_of_beq h
      refine a_g hT rfl rfl rfl (fun h1 => ?_) (fun h1 => ?_)
      · have h1 := eq_of_beq h1
        refine a_call hT rfl rfl rfl (by kernel_rfl) hE [] [] rfl rfl ?_
        rintro _ _ ⟨rfl, rfl⟩
        refine a_ret hT [] rfl rfl rfl rfl rfl rfl ?_
        first | exact ⟨rfl, rfl⟩ | rfl
      · have h1 := ne_of_beq_false h1
        (exfalso; first | omega | contradiction)
    · have h := ne_of_beq_false h
      (exfalso; first | omega | contradiction)
  | int n =>
    refine a_enter hT [nd (vlD (.int n)), nd (vlD (.int n))] [] Tryd.func14 rfl rfl rfl ⟨Fit.refl _, Fit.refl _, trivial⟩ fun c' => ?_
    refine a_assertN hT (.agg #[.int .i64 0, .slice none 0 0, .string ByteArray.empty]) rfl rfl rfl rfl rfl (by kernel_rfl) rfl ?_
    refine a_new hT hZ 20 rfl rfl rfl rfl fun g => ?_
    refine a_assertN hT (.agg #[.int .i64 0, .slice none 0 0, .string ByteArray.empty]) rfl rfl rfl rfl rfl (by kernel_rfl) rfl ?_
    refine a_new hT hZ 21 rfl rfl rfl rfl fun g1 => ?_
    refine a_gt hT rfl rfl rfl rfl ?_
    refine a_t hT rfl rfl rfl ?_
    refine a_gt hT rfl rfl rfl rfl ?_
    refine a_ieq hT true rfl rfl rfl rfl rfl (by kernel_rfl) (by kernel_rfl) (by show some (n == n) = some true; simp) ?_
    refine a_ret hT [] rfl rfl rfl rfl rfl rfl ?_
    first | exact ⟨rfl, rfl⟩ | rfl
  | uint n =>
    refine a_enter hT [nd (vlD (.uint n)), nd (vlD (.uint n))] [] Tryd.func14 rfl rfl rfl ⟨Fit.refl _, Fit.refl _, trivial⟩ fun c' => ?_
    refine a_assertN hT (.agg #[.int .i64 0, .slice none 0 0, .string ByteArray.empty]) rfl rfl rfl rfl rfl (by kernel_rfl) rfl ?_
    refine a_new hT hZ 20 rfl rfl rfl rfl fun g => ?_
    refine a_assertN hT (.agg #[.int .i64 0, .slice none 0 0, .string ByteArray.empty]) rfl rfl rfl rfl rfl (by kernel_rfl) rfl ?_
    refine a_new hT hZ 21 rfl rfl rfl rfl fun g1 => ?_
    refine a_gt hT rfl rfl rfl rfl ?_
    refine a_t hT rfl rfl rfl ?_
    refine a_gt hT rfl rfl rfl rfl ?_
    refine a_ieq hT true rfl rfl rfl rfl rfl (by kernel_rfl) (by kernel_rfl) (by show some (n == n) = some true; simp) ?_
    refine a_ret hT [] rfl rfl rfl rfl rfl rfl ?_
    first | exact ⟨rfl, rfl⟩ | rfl
  | bool b =>
    refine a_enter hT [nd (vlD (.bool b)), nd (vlD (.bool b))] [] Tryd.func14 rfl rfl rfl ⟨Fit.refl _, Fit.refl _, trivial⟩ fun c' => ?_
    refine a_assertN hT (.agg #[.int .i64 0, .slice none 0 0, .string ByteArray.empty]) rfl rfl rfl rfl rfl (by kernel_rfl) rfl ?_
    refine a_new hT hZ 20 rfl rfl rfl rfl fun g => ?_
    refine a_assertN hT (.agg #[.int .i64 0, .slice none 0 0, .string ByteArray.empty]) rfl rfl rfl rfl rfl (by kernel_rfl) rfl ?_
    refine a_new hT hZ 21 rfl rfl rfl rfl fun g1 => ?_
    refine a_gt hT rfl rfl rfl rfl ?_
    refine a_t hT rfl rfl rfl ?_
    refine a_gt hT rfl rfl rfl rfl ?_
    refine a_ieq hT true rfl rfl rfl rfl rfl (by kernel_rfl) (by kernel_rfl) (by show some (b == b) = some true; simp) ?_
    refine a_ret hT [] rfl rfl rfl rfl rfl rfl ?_
    first | exact ⟨rfl, rfl⟩ | rfl
  | enum n =>
    refine a_enter hT [nd (vlD (.enum n)), nd (vlD (.enum n))] [] Tryd.func14 rfl rfl rfl ⟨Fit.refl _, Fit.refl _, trivial⟩ fun c' => ?_
    refine a_assertN hT (.agg #[.int .i64 0, .slice none 0 0, .string ByteArray.empty]) rfl rfl rfl rfl rfl (by kernel_rfl) rfl ?_
    refine a_new hT hZ 20 rfl rfl rfl rfl fun g => ?_
    refine a_assertN hT (.agg #[.int .i64 0, .slice none 0 0, .string ByteArray.empty]) rfl rfl rfl rfl rfl (by kernel_rfl) rfl ?_
    refine a_new hT hZ 21 rfl rfl rfl rfl fun g1 => ?_
    refine a_gt hT rfl rfl rfl rfl ?_
    refine a_t hT rfl rfl rfl ?_
    refine a_gt hT rfl rfl rfl rfl ?_
    refine a_ieq hT true rfl rfl rfl rfl rfl (by kernel_rfl) (by kernel_rfl) (by show some (n == n) = some true; simp) ?_
    refine a_ret hT [] rfl rfl rfl rfl rfl rfl ?_
    first | exact ⟨rfl, rfl⟩ | rfl
end Go.Proofs.YtjcolfogmmjaoaaDoor
end
