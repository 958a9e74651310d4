import Derived.Test.YtjcolfogmmjaoaaGreatDoorQDecodeUnknown11
import Derived.Test.YtjcolfogmmjaoaaGreatDoorQDecodeUnknown10
section
set_option linter.unusedVariables false
set_option linter.unusedSimpArgs false
set_option maxRecDepth 100000
set_option maxHeartbeats 2000000
namespace Go.Proofs.YtjcolfogmmjaoaaGreatDoor
open V A
theorem cloneVR {l : List VL} (hl : l.length ≤ lim) : FSpec Tryz.prog 54 [.d (.sl 1 (vlsD l))] [] fun a cs => ∃ x, a = .row x 1 ∧ cs = [.row x 31 1 (vlsD l)] := by
  refine a_enter hT [.d (.sl 1 (vlsD l))] [] Tryz.func54 rfl rfl rfl ⟨rfl, trivial⟩ fun c => ?_
  refine a_isnil hT rfl rfl rfl rfl rfl rfl fun b hb => ?_
  refine a_if hT rfl rfl (fun h => ?_) (fun h => ?_)
  · refine a_run hT 4 rfl rfl ?_
    refine a_nilrow 2 1 31 1 rfl rfl ?_
    refine a_ret hT [1] rfl rfl rfl rfl rfl rfl ⟨_, rfl, ?_⟩
    rw [hb h]
  · refine a_lit hT 1 rfl rfl rfl rfl elV rfl rfl rfl rfl fun x => ?_
    refine a_app hT 1 (vlsD l) rfl rfl rfl rfl elV rfl rfl rfl rfl rfl rfl (by rw [vlsD_map]; simpa using hl) fun x => ?_
    refine a_ret hT [1] rfl rfl rfl rfl rfl rfl ⟨x, rfl, rfl⟩
def msgD (ty : Int) (fs : List VF) (u : ByteArray) : List A.Dat := [.v (kI ty), .sl 2 (vfsD fs), .v (.string u)]
def msgA (ty : Int) (fs : List VF) (u : ByteArray) : AV := .agg ((msgD ty fs u).map nd)
def NormS (s : SchP) : VL → Prop
  | .msg ty fs u => ∀ dep : Int, 0 ≤ ty → fitsP s (.msg ty fs u) ty dep = true → FSpec Tryz.prog 42 [schA s, msgA ty fs u] [] fun a cs => a = msgA ty (normFs s (dAt s ty) fs) u ∧ cs = []
  | .none | .int _ | .uint _ | .bool _ | .text _ | .bytes _ | .enum _ => True
theorem normal_ind {s : SchP} (hs : SchOk s) : ∀ {v : VL}, WfV v → NormS s v := by
  intro v hv
  induction hv with
  | msg h1 h2 h3 h4 h5 ih =>
    rename_i ty fs unk
    intro dep ht0 hfit
    unfold fitsP at hfit
    rw [Bool.and_eq_true, Bool.and_eq_true] at hfit
    obtain ⟨_, hf⟩ := hfit
    cases hm : s.ms[ty.toNat]? with
    | none => rw [hm] at hf; cases hf
    | some d =>
    rw [hm] at hf
    dsimp only at hf
    rw [Bool.and_eq_true] at hf
    have hf := hf.2
    have hdm : d ∈ s.ms := List.mem_of_getElem? hm
    have hd : dAt s ty = d := by unfold dAt; rw [hm]; rfl
    have hfo := hs.fs d hdm
    rw [hd]
    have hat0 : (s.ms.map eM)[ty.toNat]? = some (eM d) := by rw [List.getElem?_map, hm]; rfl
    have hlen : (vfsD fs).length = fs.length := vfsD_len fs
    refine a_enter hT [schA s, msgA ty fs unk] [] Tryz.func42 rfl rfl rfl ⟨Fit.refl _, Fit.refl _, trivial⟩ fun c' => ?_
    refine a_box hT 20 rfl rfl rfl rfl fun g => ?_
    refine a_box hT 21 rfl rfl rfl rfl fun g1 => ?_
    refine a_new hT hZ 22 rfl rfl rfl rfl fun g2 => ?_
    refine a_freezeK 2 20 rfl rfl rfl rfl rfl ?_
    refine a_freezeK 3 21 rfl rfl rfl rfl rfl ?_
    refine a_build hT hZ [.v (kI ty) 0, .v (Value.slice none 0 0) 0, .v (Value.string unk) 0] rfl rfl rfl rfl rfl rfl ?_
    refine a_new hT hZ 23 rfl rfl rfl rfl fun g3 => ?_
    refine a_run hT 1 rfl rfl ?_
    refine a_nilrowB 23 1 40 99 2 rfl rfl rfl ?_
    refine a_loop hT [2, 3, 4, 5, 23, 24, 25] (fun x : Nat × Value => [.d (.p (schD s)), .d (.p (msgD ty fs unk)), .v (.pointer (some ⟨g2, 0, none⟩)) 22, .v (.pointer (some ⟨g3, 0, none⟩)) 23, .d (.sl 2 (vfsD fs)), .v (kI fs.length) 0, .v (kI x.1) 0]) (fun x => [(22, .blk g2 97 [.v (.int .i64 0) 0, .v (.slice none 0 0) 0, .v (.string .empty) 0]), (23, .blk g3 97 [.v (kI ty) 0, .row x.2 40, .v (.string unk) 0]), (40, .row x.2 99 2 (vfsD (normFs s d (fs.take x.1))))]) (fun x => x.1 ≤ fs.length) (fun x => fs.length - x.1) (0, .slice none 0 0) [22, 23, 40] rfl rfl (Nat.zero_le _) ⟨rfl, rfl, rfl, rfl, rfl, by rw [← hlen]; rfl, rfl, trivial⟩ rfl ⟨⟨rfl, rfl, rfl, rfl, rfl, trivial⟩, ⟨rfl, rfl, rfl, rfl, rfl, trivial⟩, ⟨rfl, rfl, rfl, by rw [List.take_zero]; unfold normFs; rfl⟩, trivial⟩ ?_
    rintro ⟨i, vf⟩ i2
    dsimp only at i2
    have hw := wN i (by omega)
    rcases Nat.lt_or_ge i fs.length with hil | hil
    · have hat : (vfsD fs)[(i : Int).toNat]? = some (vfD fs[i]) := by rw [vfsD_map, Int.toNat_natCast, List.getElem?_map, List.getElem?_eq_getElem hil]; rfl
      have hmem := List.getElem_mem hil
      have htk : fs.take (i + 1) = fs.take i ++ [fs[i]] := List.take_succ_eq_append_getElem hil
      generalize fs[i] = x at hat hmem htk
      obtain ⟨num, vs⟩ := x
      have hnum := h3 num vs hmem
      have hvl := h2 num vs hmem
      obtain ⟨_, f, hff, hne, hrl, hfv⟩ := fitsFs_mem hf num vs hmem
      have hFi := Find_spec (d := d) (num := num) hfo hnum
      rw [hff] at hFi
      have hCl := cloneVR (l := vs) (by unfold lim; omega)
      have hlv : (vlsD vs).length = vs.length := by rw [vlsD_map, List.length_map]
      refine a_t hT rfl rfl (decide_eq_true (by show (i : Int) < (fs.length : Int); omega)) ?_
      refine a_ix hT _ rfl rfl rfl rfl rfl rfl (by omega) hat ?_
      refine a_new hT hZ 41 rfl rfl rfl rfl fun g4 => ?_
      refine a_run hT 1 rfl rfl ?_
      refine a_freezeK 7 41 rfl rfl rfl rfl rfl ?_
      refine a_treeN hT [2, 3, 4, 5, 7, 8, 23, 24, 25] (fun g : Nat => [.d (.p (schD s)), .d (.p (msgD ty fs unk)), .v (.pointer (some ⟨g2, 0, none⟩)) 22, .v (.pointer (some ⟨g3, 0, none⟩)) 23, .d (.p (vfD (.mk num vs))), .v (.pointer (some ⟨g, 0, none⟩)) 42, .d (.sl 2 (vfsD fs)), .v (kI fs.length) 0, .v (kI i) 0]) (fun g => [(22, .blk g2 97 [.v (.int .i64 0) 0, .v (.slice none 0 0) 0, .v (.string .empty) 0]), (23, .blk g3 97 [.v (kI ty) 0, .row vf 40, .v (.string unk) 0]), (40, .row vf 99 2 (vfsD (normFs s d (fs.take i)))), (42, .blk g 68 ((eF f).map nd))]) (fun _ => True) [] 15 [(0, false), (2, false), (6, false), (1, false), (3, false), (7, false), (4, false), (5, false)] rfl rfl (by kernel_rfl) (by kernel_rfl) rfl ?_ ?_
      · refine a_ix hT _ rfl rfl rfl rfl rfl rfl (by first | omega | assumption) (by first | assumption | rfl) ?_
        refine a_alt hT [([(8, true), (9, false), (10, false), (11, false), (12, true), (13, true), (14, true)], true), ([(12, true), (8, true), (9, true), (10, false), (11, false), (13, true), (14, true)], true)] rfl rfl (by kernel_rfl) ⟨?_, ?_, trivial⟩
        · refine a_call hT rfl rfl rfl (by kernel_rfl) hFi [] [] rfl rfl ?_
          rintro _ _ ⟨rfl, rfl⟩
          refine a_new hT hZ 41 rfl rfl rfl rfl fun g5 => ?_
          exact a_next hT g5 [22, 23, 40, 41] rfl rfl trivial ⟨rfl, rfl, rfl, rfl, rfl, rfl, rfl, rfl, rfl, trivial⟩ rfl ⟨⟨rfl, rfl, rfl, rfl, rfl, trivial⟩, ⟨rfl, rfl, rfl, rfl, rfl, trivial⟩, ⟨rfl, rfl, rfl, rfl⟩, ⟨rfl, rfl, rfl, rfl, rfl, rfl, rfl, trivial⟩, trivial⟩
        · refine a_new hT hZ 41 rfl rfl rfl rfl fun g5 => ?_
          refine a_call hT rfl rfl rfl (by kernel_rfl) hFi [] [] rfl rfl ?_
          rintro _ _ ⟨rfl, rfl⟩
          exact a_next hT g5 [22, 23, 40, 41] rfl rfl trivial ⟨rfl, rfl, rfl, rfl, rfl, rfl, rfl, rfl, rfl, trivial⟩ rfl ⟨⟨rfl, rfl, rfl, rfl, rfl, trivial⟩, ⟨rfl, rfl, rfl, rfl, rfl, trivial⟩, ⟨rfl, rfl, rfl, rfl⟩, ⟨rfl, rfl, rfl, rfl, rfl, rfl, rfl, trivial⟩, trivial⟩
      rintro g5 _
      refine a_call hT rfl rfl rfl (by kernel_rfl) hCl [] [1] rfl rfl ?_
      rintro _ _ ⟨x, rfl, rfl⟩
      refine a_loop hT [2, 3, 4, 5, 7, 8, 10, 23, 24, 25, 44, 45, 46] (fun j : Nat => [.d (.p (schD s)), .d (.p (msgD ty fs unk)), .v (.pointer (some ⟨g2, 0, none⟩)) 22, .v (.pointer (some ⟨g3, 0, none⟩)) 23, .d (.p (vfD (.mk num vs))), .v (.pointer (some ⟨g5, 0, none⟩)) 42, .row x 1, .d (.sl 2 (vfsD fs)), .v (kI fs.length) 0, .v (kI i) 0, .row x 1, .v (kI vs.length) 0, .v (kI j) 0]) (fun j => [(22, .blk g2 97 [.v (.int .i64 0) 0, .v (.slice none 0 0) 0, .v (.string .empty) 0]), (23, .blk g3 97 [.v (kI ty) 0, .row vf 40, .v (.string unk) 0]), (40, .row vf 99 2 (vfsD (normFs s d (fs.take i)))), (42, .blk g5 68 ((eF f).map nd)), (1, .row x 31 1 (vlsD (normVs s (vs.take j) ++ vs.drop j)))]) (fun j => j ≤ vs.length) (fun j => vs.length - j) 0 [22, 23, 40, 42, 1] rfl rfl (Nat.zero_le _) ⟨rfl, rfl, rfl, rfl, rfl, rfl, rfl, rfl, rfl, rfl, rfl, by rw [← hlv]; rfl, rfl, trivial⟩ rfl ⟨⟨rfl, rfl, rfl, rfl, rfl, trivial⟩, ⟨rfl, rfl, rfl, rfl, rfl, trivial⟩, ⟨rfl, rfl, rfl, rfl⟩, ⟨rfl, rfl, rfl, rfl, rfl, rfl, rfl, trivial⟩, ⟨rfl, rfl, rfl, by rw [List.take_zero, List.drop_zero]; unfold normVs; rfl⟩, trivial⟩ ?_
      intro j j2
      have hwj := wN j (by omega)
      rcases Nat.lt_or_ge j vs.length with hjl | hjl
      · have hmv := List.getElem_mem hjl
        have htj : vs.take (j + 1) = vs.take j ++ [vs[j]] := List.take_succ_eq_append_getElem hjl
        have hdj : vs.drop j = vs[j] :: vs.drop (j + 1) := List.drop_eq_getElem_cons hjl
        have hone := fitsVs_mem hfv _ hmv
        have hih := ih num vs _ hmem hmv
        generalize vs[j] = v at hmv htj hdj hone hih
        have hnl : (normVs s (vs.take j)).length = j := by rw [normVs_map, List.length_map, List.length_take]; omega
        have hrow : vlsD (normVs s (vs.take j) ++ vs.drop j) = vlsD (normVs s (vs.take j)) ++ [vlD v] :: vlsD (vs.drop (j + 1)) := by rw [hdj, vlsD_app]; rfl
        have hrl : (vlsD (normVs s (vs.take j))).length = j := by rw [vlsD_len, hnl]
        have hrow2 : vlsD (normVs s (vs.take (j + 1)) ++ vs.drop (j + 1)) = vlsD (normVs s (vs.take j)) ++ [vlD (normP s v)] :: vlsD (vs.drop (j + 1)) := by
          rw [htj, normVs_map, List.map_append, List.append_assoc, vlsD_app, ← normVs_map]; rfl
        have hge : (vlsD (normVs s (vs.take j)) ++ [vlD v] :: vlsD (vs.drop (j + 1)))[j]? = some [vlD v] := by
          rw [List.getElem?_append_right (by omega), hrl, Nat.sub_self]; rfl
        have hset : ∀ e : List A.Dat, (vlsD (normVs s (vs.take j)) ++ [vlD v] :: vlsD (vs.drop (j + 1))).set j e = vlsD (normVs s (vs.take j)) ++ e :: vlsD (vs.drop (j + 1)) := by
          intro e
          rw [List.set_append_right _ _ (by omega), hrl, Nat.sub_self]; rfl
        dsimp only
        rw [hrow]
        refine a_rowfact 1 rfl rfl ?_
        rintro (⟨_, e⟩ | ⟨gr, cap, rfl⟩)
        · exfalso
          have := congrArg List.length e
          simp at this
        have hrlen : (vlsD (normVs s (vs.take j)) ++ [vlD v] :: vlsD (vs.drop (j + 1))).length = vs.length := by
          rw [← hrow, vlsD_len, List.length_append, hnl, List.length_drop]; omega
        refine a_t hT rfl rfl (decide_eq_true (by show (j : Int) < (vs.length : Int); omega)) ?_
        refine a_rix hT j rfl rfl rfl rfl rfl rfl rfl (by omega) ?_
        refine a_rld hT j 0 [vlD v] (.d (vlD v)) rfl rfl rfl rfl rfl rfl (by omega) hge rfl ?_
        cases v with
        | msg ty2 fs2 unk2 =>
          have hnm : normP s (.msg ty2 fs2 unk2) = .msg ty2 (normFs s (dAt s ty2) fs2) unk2 := by conv => lhs; unfold normP
          rw [show ∀ r, oneK f r (.msg ty2 fs2 unk2) = (decide (f.kind = 10) && r) from fun _ => rfl, Bool.and_eq_true] at hone
          have hk10 := of_decide_eq_true hone.1
          have hty := hs.ty d hdm f (findF_num hff).2 hk10
          have hfv := hone.2
          have hte : ty2 = f.ty := by
            unfold fitsP at hfv
            rw [Bool.and_eq_true, Bool.and_eq_true] at hfv
            exact of_decide_eq_true hfv.1.1
          rw [← hte] at hfv
          have hN := hih (dep + 1) (by omega) hfv
          rw [hnm] at hrow2
          generalize normFs s (dAt s ty2) fs2 = nf at hN hrow2
          refine a_new hT hZ 43 rfl rfl rfl rfl fun g6 => ?_
          refine a_t hT rfl rfl rfl ?_
          refine a_callF hT rfl rfl rfl (by kernel_rfl) hN [] [] ⟨⟨rfl, rfl, rfl, trivial⟩, ⟨rfl, rfl, rfl, trivial⟩, trivial⟩ rfl trivial ?_
          rintro _ _ ⟨rfl, rfl⟩
          refine a_rix hT (j) rfl rfl rfl rfl rfl rfl (by first | rfl | omega) (by omega) ?_
          refine a_asL 62 (b := .d (vlD (.msg ty2 nf unk2))) rfl (le_ifcA rfl) ?_
          refine a_rst hT j 0 [vlD (.msg ty2 fs2 unk2)] (vlD (.msg ty2 nf unk2)) rfl rfl rfl rfl rfl rfl rfl (by omega) hge (by decide) rfl ?_
          exact a_next hT (j + 1) [22, 23, 40, 42, 1] rfl rfl ⟨by omega, by omega⟩ ⟨rfl, rfl, rfl, rfl, rfl, rfl, rfl, rfl, rfl, rfl, rfl, rfl, by show Value.int .i64 _ = Value.int .i64 _; rw [hwj], trivial⟩ rfl ⟨⟨rfl, rfl, rfl, rfl, rfl, trivial⟩, ⟨rfl, rfl, rfl, rfl, rfl, trivial⟩, ⟨rfl, rfl, rfl, rfl⟩, ⟨rfl, rfl, rfl, rfl, rfl, rfl, rfl, trivial⟩, ⟨rfl, rfl, rfl, (hset _).trans hrow2.symm⟩, trivial⟩
        | _ =>
          unfold normP at hrow2
          refine a_assertN hT zMsg rfl rfl rfl rfl rfl (by kernel_rfl) rfl ?_
          refine a_new hT hZ 43 rfl rfl rfl rfl fun g6 => ?_
          refine a_f hT rfl rfl rfl ?_
          exact a_next hT (j + 1) [22, 23, 40, 42, 1] rfl rfl ⟨by omega, by omega⟩ ⟨rfl, rfl, rfl, rfl, rfl, rfl, rfl, rfl, rfl, rfl, rfl, rfl, by show Value.int .i64 _ = Value.int .i64 _; rw [hwj], trivial⟩ rfl ⟨⟨rfl, rfl, rfl, rfl, rfl, trivial⟩, ⟨rfl, rfl, rfl, rfl, rfl, trivial⟩, ⟨rfl, rfl, rfl, rfl⟩, ⟨rfl, rfl, rfl, rfl, rfl, rfl, rfl, trivial⟩, ⟨rfl, rfl, rfl, hrow2.symm⟩, trivial⟩
      · refine a_f hT rfl rfl (decide_eq_false (by show ¬ (j : Int) < (vs.length : Int); omega)) ?_
        have hj : j = vs.length := by omega
        subst hj
        dsimp only
        rw [List.take_length, List.drop_length, List.append_nil]
        refine a_freeze 10 1 rfl rfl rfl rfl ?_
        have hkeep : normFs s d (fs.take (i + 1)) = normFs s d (fs.take i) ++ (if keepN f.rep (normVs s vs) then [.mk num (normVs s vs)] else []) := by
          have hat2 : fAt d num = f := by unfold fAt; rw [hff]; rfl
          rw [htk, normFs_app, normFs_cons, normF_mk, hat2]
          congr 1
          unfold normFs
          rw [List.append_nil]
        have hnl : (normVs s vs).length = vs.length := by rw [normVs_map, List.length_map]
        obtain ⟨w, ws, hws⟩ : ∃ w ws, normVs s vs = w :: ws := by
          cases hq : normVs s vs with
          | nil =>
            rw [hq] at hnl
            exact absurd (List.eq_nil_of_length_eq_zero hnl.symm) hne
          | cons w ws => exact ⟨w, ws, rfl⟩
        rw [hws] at hkeep ⊢
        have hZr := Zero_spec (v := w)
        have hvfl : (vfsD (normFs s d (fs.take i))).length ≤ 100000 := by
          have := normFs_len s d (fs.take i)
          rw [List.length_take] at this
          rw [vfsD_len]; omega
        refine a_ix hT _ rfl rfl rfl rfl rfl rfl (by decide) (show (vlsD (w :: ws))[Int.toNat 0]? = some [vlD w] from rfl) ?_
        have hk1 : f.rep = true → keepN f.rep (w :: ws) = true := fun h => by unfold keepN; rw [h]; rfl
        have hk2 : f.rep = false → keepN f.rep (w :: ws) = !zeroV w := fun h => by unfold keepN; rw [h]; rfl
        cases w with
        | msg a b c =>
          refine a_new hT hZ 43 rfl rfl rfl rfl fun g6 => ?_
          refine a_gt hT rfl rfl rfl rfl ?_
          refine a_gt hT rfl rfl rfl rfl ?_
          refine a_t hT rfl rfl rfl ?_
          refine a_build hT hZ [.v (kI num) 0, .d (A.Dat.sl 1 (vlsD (VL.msg a b c :: ws)))] rfl rfl rfl rfl rfl rfl ?_
          refine a_lit hT 44 rfl rfl rfl rfl (by kernel_rfl) rfl rfl rfl rfl fun x44 => ?_
          refine a_app hT 40 _ rfl rfl rfl rfl (by kernel_rfl) rfl rfl rfl rfl rfl rfl (by simp only [List.length_append, List.length_cons, List.length_nil]; unfold lim; omega) fun v1 => ?_
          exact a_next hT (i + 1, v1) [22, 23, 40] rfl rfl ⟨by show i + 1 ≤ fs.length; omega, by show fs.length - (i + 1) < fs.length - i; omega⟩ ⟨rfl, rfl, rfl, rfl, rfl, rfl, by show Value.int .i64 _ = Value.int .i64 _; rw [hw], trivial⟩ rfl ⟨⟨rfl, rfl, rfl, rfl, rfl, trivial⟩, ⟨rfl, rfl, rfl, rfl, rfl, trivial⟩, ⟨rfl, rfl, rfl, by show _ = vfsD (normFs s d (fs.take (i + 1))); rw [hkeep, show keepN f.rep (VL.msg a b c :: ws) = true from by cases hq : f.rep with | true => rfl | false => rfl, if_pos rfl, vfsD_app]; rfl⟩, trivial⟩
        | _ =>
          refine a_assertN hT zMsg rfl rfl rfl rfl rfl (by kernel_rfl) rfl ?_
          refine a_new hT hZ 43 rfl rfl rfl rfl fun g6 => ?_
          refine a_gf hT rfl rfl rfl rfl ?_
          refine a_g hT rfl rfl rfl (fun h => ?_) (fun h => ?_)
          · refine a_t hT rfl rfl rfl ?_
            refine a_build hT hZ [.v (kI num) 0, .d (A.Dat.sl 1 (vlsD (_ :: ws)))] rfl rfl rfl rfl rfl rfl ?_
            refine a_lit hT 44 rfl rfl rfl rfl (by kernel_rfl) rfl rfl rfl rfl fun x44 => ?_
            refine a_app hT 40 _ rfl rfl rfl rfl (by kernel_rfl) rfl rfl rfl rfl rfl rfl (by simp only [List.length_append, List.length_cons, List.length_nil]; unfold lim; omega) fun v1 => ?_
            exact a_next hT (i + 1, v1) [22, 23, 40] rfl rfl ⟨by show i + 1 ≤ fs.length; omega, by show fs.length - (i + 1) < fs.length - i; omega⟩ ⟨rfl, rfl, rfl, rfl, rfl, rfl, by show Value.int .i64 _ = Value.int .i64 _; rw [hw], trivial⟩ rfl ⟨⟨rfl, rfl, rfl, rfl, rfl, trivial⟩, ⟨rfl, rfl, rfl, rfl, rfl, trivial⟩, ⟨rfl, rfl, rfl, by show _ = vfsD (normFs s d (fs.take (i + 1))); rw [hkeep, hk1 h, if_pos rfl, vfsD_app]; rfl⟩, trivial⟩
          · refine a_ix hT _ rfl rfl rfl rfl rfl rfl (by decide) (show (vlsD (_ :: ws))[Int.toNat 0]? = some [vlD _] from rfl) ?_
            refine a_call hT rfl rfl rfl (by kernel_rfl) hZr [] [] rfl rfl ?_
            rintro _ _ ⟨rfl, rfl⟩
            refine a_if hT rfl rfl (fun h1 => ?_) (fun h1 => ?_)
            · refine a_build hT hZ [.v (kI num) 0, .d (A.Dat.sl 1 (vlsD (_ :: ws)))] rfl rfl rfl rfl rfl rfl ?_
              refine a_lit hT 44 rfl rfl rfl rfl (by kernel_rfl) rfl rfl rfl rfl fun x44 => ?_
              refine a_app hT 40 _ rfl rfl rfl rfl (by kernel_rfl) rfl rfl rfl rfl rfl rfl (by simp only [List.length_append, List.length_cons, List.length_nil]; unfold lim; omega) fun v1 => ?_
              exact a_next hT (i + 1, v1) [22, 23, 40] rfl rfl ⟨by show i + 1 ≤ fs.length; omega, by show fs.length - (i + 1) < fs.length - i; omega⟩ ⟨rfl, rfl, rfl, rfl, rfl, rfl, by show Value.int .i64 _ = Value.int .i64 _; rw [hw], trivial⟩ rfl ⟨⟨rfl, rfl, rfl, rfl, rfl, trivial⟩, ⟨rfl, rfl, rfl, rfl, rfl, trivial⟩, ⟨rfl, rfl, rfl, by show _ = vfsD (normFs s d (fs.take (i + 1))); rw [hkeep, (hk2 h).trans h1, if_pos rfl, vfsD_app]; rfl⟩, trivial⟩
            · exact a_next hT (i + 1, vf) [22, 23, 40] rfl rfl ⟨by show i + 1 ≤ fs.length; omega, by show fs.length - (i + 1) < fs.length - i; omega⟩ ⟨rfl, rfl, rfl, rfl, rfl, rfl, by show Value.int .i64 _ = Value.int .i64 _; rw [hw], trivial⟩ rfl ⟨⟨rfl, rfl, rfl, rfl, rfl, trivial⟩, ⟨rfl, rfl, rfl, rfl, rfl, trivial⟩, ⟨rfl, rfl, rfl, by show _ = vfsD (normFs s d (fs.take (i + 1))); rw [hkeep, (hk2 h).trans h1, if_neg (by decide), List.append_nil]⟩, trivial⟩
    · refine a_f hT rfl rfl (decide_eq_false (by show ¬ (i : Int) < (fs.length : Int); omega)) ?_
      have hi : i = fs.length := by omega
      subst hi
      rw [List.take_length]
      refine a_freezeB 23 1 40 rfl rfl rfl rfl rfl ?_
      refine a_ret hT [] rfl rfl rfl rfl rfl rfl ?_
      exact ⟨rfl, rfl⟩
  | _ => exact trivial
end Go.Proofs.YtjcolfogmmjaoaaGreatDoor
end

section
set_option linter.unusedVariables false
set_option linter.unusedSimpArgs false
set_option maxRecDepth 100000
set_option maxHeartbeats 2000000
namespace Go.Proofs.YtjcolfogmmjaoaaGreatDoor
open V A
theorem Fits_spec {s : SchP} (hz : SzS s) {v : VL} (hv : WfV v) {t : Int} : FSpec Tryz.prog 36 [schA s, .v (kI t) 0, nd (vlD v)] [u8C] fun a cs => a = bA (fitsTop s v t) ∧ cs = [u8C] := by
  have hF := Formed_spec hz
  have hso := fun h => schOk (s := s) h
  have hlm : (s.ms.map eM).length = s.ms.length := List.length_map _
  unfold fitsTop
  refine a_enter hT [schA s, .v (kI t) 0, nd (vlD v)] [60] Tryz.func36 rfl rfl rfl ⟨Fit.refl _, rfl, Fit.refl _, trivial⟩ fun c' => ?_
  cases hfo : formedP s with
  | false =>
    rw [hfo] at hF
    refine a_box hT 61 rfl rfl rfl rfl fun g => ?_
    refine a_call hT rfl rfl rfl (by kernel_rfl) hF [] [] rfl rfl ?_
    rintro _ _ ⟨rfl, rfl⟩
    refine a_gf hT rfl rfl rfl rfl ?_
    refine a_gf hT rfl rfl rfl rfl ?_
    refine a_gf hT rfl rfl rfl rfl ?_
    refine a_ret hT [60] rfl rfl rfl rfl rfl rfl ?_
    first | exact ⟨rfl, rfl⟩ | rfl
  | true =>
    rw [hfo] at hF
    refine a_box hT 61 rfl rfl rfl rfl fun g => ?_
    refine a_call hT rfl rfl rfl (by kernel_rfl) hF [] [] rfl rfl ?_
    rintro _ _ ⟨rfl, rfl⟩
    refine a_gt hT rfl rfl rfl rfl ?_
    refine a_g hT rfl rfl rfl (fun h => ?_) (fun h => ?_)
    · have h := of_decide_eq_true h
      refine a_g hT rfl rfl rfl (fun h1 => ?_) (fun h1 => ?_)
      · have h1 := of_decide_eq_true h1
        have h0 : (0 : Int) ≤ t := by first | assumption | omega
        have h1' : t < (s.ms.length : Int) := by rw [← hlm]; assumption
        have hfi := fits_spec (hso hfo) hv (t := t) (dep := 1) h0 h1' (by decide) (by decide)
        refine a_call hT rfl rfl rfl (by kernel_rfl) hfi [60] [60] rfl rfl ?_
        rintro _ _ ⟨rfl, rfl⟩
        refine a_ret hT [60] rfl rfl rfl rfl rfl rfl ?_
        exact ⟨by rw [decide_eq_true h0, decide_eq_true h1']; rfl, rfl⟩
      · have h1 := of_decide_eq_false h1
        refine a_ret hT [60] rfl rfl rfl rfl rfl rfl ?_
        have h7 : ¬ t < (s.ms.length : Int) := by rw [← hlm]; assumption
        exact b_eq (by rw [decide_eq_false h7]; simp)
    · have h := of_decide_eq_false h
      refine a_gf hT rfl rfl rfl rfl ?_
      refine a_ret hT [60] rfl rfl rfl rfl rfl rfl ?_
      exact b_eq (by rw [decide_eq_false (show ¬ (0 : Int) ≤ t by assumption)]; simp)
theorem Must_spec {ty : Int} {fs : List VF} {u : ByteArray} : FSpec Tryz.prog 44 [nd (vlD (.msg ty fs u))] [] fun a cs => a = msgA ty fs u ∧ cs = [] := by
  refine FSpec.le ?_
  refine a_enter hT [nd (vlD (.msg ty fs u))] [] Tryz.func44 rfl rfl rfl ⟨Fit.refl _, trivial⟩ fun c' => ?_
  refine a_new hT hZ 20 rfl rfl rfl rfl fun g => ?_
  refine a_ret hT [] rfl rfl rfl rfl rfl rfl ?_
  exact ⟨_, Le.agg (.cons nd_of (.cons nd_of (.cons nd_of .nil))), rfl, rfl⟩
def normA (s : SchP) (v : VL) (t : Int) : AV := if fitsTop s v t then .tup [.d (vlD (normP s v)), .v (kI 0) 0] else .tup [.v .nilIface 0, .v (kI 1) 0]
theorem Normal_spec {s : SchP} (hz : SzS s) {v : VL} (hv : WfV v) {t : Int} : FSpec Tryz.prog 21 [schA s, .v (kI t) 0, nd (vlD v)] [u8C] fun a cs => a = normA s v t ∧ cs = [u8C] := by
  refine FSpec.le ?_
  have hF := Fits_spec hz hv (t := t)
  have hso := fun h => schOk (s := s) h
  unfold normA
  refine a_enter hT [schA s, .v (kI t) 0, nd (vlD v)] [60] Tryz.func21 rfl rfl rfl ⟨Fit.refl _, rfl, Fit.refl _, trivial⟩ fun c' => ?_
  cases hfo : fitsTop s v t with
  | false =>
    rw [hfo] at hF
    refine a_box hT 61 rfl rfl rfl rfl fun g => ?_
    refine a_call hT rfl rfl rfl (by kernel_rfl) hF [60] [60] rfl rfl ?_
    rintro _ _ ⟨rfl, rfl⟩
    refine a_t hT rfl rfl rfl ?_
    refine a_ret hT [60] rfl rfl rfl rfl rfl rfl ?_
    exact ⟨_, Le.refl _, rfl, rfl⟩
  | true =>
    rw [hfo] at hF
    cases v with
    | msg ty fs u =>
      have hN : FSpec Tryz.prog 42 [schA s, msgA ty fs u] [] fun a cs => a = msgA ty (normFs s (dAt s ty) fs) u ∧ cs = [] := by
        unfold fitsTop at hfo
        rw [Bool.and_eq_true, Bool.and_eq_true, Bool.and_eq_true] at hfo
        obtain ⟨f1, f2, f3, f4⟩ := hfo
        have hte : ty = t := by
          have f5 := f4
          unfold fitsP at f5
          rw [Bool.and_eq_true, Bool.and_eq_true] at f5
          exact of_decide_eq_true f5.1.1
        subst hte
        exact normal_ind (hso f1) hv 1 (of_decide_eq_true f2) f4
      refine a_box hT 61 rfl rfl rfl rfl fun g => ?_
      refine a_call hT rfl rfl rfl (by kernel_rfl) hF [60] [60] rfl rfl ?_
      rintro _ _ ⟨rfl, rfl⟩
      refine a_f hT rfl rfl rfl ?_
      refine a_drawX hT [] 3 [(0, false), (1, false), (2, false), (3, true)] rfl rfl (by kernel_rfl) (by kernel_rfl) rfl ?_
      refine a_callF hT rfl rfl rfl (by kernel_rfl) hN [] [] ⟨⟨rfl, rfl, rfl, trivial⟩, ⟨rfl, rfl, rfl, trivial⟩, trivial⟩ rfl trivial ?_
      rintro _ _ ⟨rfl, rfl⟩
      refine a_rest hT [(4, true), (5, true), (6, true)] rfl rfl (by kernel_rfl) ?_
      refine a_ret hT [60] rfl rfl rfl rfl rfl rfl ?_
      refine ⟨_, Le.tup (.cons (le_ifcA rfl) (.cons (Le.refl _) .nil)), ?_, rfl⟩
      rw [if_pos rfl, show normP s (.msg ty fs u) = .msg ty (normFs s (dAt s ty) fs) u from by conv => lhs; unfold normP]
      rfl
    | _ => exact absurd hfo (by unfold fitsTop fitsP; simp)
end Go.Proofs.YtjcolfogmmjaoaaGreatDoor
end

section
set_option linter.unusedVariables false
set_option linter.unusedSimpArgs false
set_option maxRecDepth 100000
set_option maxHeartbeats 2000000
namespace Go.Proofs.YtjcolfogmmjaoaaGreatDoor
open V A
theorem pack_spec {l : List UInt8} {x : FW} (hl : l.length ≤ 800000) (hn : x.n < 18446744073709551616) : FSpec Tryz.prog 91 [.d (A.bytesD l), fwA x] [] fun a cs => a = .d (A.bytesD (l ++ packW x)) ∧ cs = [] := by
  refine a_enter hT [.d (A.bytesD l), fwA x] [] Tryz.func91 rfl rfl rfl ⟨Fit.refl _, Fit.refl _, trivial⟩ fun c' => ?_
  have hA := Append_spec (l := l) (n := x.n) hn (by omega)
  have hA4 := Append64_spec (l := l) (n := x.n) (by omega)
  have hA2 := Append32_spec (l := l) (n := x.n % 4294967296) (by omega)
  rw [← wrap_u32, le32_mod] at hA2
  obtain ⟨num, typ, n, data⟩ := x
  dsimp only at hA hA4 hA2
  unfold packW
  dsimp only
  refine a_box hT 20 rfl rfl rfl rfl fun g => ?_
  refine a_if hT rfl rfl (fun h => ?_) (fun h => ?_)
  · have h : (typ : Int) = 5 := eq_of_beq h
    rw [if_pos (by omega : typ = 5)]
    refine a_call hT rfl rfl rfl (by kernel_rfl) hA2 [] [] rfl rfl ?_
    rintro _ _ ⟨rfl, rfl⟩
    refine a_ret hT [] rfl rfl rfl rfl rfl rfl ?_
    exact ⟨rfl, rfl⟩
  · have h : ¬ (typ : Int) = 5 := ne_of_beq_false h
    rw [if_neg (by omega : ¬ typ = 5)]
    refine a_if hT rfl rfl (fun h1 => ?_) (fun h1 => ?_)
    · have h1 : (typ : Int) = 1 := eq_of_beq h1
      rw [if_pos (by omega : typ = 1)]
      refine a_call hT rfl rfl rfl (by kernel_rfl) hA4 [] [] rfl rfl ?_
      rintro _ _ ⟨rfl, rfl⟩
      refine a_ret hT [] rfl rfl rfl rfl rfl rfl ?_
      exact ⟨rfl, rfl⟩
    · have h1 : ¬ (typ : Int) = 1 := ne_of_beq_false h1
      rw [if_neg (by omega : ¬ typ = 1)]
      refine a_call hT rfl rfl rfl (by kernel_rfl) hA [] [] rfl rfl ?_
      rintro _ _ ⟨rfl, rfl⟩
      refine a_ret hT [] rfl rfl rfl rfl rfl rfl ?_
      exact ⟨rfl, rfl⟩
theorem u64_wrap (n : Int) : IntKind.u64.wrap n = ((u64 n : Nat) : Int) := by
  unfold u64
  rw [Int.toNat_of_nonneg (Int.emod_nonneg n (by decide))]
  unfold IntKind.wrap
  simp [IntKind.bits, IntKind.signed]
theorem field_spec {s : SchP} {f : FDP} {v : VL} {m : List UInt8} (hf : 0 ≤ f.num) (hv : WfV v) (hM : ∀ ty fs u, v = .msg ty fs u → FSpec Tryz.prog 43 [schA s, msgA ty fs u] [] fun a cs => a = .d (A.bytesD m) ∧ cs = []) :
    FSpec Tryz.prog 90 [schA s, .agg ((eF f).map nd), nd (vlD v)] [] fun a cs => a = fwA (mkW f v m) ∧ cs = [] := by
  have hW := Wire_spec (k := f.kind)
  have hwr := wireK_rng f.kind
  have hfw : fwA (mkW f v m) = .agg [.v (kI f.num) 0, .v (kI (wireK f.kind)) 0, .v (kU (numW f.kind v)) 0, .d (A.bytesD (dataW m v))] := by
    unfold fwA mkW
    dsimp only
    rw [Int.toNat_of_nonneg hf, Int.toNat_of_nonneg hwr.1]
  rw [hfw]
  refine FSpec.le ?_
  obtain ⟨num, name, kind, rep, ty⟩ := f
  dsimp only at hW hfw hf ⊢
  generalize wireK kind = wk at hW
  refine a_enter hT [schA s, .agg ((eF ⟨num, name, kind, rep, ty⟩).map nd), nd (vlD v)] [] Tryz.func90 rfl rfl rfl ⟨Fit.refl _, Fit.refl _, Fit.refl _, trivial⟩ fun c' => ?_
  refine a_box hT 20 rfl rfl rfl rfl fun g1 => ?_
  refine a_box hT 21 rfl rfl rfl rfl fun g2 => ?_
  refine a_new hT hZ 22 rfl rfl rfl rfl fun g3 => ?_
  refine a_freezeK 3 20 rfl rfl rfl rfl rfl ?_
  refine a_freezeK 4 21 rfl rfl rfl rfl rfl ?_
  refine a_treeN hT [2, 3, 4, 6, 7] (fun g : Nat => [nd (vlD v), .d (.p (schD s)), .d (.p (eF ⟨num, name, kind, rep, ty⟩)), .v (.pointer (some ⟨g3, 0, none⟩)) 22, .v (.pointer (some ⟨g, 0, none⟩)) 23]) (fun g => [(22, .blk g3 139 [.v (kI 0) 0, .v (kI 0) 0, .v (kU 0) 0, .v (.slice none 0 0) 0]), (23, .blk g 139 [.v (kI num) 0, .v (kI wk) 0, .v (kU 0) 0, .v (.slice none 0 0) 0])]) (fun _ => True) [] 8 [(0, false), (2, false), (1, false), (3, false)] rfl rfl (by kernel_rfl) (by kernel_rfl) rfl ?_ ?_
  · refine a_alt hT [([(4, true), (5, false), (6, true), (7, true)], true), ([(6, true), (4, true), (5, true), (7, true)], true)] rfl rfl (by kernel_rfl) ⟨?_, ?_, trivial⟩
    · refine a_call hT rfl rfl rfl (by kernel_rfl) hW [] [] rfl rfl ?_
      rintro _ _ ⟨rfl, rfl⟩
      refine a_build hT hZ [.v (kI (FDP.num { num := num, name := name, kind := kind, rep := rep, ty := ty })) 0, .v (kI wk) 0, .v (Value.int IntKind.u64 0) 0, .v (Value.slice none 0 0) 0] rfl rfl rfl rfl rfl rfl ?_
      refine a_new hT hZ 23 rfl rfl rfl rfl fun g => ?_
      exact a_next hT g [22, 23] rfl rfl trivial ⟨Fit.refl _, rfl, rfl, rfl, rfl, trivial⟩ rfl ⟨⟨rfl, rfl, rfl, rfl, rfl, rfl, trivial⟩, ⟨rfl, rfl, rfl, rfl, rfl, rfl, trivial⟩, trivial⟩
    · refine a_new hT hZ 23 rfl rfl rfl rfl fun g => ?_
      refine a_call hT rfl rfl rfl (by kernel_rfl) hW [] [] rfl rfl ?_
      rintro _ _ ⟨rfl, rfl⟩
      refine a_build hT hZ [.v (kI (FDP.num { num := num, name := name, kind := kind, rep := rep, ty := ty })) 0, .v (kI wk) 0, .v (Value.int IntKind.u64 0) 0, .v (Value.slice none 0 0) 0] rfl rfl rfl rfl rfl rfl ?_
      exact a_next hT g [22, 23] rfl rfl trivial ⟨Fit.refl _, rfl, rfl, rfl, rfl, trivial⟩ rfl ⟨⟨rfl, rfl, rfl, rfl, rfl, rfl, trivial⟩, ⟨rfl, rfl, rfl, rfl, rfl, rfl, trivial⟩, trivial⟩
  rintro g _
  cases v with
  | int n =>
    have hn : I64 n := by cases hv; assumption
    have hZg := Zig_spec hn
    refine a_t hT rfl rfl rfl ?_
    refine a_if hT rfl rfl (fun h => ?_) (fun h => ?_)
    · have h := eq_of_beq h
      refine a_callF hT rfl rfl rfl (by kernel_rfl) hZg [] [] ⟨rfl, trivial⟩ rfl trivial ?_
      rintro _ _ ⟨rfl, rfl⟩
      refine a_ret hT [] rfl rfl rfl rfl rfl rfl ?_
      exact ⟨_, Le.agg (.cons (Le.refl _) (.cons (Le.refl _) (.cons (Le.refl _) (.cons le_nil .nil)))), by rw [show numW kind (.int n) = (zigP n).toNat from if_pos (by assumption)]; rfl, rfl⟩
    · have h := ne_of_beq_false h
      refine a_ret hT [] rfl rfl rfl rfl rfl rfl ?_
      exact ⟨_, Le.agg (.cons (Le.refl _) (.cons (Le.refl _) (.cons (Le.refl _) (.cons le_nil .nil)))), by rw [show numW kind (.int n) = u64 n from if_neg (by assumption), ← u64_wrap]; rfl, rfl⟩
  | uint u =>
    refine a_assertN hT (.int .i64 0) rfl rfl rfl rfl rfl (by kernel_rfl) rfl ?_
    refine a_f hT rfl rfl rfl ?_
    refine a_t hT rfl rfl rfl ?_
    refine a_ret hT [] rfl rfl rfl rfl rfl rfl ?_
    exact ⟨_, Le.agg (.cons (Le.refl _) (.cons (Le.refl _) (.cons nd_of (.cons le_nil .nil)))), by show _ = AV.agg [_, _, .v (kU ((u.toNat : Nat) : Int)) 0, _]; rw [Int.toNat_of_nonneg (by cases hv; rename_i hu; exact hu.1)]; rfl, rfl⟩
  | bool b =>
    refine a_assertN hT (.int .i64 0) rfl rfl rfl rfl rfl (by kernel_rfl) rfl ?_
    refine a_f hT rfl rfl rfl ?_
    refine a_assertN hT (.int .u64 0) rfl rfl rfl rfl rfl (by kernel_rfl) rfl ?_
    refine a_f hT rfl rfl rfl ?_
    refine a_t hT rfl rfl rfl ?_
    refine a_if hT rfl rfl (fun h => ?_) (fun h => ?_)
    · refine a_ret hT [] rfl rfl rfl rfl rfl rfl ?_
      exact ⟨_, Le.agg (.cons (Le.refl _) (.cons (Le.refl _) (.cons (Le.refl _) (.cons le_nil .nil)))), by rw [show b = true by simpa using (by assumption)]; rfl, rfl⟩
    · refine a_ret hT [] rfl rfl rfl rfl rfl rfl ?_
      exact ⟨_, Le.agg (.cons (Le.refl _) (.cons (Le.refl _) (.cons (Le.refl _) (.cons le_nil .nil)))), by rw [show b = false by simpa using (by assumption)]; rfl, rfl⟩
  | enum n =>
    refine a_assertN hT (.int .i64 0) rfl rfl rfl rfl rfl (by kernel_rfl) rfl ?_
    refine a_f hT rfl rfl rfl ?_
    refine a_assertN hT (.int .u64 0) rfl rfl rfl rfl rfl (by kernel_rfl) rfl ?_
    refine a_f hT rfl rfl rfl ?_
    refine a_assertN hT (.bool false) rfl rfl rfl rfl rfl (by kernel_rfl) rfl ?_
    refine a_f hT rfl rfl rfl ?_
    refine a_t hT rfl rfl rfl ?_
    refine a_ret hT [] rfl rfl rfl rfl rfl rfl ?_
    exact ⟨_, Le.agg (.cons (Le.refl _) (.cons (Le.refl _) (.cons (Le.refl _) (.cons le_nil .nil)))), by show _ = AV.agg [_, _, .v (kU ((u64 n : Nat) : Int)) 0, _]; rw [← u64_wrap, show IntKind.i64.wrap n = n from w64 (by cases hv; omega) (by cases hv; omega)]; rfl, rfl⟩
  | text t =>
    have hts : t.size ≤ lim := by cases hv; unfold lim; omega
    refine a_assertN hT (.int .i64 0) rfl rfl rfl rfl rfl (by kernel_rfl) rfl ?_
    refine a_f hT rfl rfl rfl ?_
    refine a_assertN hT (.int .u64 0) rfl rfl rfl rfl rfl (by kernel_rfl) rfl ?_
    refine a_f hT rfl rfl rfl ?_
    refine a_assertN hT (.bool false) rfl rfl rfl rfl rfl (by kernel_rfl) rfl ?_
    refine a_f hT rfl rfl rfl ?_
    refine a_assertN hT (.int .i32 0) rfl rfl rfl rfl rfl (by kernel_rfl) rfl ?_
    refine a_f hT rfl rfl rfl ?_
    refine a_t hT rfl rfl rfl ?_
    refine a_bytes hT rfl rfl rfl rfl rfl rfl rfl hts ?_
    refine a_ret hT [] rfl rfl rfl rfl rfl rfl ?_
    exact ⟨_, Le.refl _, rfl, rfl⟩
  | bytes t =>
    have hts : t.size ≤ lim := by cases hv; unfold lim; omega
    refine a_assertN hT (.int .i64 0) rfl rfl rfl rfl rfl (by kernel_rfl) rfl ?_
    refine a_f hT rfl rfl rfl ?_
    refine a_assertN hT (.int .u64 0) rfl rfl rfl rfl rfl (by kernel_rfl) rfl ?_
    refine a_f hT rfl rfl rfl ?_
    refine a_assertN hT (.bool false) rfl rfl rfl rfl rfl (by kernel_rfl) rfl ?_
    refine a_f hT rfl rfl rfl ?_
    refine a_assertN hT (.int .i32 0) rfl rfl rfl rfl rfl (by kernel_rfl) rfl ?_
    refine a_f hT rfl rfl rfl ?_
    refine a_assertN hT (.string ByteArray.empty) rfl rfl rfl rfl rfl (by kernel_rfl) rfl ?_
    refine a_f hT rfl rfl rfl ?_
    refine a_t hT rfl rfl rfl ?_
    refine a_bytes hT rfl rfl rfl rfl rfl rfl rfl hts ?_
    refine a_ret hT [] rfl rfl rfl rfl rfl rfl ?_
    exact ⟨_, Le.refl _, rfl, rfl⟩
  | msg ty2 fs2 u2 =>
    have hM := hM _ _ _ rfl
    refine a_assertN hT (.int .i64 0) rfl rfl rfl rfl rfl (by kernel_rfl) rfl ?_
    refine a_f hT rfl rfl rfl ?_
    refine a_assertN hT (.int .u64 0) rfl rfl rfl rfl rfl (by kernel_rfl) rfl ?_
    refine a_f hT rfl rfl rfl ?_
    refine a_assertN hT (.bool false) rfl rfl rfl rfl rfl (by kernel_rfl) rfl ?_
    refine a_f hT rfl rfl rfl ?_
    refine a_assertN hT (.int .i32 0) rfl rfl rfl rfl rfl (by kernel_rfl) rfl ?_
    refine a_f hT rfl rfl rfl ?_
    refine a_assertN hT (.string ByteArray.empty) rfl rfl rfl rfl rfl (by kernel_rfl) rfl ?_
    refine a_f hT rfl rfl rfl ?_
    refine a_assertN hT (.string ByteArray.empty) rfl rfl rfl rfl rfl (by kernel_rfl) rfl ?_
    refine a_f hT rfl rfl rfl ?_
    refine a_t hT rfl rfl rfl ?_
    refine a_new hT hZ 24 rfl rfl rfl rfl fun g4 => ?_
    refine a_callF hT rfl rfl rfl (by kernel_rfl) hM [] [] ⟨⟨rfl, rfl, rfl, trivial⟩, ⟨rfl, rfl, rfl, trivial⟩, trivial⟩ rfl trivial ?_
    rintro _ _ ⟨rfl, rfl⟩
    refine a_ret hT [] rfl rfl rfl rfl rfl rfl ?_
    exact ⟨_, Le.refl _, rfl, rfl⟩
  | none =>
    refine a_assertN hT (.int .i64 0) rfl rfl rfl rfl rfl (by kernel_rfl) rfl ?_
    refine a_f hT rfl rfl rfl ?_
    refine a_assertN hT (.int .u64 0) rfl rfl rfl rfl rfl (by kernel_rfl) rfl ?_
    refine a_f hT rfl rfl rfl ?_
    refine a_assertN hT (.bool false) rfl rfl rfl rfl rfl (by kernel_rfl) rfl ?_
    refine a_f hT rfl rfl rfl ?_
    refine a_assertN hT (.int .i32 0) rfl rfl rfl rfl rfl (by kernel_rfl) rfl ?_
    refine a_f hT rfl rfl rfl ?_
    refine a_assertN hT (.string ByteArray.empty) rfl rfl rfl rfl rfl (by kernel_rfl) rfl ?_
    refine a_f hT rfl rfl rfl ?_
    refine a_assertN hT (.string ByteArray.empty) rfl rfl rfl rfl rfl (by kernel_rfl) rfl ?_
    refine a_f hT rfl rfl rfl ?_
    refine a_assertN hT zMsg rfl rfl rfl rfl rfl (by kernel_rfl) rfl ?_
    refine a_f hT rfl rfl rfl ?_
    refine a_ret hT [] rfl rfl rfl rfl rfl rfl ?_
    exact ⟨_, Le.agg (.cons (Le.refl _) (.cons (Le.refl _) (.cons (Le.refl _) (.cons le_nil .nil)))), rfl, rfl⟩
end Go.Proofs.YtjcolfogmmjaoaaGreatDoor
end
