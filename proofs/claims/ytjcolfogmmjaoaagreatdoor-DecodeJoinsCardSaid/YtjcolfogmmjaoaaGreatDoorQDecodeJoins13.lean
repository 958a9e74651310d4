import Derived.Test.YtjcolfogmmjaoaaGreatDoorQDecodeJoins6
import Derived.Lib.AppendStr
import Derived.Test.YtjcolfogmmjaoaaGreatDoorQDecodeJoins12
import Derived.Test.YtjcolfogmmjaoaaGreatDoorQDecodeJoins10
import Derived.Test.YtjcolfogmmjaoaaGreatDoorQDecodeJoins7
import Derived.Test.YtjcolfogmmjaoaaGreatDoorQDecodeJoins11
import Derived.Test.YtjcolfogmmjaoaaGreatDoorQDecodeJoins9
import Derived.Lib.LaidU8T
section
set_option linter.unusedVariables false
set_option linter.unusedSimpArgs false
set_option maxRecDepth 100000
namespace Go.Proofs.YtjcolfogmmjaoaaGreatDoor.A
open V
theorem vrep_bytes {M : Nat → Prop} {w : World} : ∀ l : List UInt8, VRep M w (l.map fun b => .v (byV b)) (l.map byV)
  | [] => by simp; unfold VRep; rfl
  | b :: l => by
    simp only [List.map_cons]
    unfold VRep
    exact ⟨_, _, rfl, by unfold DRep; exact ⟨rfl, rfl⟩, vrep_bytes l⟩
theorem run_appS {P : Program} {w : World} {base : Nat} {t u ty e : TypeId} {i : TypeInfo} (ht : P.underlying t = some (.slice e)) (hu : P.underlying u = some .string) (hi : P.info? e = some i) (hz : i.zero = some (.int .u8 0)) (hsize : i.size = 1) (hby : i.bytes = 1)
    {v : Value} {n : Nat} {xs : List Value} (hown : w.ownsRow base e 1 v n xs) (s : ByteArray) (hl : n + s.size ≤ lim) (hbase : base ≤ w.heap.size) :
    ∃ v' w', (Builtin.append_ #[t, u] ty #[v, .string s]).run P w = .ok v' w' ∧ w'.ownsRow base e 1 v' (n + s.size) (xs ++ Lib.strCells s) ∧ Ev (V.ob v) w w' ∧ (∀ b, V.ob v' b → V.ob v b ∨ w.heap.size ≤ b) := by
  have hlim : lim = 4294967296 := rfl
  have h63 : n + s.size ≤ maxLen := by unfold maxLen; omega
  obtain ⟨v', w', hrun, h1, h2, _⟩ := Lib.run_append_own_string (P := P) w base t u ty e i ht hu hi hz hsize hby v n xs hown s h63 (by omega) hbase
  have hxl : xs.length = n := by simpa using hown.1
  refine ⟨v', w', hrun, h1, Ev.grown h2 fun k hk => hk, fun b hb => ?_⟩
  unfold V.ob at hb ⊢
  rcases hown.2 with ⟨rfl, rfl⟩ | ⟨g, cap, cur, rfl, hbg, hg, hnc, hcm, hcs, htake⟩
  · have hx : xs = [] := List.eq_nil_of_length_eq_zero hxl
    subst hx
    obtain ⟨v2, w2, hrun2, h3, _, _⟩ := Lib.run_append_own_string (P := P) w w.heap.size t u ty e i ht hu hi hz hsize hby (.slice none 0 0) 0 [] (World.ownsRow_nil w w.heap.size e 1) s h63 (by omega) (Nat.le_refl _)
    rw [hrun] at hrun2
    injection hrun2 with e1 e2
    subst e1 e2
    right
    rcases h3.2 with ⟨rfl, _⟩ | ⟨g, cap, cur, rfl, hbg, _⟩
    · cases hb
    · simp [Value.ownBlock] at hb
      omega
  · by_cases hroom : n + s.size ≤ cap
    · have hcs' : cur.size = cap := by simpa using hcs
      have hr := Lib.run_append_room_string (P := P) w t u ty e i ht hu hi hsize g n cap cur hg s hroom (by omega)
      rw [hrun] at hr
      injection hr with e1 e2
      subst e1
      exact .inl hb
    · have holds : ∀ j u, xs[j]? = some u → w.cell? ((⟨g, 0, none⟩ : Addr).add j) = some u := hown.cells (g := g) rfl
      have hr := Lib.run_append_grow_string (P := P) w t u ty e i (.int .u8 0) ht hu hi hz ⟨g, 0, none⟩ n cap xs (by rw [hsize]; simpa using hxl) holds s (by omega) (by omega) (by rw [hby]; exact growslice_fits (by omega) (by omega))
      rw [hrun] at hr
      injection hr with e1 e2
      subst e1
      simp [Value.ownBlock] at hb
      omega
section
variable {P : Program} {L : List TD} {Z : List (List Value)} {n : Nat} {Q : Exit → Act → World → Prop} {c : Ctx}
variable {s : AMS} {f f' : AEnv} {σ σ' : Store} {κ : List Kt} {all : Array Oper} {dec : List Nat} {rest : List (Oper × Bool)} {m : Mode} {o : Oper} {al : Bool} {ob : Obs}
def byteInfo (P : Program) (e : TypeId) : Bool := match P.info? e with
  | some i => i.size == 1 && i.bytes == 1 && (match i.zero with | some (.int .u8 0) => true | _ => false)
  | none => false
theorem byteInfo_spec {e : TypeId} (h : byteInfo P e = true) : ∃ i, P.info? e = some i ∧ i.zero = some (.int .u8 0) ∧ i.size = 1 ∧ i.bytes = 1 := by
  unfold byteInfo at h
  split at h
  · rename_i i hi
    rw [Bool.and_eq_true, Bool.and_eq_true] at h
    refine ⟨i, hi, ?_, by simpa using h.1.1, by simpa using h.1.2⟩
    have h2 := h.2
    split at h2
    · assumption
    · cases h2
  · cases h
theorem a_appS (hT : TOk P L) (kn : Nat) {t u e : TypeId} {k0 hh0 : Nat} {x y : Operand} {v v' : Value} {es : List (List Dat)} {b : ByteArray} (es' : List (List Dat)) (h : machA L n fuel s f σ [] = ⟨.op m κ all dec o true rest, f', σ', ob⟩) (hob : ob.map (·.1) = ob.map (·.2)) (ho : o.op = .call ⟨.builtin .append, #[x, y], #[t, u]⟩) (ht : tl L t = .sl e 1) (hu : tl L u = .str) (hel : byteInfo P e = true)
    (hx : evA n f' x = .row v k0) (hl : look σ' k0 = some (.row v' e 1 es)) (hvv : v = v') (hy : evN n f' y = .v (.string b) hh0) (hes : es ++ b.data.toList.map eB = es') (hlim : es.length + b.size ≤ lim)
    (hk : ∀ x, DenA c P n Q (.ops (m.hap true) κ all dec rest) (putA f' o.dst (.row x kn)) ((kn, .row x e 1 es') :: del σ' k0)) : DenA c P n Q s f σ := by
  subst hvv
  subst hes
  refine a_eff hT (fun a σ1 => ∃ x, a = .row x kn ∧ σ1 = (kn, .row x e 1 (es ++ b.data.toList.map eB)) :: del σ' k0) h hob (fun Y Su w fc hd hY hh he => ?_) (fun a σ1 ⟨g, ha, hs⟩ => by subst ha; subst hs; exact hk g)
  obtain ⟨S1, S2, hS, hdis, hc, hrest⟩ := hh.take hl
  obtain ⟨hS1, hkl, xs, hown, hv⟩ := hc
  have hxv := he.eval (n := n) x
  rw [hx] at hxv
  unfold Rep at hxv
  have hyv := he.evalN (n := n) y
  rw [hy] at hyv
  have hyv := rep_v hyv
  obtain ⟨i, hi, hz, hsz, hby⟩ := byteInfo_spec hel
  obtain ⟨v', w', hrun, h1, h2, h3⟩ := run_appS (P := P) (ty := o.type) (sl_tl hT ht).1 (str_tl hT hu) hi hz hsz hby hown b hlim (Nat.zero_le _)
  have hcells : Lib.strCells b = b.data.toList.map byV := rfl
  rw [hcells] at h1
  have hrun' : (execOp (ev n fc) o).run P w = .ok (.value v') w' := by
    unfold execOp
    simp only [ho, resolve, invoke, builtin, Sem.run_bind, Sem.run_pure, Result.andThen_ok, List.map_toArray, List.map_cons, List.map_nil, hxv.1, hyv, hrun]
  rw [hrun']
  have hev : Ev Su w w' := h2.mono fun b _ hb => (hS b).2 (.inl ((hS1 b).2 hb))
  have hsub : ∀ b, or2 (V.ob v') S2 b → Su b ∨ w.heap.size ≤ b := fun b h => by
    rcases h with h | h
    · exact (h3 b h).imp (fun h => (hS b).2 (.inl ((hS1 b).2 h))) id
    · exact .inl ((hS b).2 (.inr h))
  have hm : ∀ b, b < w.heap.size → V.ob v b ∨ or2 (or2 (V.ob v') S2) Y b → or2 Su Y b := fun b hb h => by
    rcases h with h | h | h
    · exact .inl ((hS b).2 (.inl ((hS1 b).2 h)))
    · rcases hsub b h with h | h
      · exact .inl h
      · omega
    · exact .inr h
  have hbl : (b.data.toList.map eB).length = b.size := by rw [List.length_map]; rfl
  refine ⟨_, _, or2 (V.ob v') S2, ⟨v', rfl, rfl⟩, ?_, ⟨V.ob v', S2, fun b => Iff.rfl, fun b hb h => ?_, ⟨fun b => Iff.rfl, ?_, _, by rw [List.length_append, hbl]; exact h1, ?_⟩, hrest.ev h2 hm fun b hb h => hdis b ((hS1 b).2 h) hb⟩, hev, hsub⟩
  · unfold Rep
    refine ⟨rfl, ?_⟩
    rcases h1.2 with ⟨rfl, _⟩ | ⟨g, cap, cur, rfl, _⟩ <;> rfl
  · rcases h3 b hb with h' | h'
    · exact hdis b ((hS1 b).2 h') h
    · have := hrest.lt b h; omega
  · intro e' he'
    rcases List.mem_append.1 he' with he' | he'
    · exact hkl e' he'
    · obtain ⟨q, _, rfl⟩ := List.mem_map.1 he'
      rfl
  · rw [List.flatten_append, flat_eB]
    exact (hv.app (vrep_bytes _)).ev h2 hm
end
end Go.Proofs.YtjcolfogmmjaoaaGreatDoor.A
end

section
set_option linter.unusedVariables false
set_option linter.unusedSimpArgs false
set_option maxRecDepth 100000
set_option maxHeartbeats 2000000
namespace Go.Proofs.YtjcolfogmmjaoaaGreatDoor
open V A
theorem encFs_app (s : SchP) (d : MDP) : ∀ (a b : List VF), encFs s d (a ++ b) = encFs s d a ++ encFs s d b
  | [], b => by conv => rhs; arg 1; unfold encFs
                rfl
  | f :: a, b => by rw [List.cons_append, encFs_cons, encFs_cons, encFs_app s d a b, List.append_assoc]
theorem encVs_app (s : SchP) (f : FDP) : ∀ (a b : List VL), encVs s f (a ++ b) = encVs s f a ++ encVs s f b
  | [], b => by conv => rhs; arg 1; unfold encVs
                rfl
  | v :: a, b => by rw [List.cons_append, encVs_cons, encVs_cons, encVs_app s f a b, List.append_assoc]
theorem packVs_app (s : SchP) (f : FDP) : ∀ (a b : List VL), packVs s f (a ++ b) = packVs s f a ++ packVs s f b
  | [], b => by conv => rhs; arg 1; unfold packVs
                rfl
  | v :: a, b => by rw [List.cons_append, packVs_cons, packVs_cons, packVs_app s f a b, List.append_assoc]
theorem encFs_nil (s : SchP) (d : MDP) : encFs s d [] = [] := by unfold encFs; rfl
theorem encVs_nil (s : SchP) (f : FDP) : encVs s f [] = [] := by unfold encVs; rfl
theorem packVs_nil (s : SchP) (f : FDP) : packVs s f [] = [] := by unfold packVs; rfl
theorem wtFs_app : ∀ (a b : List VF), wtFs (a ++ b) = wtFs a + wtFs b
  | [], b => by conv => rhs; arg 1; unfold wtFs
                simp
  | f :: a, b => by rw [List.cons_append, wtFs_cons, wtFs_cons, wtFs_app a b, Nat.add_assoc]
theorem wtVs_app : ∀ (a b : List VL), wtVs (a ++ b) = wtVs a + wtVs b
  | [], b => by conv => rhs; arg 1; unfold wtVs
                simp
  | v :: a, b => by rw [List.cons_append, wtVs_cons, wtVs_cons, wtVs_app a b, Nat.add_assoc]
theorem wtFs_take (fs : List VF) (i : Nat) : wtFs (fs.take i) ≤ wtFs fs := by
  have := wtFs_app (fs.take i) (fs.drop i)
  rw [List.take_append_drop] at this
  omega
theorem wtVs_take (vs : List VL) (i : Nat) : wtVs (vs.take i) ≤ wtVs vs := by
  have := wtVs_app (vs.take i) (vs.drop i)
  rw [List.take_append_drop] at this
  omega
def addC (g : Nat) (v : Value) (l : List UInt8) : List Chunk := [.blk g 27 [.row v 31], .row v 5 1 (l.map eB)]
theorem add_spec {x : FW} {g : Nat} {v : Value} {l : List UInt8} (hd : x.data.length ≤ 800000) (hn : x.n < 18446744073709551616) (hl : l.length ≤ 3000000) : FSpec Tryz.prog 87 [fwA x, .v (.pointer (some ⟨g, 0, none⟩)) 30] (addC g v l) fun a cs => ∃ v', a = .tup [] ∧ cs = addC g v' (l ++ appW x) := by
  have hA := (wireAppend_spec hd hn).les (.cons (le_nil (h := 0)) (.cons (Le.refl _) .nil))
  have hal := appW_len x
  refine a_enter hT [fwA x, .v (.pointer (some ⟨g, 0, none⟩)) 30] [30, 31] Tryz.func87 rfl rfl rfl ⟨Fit.refl _, Fit.refl _, trivial⟩ fun c' => ?_
  refine a_box hT 32 rfl rfl rfl rfl fun g1 => ?_
  refine a_call hT rfl rfl rfl (by kernel_rfl) hA [] [] rfl rfl ?_
  rintro _ _ ⟨rfl, rfl⟩
  refine a_app hT 31 _ rfl rfl rfl rfl (by kernel_rfl) rfl rfl rfl rfl rfl rfl (by first | (simp; done) | (simp; omega) | (simp; unfold lim; omega) | (simp; assumption)) fun v1 => ?_
  refine a_end hT [30, 31] rfl rfl rfl rfl rfl rfl ?_
  exact ⟨v1, rfl, by unfold addC; rw [List.map_append]⟩
def EncS (s : SchP) : VL → Prop
  | .msg ty fs u => ∀ dep : Int, 0 ≤ ty → fitsP s (.msg ty fs u) ty dep = true → wtV (.msg ty fs u) ≤ 700000 → FSpec Tryz.prog 43 [schA s, msgA ty fs u] [] fun a cs => a = .d (A.bytesD (encM s (.msg ty fs u))) ∧ cs = []
  | .none | .int _ | .uint _ | .bool _ | .text _ | .bytes _ | .enum _ => True
theorem message_ind {s : SchP} (hs : SchOk s) : ∀ {v : VL}, WfV v → EncS s v := by
  intro v hv
  induction hv with
  | msg h1 h2 h3 h4 h5 ih =>
    rename_i ty fs unk
    intro dep ht0 hfit hwt
    unfold fitsP at hfit
    rw [Bool.and_eq_true, Bool.and_eq_true] at hfit
    obtain ⟨_, hf⟩ := hfit
    cases hm : s.ms[ty.toNat]? with
    | none => rw [hm] at hf; cases hf
    | some d =>
    rw [hm] at hf
    dsimp only at hf
    rw [Bool.and_eq_true] at hf
    have hf := hf.2
    have hdm : d ∈ s.ms := List.mem_of_getElem? hm
    have hd : dAt s ty = d := by unfold dAt; rw [hm]; rfl
    have hfo := hs.fs d hdm
    rw [encM_msg, hd]
    rw [wtV_msg] at hwt
    have hat0 : (s.ms.map eM)[ty.toNat]? = some (eM d) := by rw [List.getElem?_map, hm]; rfl
    have hlen : (vfsD fs).length = fs.length := vfsD_len fs
    refine FSpec.freeze (hh := 31) (e := 5) (k := 1) ?_
    refine a_enter hT [schA s, msgA ty fs unk] [] Tryz.func43 rfl rfl rfl ⟨Fit.refl _, Fit.refl _, trivial⟩ fun c' => ?_
    refine a_box hT 20 rfl rfl rfl rfl fun g1 => ?_
    refine a_box hT 21 rfl rfl rfl rfl fun g2 => ?_
    refine a_freezeK 2 20 rfl rfl rfl rfl rfl ?_
    refine a_freezeK 3 21 rfl rfl rfl rfl rfl ?_
    refine a_new hT hZ 30 rfl rfl rfl rfl fun g => ?_
    refine a_nilrowB 30 0 31 5 1 rfl rfl rfl ?_
    refine a_loop hT [2, 3, 5, 6, 18, 19, 20] (fun x : Nat × Value => [.d (.p (schD s)), .d (.p (msgD ty fs unk)), .v (.pointer (some ⟨g, 0, none⟩)) 30, .fn 87 [.v (.pointer (some ⟨g, 0, none⟩)) 30], .d (.sl 2 (vfsD fs)), .v (kI fs.length) 0, .v (kI x.1) 0]) (fun x => [(30, .blk g 27 [.row x.2 31]), (31, .row x.2 5 1 ((encFs s d (fs.take x.1)).map eB))]) (fun x => x.1 ≤ fs.length) (fun x => fs.length - x.1) (0, .slice none 0 0) [30, 31] rfl rfl (Nat.zero_le _) ⟨rfl, rfl, rfl, Fit.refl _, rfl, by rw [← hlen]; rfl, rfl, trivial⟩ rfl ⟨⟨rfl, rfl, rfl, trivial⟩, ⟨rfl, rfl, rfl, by rw [List.take_zero, encFs_nil]; rfl⟩, trivial⟩ ?_
    rintro ⟨i, w⟩ i2
    dsimp only at i2
    have hw := wN i (by omega)
    have hel := encFs_len s d (fs.take i)
    have hwl := wtFs_take fs i
    rcases Nat.lt_or_ge i fs.length with hil | hil
    · have hat : (vfsD fs)[(i : Int).toNat]? = some (vfD fs[i]) := by rw [vfsD_map, Int.toNat_natCast, List.getElem?_map, List.getElem?_eq_getElem hil]; rfl
      have hmem := List.getElem_mem hil
      have htk : fs.take (i + 1) = fs.take i ++ [fs[i]] := List.take_succ_eq_append_getElem hil
      generalize fs[i] = x at hat hmem htk
      obtain ⟨num, vs⟩ := x
      have hnum := h3 num vs hmem
      have hvl := h2 num vs hmem
      obtain ⟨_, f, hff, hne, hrl, hfv⟩ := fitsFs_mem hf num vs hmem
      have hFi := Find_spec (d := d) (num := num) hfo hnum
      rw [hff] at hFi
      have hlv : (vlsD vs).length = vs.length := by rw [vlsD_map, List.length_map]
      have hwm := wtFs_mem hmem
      rw [wtF_mk] at hwm
      have hfn := hfo.rng f (findF_num hff).2
      have hat2 : fAt d num = f := by unfold fAt; rw [hff]; rfl
      have henc : encFs s d (fs.take (i + 1)) = encFs s d (fs.take i) ++ (if f.rep && packedK f.kind then appW ⟨f.num.toNat, 2, 0, packVs s f vs⟩ else encVs s f vs) := by
        rw [htk, encFs_app, encFs_cons, encF_mk, hat2, encFs_nil, List.append_nil]
      refine a_t hT rfl rfl (decide_eq_true (by show (i : Int) < (fs.length : Int); omega)) ?_
      refine a_ix hT _ rfl rfl rfl rfl rfl rfl (by omega) hat ?_
      refine a_new hT hZ 41 rfl rfl rfl rfl fun g4 => ?_
      refine a_run hT 1 rfl rfl ?_
      refine a_freezeK 8 41 rfl rfl rfl rfl rfl ?_
      refine a_treeN hT [2, 3, 5, 6, 8, 9, 18, 19, 20] (fun h : Nat => [.d (.p (schD s)), .d (.p (msgD ty fs unk)), .v (.pointer (some ⟨g, 0, none⟩)) 30, .fn 87 [.v (.pointer (some ⟨g, 0, none⟩)) 30], .d (.p (vfD (.mk num vs))), .v (.pointer (some ⟨h, 0, none⟩)) 42, .d (.sl 2 (vfsD fs)), .v (kI fs.length) 0, .v (kI i) 0]) (fun h => [(30, .blk g 27 [.row w 31]), (31, .row w 5 1 ((encFs s d (fs.take i)).map eB)), (42, .blk h 68 ((eF f).map nd))]) (fun _ => True) [] 15 [(0, false), (2, false), (6, false), (1, false), (3, false), (7, false), (4, false), (5, false)] rfl rfl (by kernel_rfl) (by kernel_rfl) rfl ?_ ?_
      · refine a_ix hT _ rfl rfl rfl rfl rfl rfl (by first | omega | assumption) (by first | assumption | rfl) ?_
        refine a_alt hT [([(8, true), (9, false), (10, false), (11, false), (12, true), (13, true), (14, true)], true), ([(12, true), (8, true), (9, true), (10, false), (11, false), (13, true), (14, true)], true)] rfl rfl (by kernel_rfl) ⟨?_, ?_, trivial⟩
        · refine a_call hT rfl rfl rfl (by kernel_rfl) hFi [] [] rfl rfl ?_
          rintro _ _ ⟨rfl, rfl⟩
          refine a_new hT hZ 32 rfl rfl rfl rfl fun g3 => ?_
          exact a_next hT g3 [30, 31, 32] rfl rfl trivial ⟨rfl, rfl, rfl, Fit.refl _, rfl, rfl, rfl, rfl, rfl, trivial⟩ rfl ⟨⟨rfl, rfl, rfl, trivial⟩, ⟨rfl, rfl, rfl, rfl⟩, ⟨rfl, rfl, rfl, rfl, rfl, rfl, rfl, trivial⟩, trivial⟩
        · refine a_new hT hZ 32 rfl rfl rfl rfl fun g3 => ?_
          refine a_call hT rfl rfl rfl (by kernel_rfl) hFi [] [] rfl rfl ?_
          rintro _ _ ⟨rfl, rfl⟩
          exact a_next hT g3 [30, 31, 32] rfl rfl trivial ⟨rfl, rfl, rfl, Fit.refl _, rfl, rfl, rfl, rfl, rfl, trivial⟩ rfl ⟨⟨rfl, rfl, rfl, trivial⟩, ⟨rfl, rfl, rfl, rfl⟩, ⟨rfl, rfl, rfl, rfl, rfl, rfl, rfl, trivial⟩, trivial⟩
      rintro g5 _
      refine a_freezeK 9 42 rfl rfl rfl rfl rfl ?_
      have hPk := Packed_spec (k := f.kind)
      obtain ⟨fnum, fname, fkind, frep, fty⟩ := f
      dsimp only at hPk henc hfn
      cases frep with
      | false =>
        refine a_gt hT rfl rfl rfl rfl ?_
        refine a_t hT rfl rfl rfl ?_
        refine a_loop hT [2, 3, 5, 6, 8, 9, 18, 19, 20, 46, 47, 48] (fun x : Nat × Value => [.d (.p (schD s)), .d (.p (msgD ty fs unk)), .v (.pointer (some ⟨g, 0, none⟩)) 30, .fn 87 [.v (.pointer (some ⟨g, 0, none⟩)) 30], .d (.p (vfD (.mk num vs))), .d (.p (eF ⟨fnum, fname, fkind, false, fty⟩)), .d (.sl 2 (vfsD fs)), .v (kI fs.length) 0, .v (kI i) 0, .d (.sl 1 (vlsD vs)), .v (kI vs.length) 0, .v (kI x.1) 0]) (fun x => [(30, .blk g 27 [.row x.2 31]), (31, .row x.2 5 1 ((encFs s d (fs.take i) ++ encVs s ⟨fnum, fname, fkind, false, fty⟩ (vs.take x.1)).map eB))]) (fun x => x.1 ≤ vs.length) (fun x => vs.length - x.1) (0, w) [30, 31] rfl rfl (Nat.zero_le _) ⟨rfl, rfl, rfl, Fit.refl _, rfl, rfl, rfl, rfl, rfl, rfl, by rw [← hlv]; rfl, rfl, trivial⟩ rfl ⟨⟨rfl, rfl, rfl, trivial⟩, ⟨rfl, rfl, rfl, by rw [List.take_zero, encVs_nil, List.append_nil]⟩, trivial⟩ ?_
        rintro ⟨j, w1⟩ j2
        dsimp only at j2
        have hwj := wN j (by omega)
        have hvl2 := encVs_len s ⟨fnum, fname, fkind, false, fty⟩ (vs.take j)
        have hwt2 := wtVs_take vs j
        rcases Nat.lt_or_ge j vs.length with hjl | hjl
        · have hatj : (vlsD vs)[(j : Int).toNat]? = some [vlD vs[j]] := by rw [vlsD_map, Int.toNat_natCast, List.getElem?_map, List.getElem?_eq_getElem hjl]; rfl
          have hmv := List.getElem_mem hjl
          have htj : vs.take (j + 1) = vs.take j ++ [vs[j]] := List.take_succ_eq_append_getElem hjl
          have hone := fitsVs_mem hfv _ hmv
          have hih := ih num vs _ hmem hmv
          have hwv := h5 num vs _ hmem hmv
          have hwtv := wtVs_mem hmv
          generalize vs[j] = v at hatj hmv htj hone hih hwv hwtv
          have hE : encVs s ⟨fnum, fname, fkind, false, fty⟩ (vs.take (j + 1)) = encVs s ⟨fnum, fname, fkind, false, fty⟩ (vs.take j) ++ appW (mkW ⟨fnum, fname, fkind, false, fty⟩ v (encM s v)) := by rw [htj, encVs_app, encVs_cons, encVs_nil, List.append_nil]
          have hM : ∀ ty fs u, v = .msg ty fs u → FSpec Tryz.prog 43 [schA s, msgA ty fs u] [] fun a cs => a = .d (A.bytesD (encM s v)) ∧ cs = [] := by
            rintro ty2 fs2 u2 rfl
            rw [show ∀ r, oneK ⟨fnum, fname, fkind, false, fty⟩ r (.msg ty2 fs2 u2) = (decide (fkind = 10) && r) from fun _ => rfl, Bool.and_eq_true] at hone
            have hk10 := of_decide_eq_true hone.1
            have hty := hs.ty d hdm _ (findF_num hff).2 hk10
            dsimp only at hty
            have hfv2 := hone.2
            have hte : ty2 = fty := by
              unfold fitsP at hfv2
              rw [Bool.and_eq_true, Bool.and_eq_true] at hfv2
              exact of_decide_eq_true hfv2.1.1
            subst hte
            exact hih (dep + 1) hty.1 hfv2 (by omega)
          have hFl := field_spec (s := s) (f := ⟨fnum, fname, fkind, false, fty⟩) (m := encM s v) (by show 0 ≤ fnum; omega) hwv hM
          have hlen2 := encM_len s v
          have hAd := add_spec (x := mkW ⟨fnum, fname, fkind, false, fty⟩ v (encM s v)) (g := g) (v := w1) (l := encFs s d (fs.take i) ++ encVs s ⟨fnum, fname, fkind, false, fty⟩ (vs.take j)) (by show (dataW (encM s v) v).length ≤ _; omega) (numW_lt hwv) (by rw [List.length_append]; omega)
          refine a_t hT rfl rfl (decide_eq_true (by show (j : Int) < (vs.length : Int); omega)) ?_
          refine a_ix hT _ rfl rfl rfl rfl rfl rfl (by omega) hatj ?_
          refine a_call hT rfl rfl rfl (by kernel_rfl) hFl [] [] rfl rfl ?_
          rintro _ _ ⟨rfl, rfl⟩
          refine a_callv hT rfl rfl rfl rfl (by kernel_rfl) hAd [30, 31] [30, 31] rfl rfl ?_
          rintro _ _ ⟨w2, rfl, rfl⟩
          exact a_next hT (j + 1, w2) [30, 31] rfl rfl ⟨by show j + 1 ≤ vs.length; omega, by show vs.length - (j + 1) < vs.length - j; omega⟩ ⟨rfl, rfl, rfl, Fit.refl _, rfl, rfl, rfl, rfl, rfl, rfl, rfl, by show Value.int .i64 _ = Value.int .i64 _; rw [hwj], trivial⟩ rfl ⟨⟨rfl, rfl, rfl, trivial⟩, ⟨rfl, rfl, rfl, by show _ = (encFs s d (fs.take i) ++ encVs s ⟨fnum, fname, fkind, false, fty⟩ (vs.take (j + 1))).map eB; rw [hE, List.append_assoc]⟩, trivial⟩
        · refine a_f hT rfl rfl (decide_eq_false (by show ¬ (j : Int) < (vs.length : Int); omega)) ?_
          have hj : j = vs.length := by omega
          subst hj
          exact a_next hT (i + 1, w1) [30, 31] rfl rfl ⟨by show i + 1 ≤ fs.length; omega, by show fs.length - (i + 1) < fs.length - i; omega⟩ ⟨rfl, rfl, rfl, Fit.refl _, rfl, rfl, by show Value.int .i64 _ = Value.int .i64 _; rw [hw], trivial⟩ rfl ⟨⟨rfl, rfl, rfl, trivial⟩, ⟨rfl, rfl, rfl, by show (encFs s d (fs.take i) ++ encVs s ⟨fnum, fname, fkind, false, fty⟩ (vs.take vs.length)).map eB = (encFs s d (fs.take (i + 1))).map eB; rw [henc, List.take_length, if_neg (by simp)]⟩, trivial⟩
      | true =>
        cases hpk : packedK fkind with
        | false =>
          rw [hpk] at hPk
          refine a_gf hT rfl rfl rfl rfl ?_
          refine a_call hT rfl rfl rfl (by kernel_rfl) hPk [] [] rfl rfl ?_
          rintro _ _ ⟨rfl, rfl⟩
          refine a_t hT rfl rfl rfl ?_
          refine a_loop hT [2, 3, 5, 6, 8, 9, 18, 19, 20, 46, 47, 48] (fun x : Nat × Value => [.d (.p (schD s)), .d (.p (msgD ty fs unk)), .v (.pointer (some ⟨g, 0, none⟩)) 30, .fn 87 [.v (.pointer (some ⟨g, 0, none⟩)) 30], .d (.p (vfD (.mk num vs))), .d (.p (eF ⟨fnum, fname, fkind, true, fty⟩)), .d (.sl 2 (vfsD fs)), .v (kI fs.length) 0, .v (kI i) 0, .d (.sl 1 (vlsD vs)), .v (kI vs.length) 0, .v (kI x.1) 0]) (fun x => [(30, .blk g 27 [.row x.2 31]), (31, .row x.2 5 1 ((encFs s d (fs.take i) ++ encVs s ⟨fnum, fname, fkind, true, fty⟩ (vs.take x.1)).map eB))]) (fun x => x.1 ≤ vs.length) (fun x => vs.length - x.1) (0, w) [30, 31] rfl rfl (Nat.zero_le _) ⟨rfl, rfl, rfl, Fit.refl _, rfl, rfl, rfl, rfl, rfl, rfl, by rw [← hlv]; rfl, rfl, trivial⟩ rfl ⟨⟨rfl, rfl, rfl, trivial⟩, ⟨rfl, rfl, rfl, by rw [List.take_zero, encVs_nil, List.append_nil]⟩, trivial⟩ ?_
          rintro ⟨j, w1⟩ j2
          dsimp only at j2
          have hwj := wN j (by omega)
          have hvl2 := encVs_len s ⟨fnum, fname, fkind, true, fty⟩ (vs.take j)
          have hwt2 := wtVs_take vs j
          rcases Nat.lt_or_ge j vs.length with hjl | hjl
          · have hatj : (vlsD vs)[(j : Int).toNat]? = some [vlD vs[j]] := by rw [vlsD_map, Int.toNat_natCast, List.getElem?_map, List.getElem?_eq_getElem hjl]; rfl
            have hmv := List.getElem_mem hjl
            have htj : vs.take (j + 1) = vs.take j ++ [vs[j]] := List.take_succ_eq_append_getElem hjl
            have hone := fitsVs_mem hfv _ hmv
            have hih := ih num vs _ hmem hmv
            have hwv := h5 num vs _ hmem hmv
            have hwtv := wtVs_mem hmv
            generalize vs[j] = v at hatj hmv htj hone hih hwv hwtv
            have hE : encVs s ⟨fnum, fname, fkind, true, fty⟩ (vs.take (j + 1)) = encVs s ⟨fnum, fname, fkind, true, fty⟩ (vs.take j) ++ appW (mkW ⟨fnum, fname, fkind, true, fty⟩ v (encM s v)) := by rw [htj, encVs_app, encVs_cons, encVs_nil, List.append_nil]
            have hM : ∀ ty fs u, v = .msg ty fs u → FSpec Tryz.prog 43 [schA s, msgA ty fs u] [] fun a cs => a = .d (A.bytesD (encM s v)) ∧ cs = [] := by
              rintro ty2 fs2 u2 rfl
              rw [show ∀ r, oneK ⟨fnum, fname, fkind, true, fty⟩ r (.msg ty2 fs2 u2) = (decide (fkind = 10) && r) from fun _ => rfl, Bool.and_eq_true] at hone
              have hk10 := of_decide_eq_true hone.1
              have hty := hs.ty d hdm _ (findF_num hff).2 hk10
              dsimp only at hty
              have hfv2 := hone.2
              have hte : ty2 = fty := by
                unfold fitsP at hfv2
                rw [Bool.and_eq_true, Bool.and_eq_true] at hfv2
                exact of_decide_eq_true hfv2.1.1
              subst hte
              exact hih (dep + 1) hty.1 hfv2 (by omega)
            have hFl := field_spec (s := s) (f := ⟨fnum, fname, fkind, true, fty⟩) (m := encM s v) (by show 0 ≤ fnum; omega) hwv hM
            have hlen2 := encM_len s v
            have hAd := add_spec (x := mkW ⟨fnum, fname, fkind, true, fty⟩ v (encM s v)) (g := g) (v := w1) (l := encFs s d (fs.take i) ++ encVs s ⟨fnum, fname, fkind, true, fty⟩ (vs.take j)) (by show (dataW (encM s v) v).length ≤ _; omega) (numW_lt hwv) (by rw [List.length_append]; omega)
            refine a_t hT rfl rfl (decide_eq_true (by show (j : Int) < (vs.length : Int); omega)) ?_
            refine a_ix hT _ rfl rfl rfl rfl rfl rfl (by omega) hatj ?_
            refine a_call hT rfl rfl rfl (by kernel_rfl) hFl [] [] rfl rfl ?_
            rintro _ _ ⟨rfl, rfl⟩
            refine a_callv hT rfl rfl rfl rfl (by kernel_rfl) hAd [30, 31] [30, 31] rfl rfl ?_
            rintro _ _ ⟨w2, rfl, rfl⟩
            exact a_next hT (j + 1, w2) [30, 31] rfl rfl ⟨by show j + 1 ≤ vs.length; omega, by show vs.length - (j + 1) < vs.length - j; omega⟩ ⟨rfl, rfl, rfl, Fit.refl _, rfl, rfl, rfl, rfl, rfl, rfl, rfl, by show Value.int .i64 _ = Value.int .i64 _; rw [hwj], trivial⟩ rfl ⟨⟨rfl, rfl, rfl, trivial⟩, ⟨rfl, rfl, rfl, by show _ = (encFs s d (fs.take i) ++ encVs s ⟨fnum, fname, fkind, true, fty⟩ (vs.take (j + 1))).map eB; rw [hE, List.append_assoc]⟩, trivial⟩
          · refine a_f hT rfl rfl (decide_eq_false (by show ¬ (j : Int) < (vs.length : Int); omega)) ?_
            have hj : j = vs.length := by omega
            subst hj
            exact a_next hT (i + 1, w1) [30, 31] rfl rfl ⟨by show i + 1 ≤ fs.length; omega, by show fs.length - (i + 1) < fs.length - i; omega⟩ ⟨rfl, rfl, rfl, Fit.refl _, rfl, rfl, by show Value.int .i64 _ = Value.int .i64 _; rw [hw], trivial⟩ rfl ⟨⟨rfl, rfl, rfl, trivial⟩, ⟨rfl, rfl, rfl, by show (encFs s d (fs.take i) ++ encVs s ⟨fnum, fname, fkind, true, fty⟩ (vs.take vs.length)).map eB = (encFs s d (fs.take (i + 1))).map eB; rw [henc, List.take_length, if_neg (by simp [hpk])]⟩, trivial⟩
        | true =>
          rw [hpk] at hPk
          refine a_gf hT rfl rfl rfl rfl ?_
          refine a_call hT rfl rfl rfl (by kernel_rfl) hPk [] [] rfl rfl ?_
          rintro _ _ ⟨rfl, rfl⟩
          refine a_f hT rfl rfl rfl ?_
          first
            | (refine a_run hT 5 rfl rfl ?_; refine a_asL 13 (b := .d (A.bytesD [])) rfl (le_nil (h := 0)) ?_)
            | (refine a_run hT 6 rfl rfl ?_; refine a_asL 13 (b := .d (A.bytesD [])) rfl (le_nil (h := 0)) ?_)
            | (refine a_run hT 7 rfl rfl ?_; refine a_asL 13 (b := .d (A.bytesD [])) rfl (le_nil (h := 0)) ?_)
            | (refine a_run hT 8 rfl rfl ?_; refine a_asL 13 (b := .d (A.bytesD [])) rfl (le_nil (h := 0)) ?_)
            | (refine a_run hT 9 rfl rfl ?_; refine a_asL 13 (b := .d (A.bytesD [])) rfl (le_nil (h := 0)) ?_)
            | (refine a_run hT 10 rfl rfl ?_; refine a_asL 13 (b := .d (A.bytesD [])) rfl (le_nil (h := 0)) ?_)
            | (refine a_run hT 11 rfl rfl ?_; refine a_asL 13 (b := .d (A.bytesD [])) rfl (le_nil (h := 0)) ?_)
            | (refine a_run hT 12 rfl rfl ?_; refine a_asL 13 (b := .d (A.bytesD [])) rfl (le_nil (h := 0)) ?_)
            | (refine a_run hT 13 rfl rfl ?_; refine a_asL 13 (b := .d (A.bytesD [])) rfl (le_nil (h := 0)) ?_)
            | (refine a_run hT 14 rfl rfl ?_; refine a_asL 13 (b := .d (A.bytesD [])) rfl (le_nil (h := 0)) ?_)
            | (refine a_run hT 15 rfl rfl ?_; refine a_asL 13 (b := .d (A.bytesD [])) rfl (le_nil (h := 0)) ?_)
          refine a_loop hT [2, 3, 5, 6, 8, 9, 13, 18, 19, 20, 60, 61, 62] (fun j : Nat × Unit => [.d (.p (schD s)), .d (.p (msgD ty fs unk)), .v (.pointer (some ⟨g, 0, none⟩)) 30, .fn 87 [.v (.pointer (some ⟨g, 0, none⟩)) 30], .d (.p (vfD (.mk num vs))), .d (.p (eF ⟨fnum, fname, fkind, true, fty⟩)), .d (A.bytesD (packVs s ⟨fnum, fname, fkind, true, fty⟩ (vs.take j.1))), .d (.sl 2 (vfsD fs)), .v (kI fs.length) 0, .v (kI i) 0, .d (.sl 1 (vlsD vs)), .v (kI vs.length) 0, .v (kI j.1) 0]) (fun _ => [(30, .blk g 27 [.row w 31]), (31, .row w 5 1 ((encFs s d (fs.take i)).map eB))]) (fun j => j.1 ≤ vs.length) (fun j => vs.length - j.1) (0, ()) [30, 31] rfl rfl (Nat.zero_le _) ⟨rfl, rfl, rfl, Fit.refl _, rfl, rfl, by rw [List.take_zero, packVs_nil]; exact Fit.refl _, rfl, rfl, rfl, rfl, by rw [← hlv]; rfl, rfl, trivial⟩ rfl ⟨⟨rfl, rfl, rfl, trivial⟩, ⟨rfl, rfl, rfl, rfl⟩, trivial⟩ ?_
          rintro ⟨j, w1⟩ j2
          dsimp only at j2
          have hwj := wN j (by omega)
          have hvl2 := packVs_len s ⟨fnum, fname, fkind, true, fty⟩ (vs.take j)
          have hwt2 := wtVs_take vs j
          rcases Nat.lt_or_ge j vs.length with hjl | hjl
          · have hatj : (vlsD vs)[(j : Int).toNat]? = some [vlD vs[j]] := by rw [vlsD_map, Int.toNat_natCast, List.getElem?_map, List.getElem?_eq_getElem hjl]; rfl
            have hmv := List.getElem_mem hjl
            have htj : vs.take (j + 1) = vs.take j ++ [vs[j]] := List.take_succ_eq_append_getElem hjl
            have hone := fitsVs_mem hfv _ hmv
            have hih := ih num vs _ hmem hmv
            have hwv := h5 num vs _ hmem hmv
            have hwtv := wtVs_mem hmv
            generalize vs[j] = v at hatj hmv htj hone hih hwv hwtv
            have hE : packVs s ⟨fnum, fname, fkind, true, fty⟩ (vs.take (j + 1)) = packVs s ⟨fnum, fname, fkind, true, fty⟩ (vs.take j) ++ packW (mkW ⟨fnum, fname, fkind, true, fty⟩ v (encM s v)) := by rw [htj, packVs_app, packVs_cons, packVs_nil, List.append_nil]
            have hM : ∀ ty fs u, v = .msg ty fs u → FSpec Tryz.prog 43 [schA s, msgA ty fs u] [] fun a cs => a = .d (A.bytesD (encM s v)) ∧ cs = [] := by
              rintro ty2 fs2 u2 rfl
              rw [show ∀ r, oneK ⟨fnum, fname, fkind, true, fty⟩ r (.msg ty2 fs2 u2) = (decide (fkind = 10) && r) from fun _ => rfl, Bool.and_eq_true] at hone
              have hk10 := of_decide_eq_true hone.1
              have hty := hs.ty d hdm _ (findF_num hff).2 hk10
              dsimp only at hty
              have hfv2 := hone.2
              have hte : ty2 = fty := by
                unfold fitsP at hfv2
                rw [Bool.and_eq_true, Bool.and_eq_true] at hfv2
                exact of_decide_eq_true hfv2.1.1
              subst hte
              exact hih (dep + 1) hty.1 hfv2 (by omega)
            have hFl := field_spec (s := s) (f := ⟨fnum, fname, fkind, true, fty⟩) (m := encM s v) (by show 0 ≤ fnum; omega) hwv hM
            have hlen2 := encM_len s v
            have hPa := pack_spec (l := packVs s ⟨fnum, fname, fkind, true, fty⟩ (vs.take j)) (x := mkW ⟨fnum, fname, fkind, true, fty⟩ v (encM s v)) (by omega) (numW_lt hwv)
            rw [← hE] at hPa
            refine a_t hT rfl rfl (decide_eq_true (by show (j : Int) < (vs.length : Int); omega)) ?_
            refine a_ix hT _ rfl rfl rfl rfl rfl rfl (by omega) hatj ?_
            refine a_call hT rfl rfl rfl (by kernel_rfl) hFl [] [] rfl rfl ?_
            rintro _ _ ⟨rfl, rfl⟩
            refine a_call hT rfl rfl rfl (by kernel_rfl) hPa [] [] rfl rfl ?_
            rintro _ _ ⟨rfl, rfl⟩
            exact a_next hT (j + 1, ()) [30, 31] rfl rfl ⟨by show j + 1 ≤ vs.length; omega, by show vs.length - (j + 1) < vs.length - j; omega⟩ ⟨rfl, rfl, rfl, Fit.refl _, rfl, rfl, Fit.refl _, rfl, rfl, rfl, rfl, rfl, by show Value.int .i64 _ = Value.int .i64 _; rw [hwj], trivial⟩ rfl ⟨⟨rfl, rfl, rfl, trivial⟩, ⟨rfl, rfl, rfl, rfl⟩, trivial⟩
          · refine a_f hT rfl rfl (decide_eq_false (by show ¬ (j : Int) < (vs.length : Int); omega)) ?_
            have hj : j = vs.length := by omega
            subst hj
            dsimp only
            rw [List.take_length] at hvl2 ⊢
            have hAd := add_spec (x := ⟨fnum.toNat, 2, 0, packVs s ⟨fnum, fname, fkind, true, fty⟩ vs⟩) (g := g) (v := w) (l := encFs s d (fs.take i)) (by dsimp only; omega) (by dsimp only; omega) (by omega)
            have hfw : fwA ⟨fnum.toNat, 2, 0, packVs s ⟨fnum, fname, fkind, true, fty⟩ vs⟩ = .agg [.v (kI fnum) 0, .v (kI 2) 0, .v (kU 0) 0, .d (A.bytesD (packVs s ⟨fnum, fname, fkind, true, fty⟩ vs))] := by
              unfold fwA
              dsimp only
              rw [Int.toNat_of_nonneg (by omega)]
              rfl
            rw [hfw] at hAd
            refine a_build hT hZ [.v (kI fnum) 0, .v (kI 2) 0, .v (kU 0) 0, .d (A.bytesD (packVs s ⟨fnum, fname, fkind, true, fty⟩ vs))] rfl rfl rfl rfl rfl rfl ?_
            refine a_callv hT rfl rfl rfl rfl (by kernel_rfl) hAd [30, 31] [30, 31] rfl rfl ?_
            rintro _ _ ⟨w2, rfl, rfl⟩
            exact a_next hT (i + 1, w2) [30, 31] rfl rfl ⟨by show i + 1 ≤ fs.length; omega, by show fs.length - (i + 1) < fs.length - i; omega⟩ ⟨rfl, rfl, rfl, Fit.refl _, rfl, rfl, by show Value.int .i64 _ = Value.int .i64 _; rw [hw], trivial⟩ rfl ⟨⟨rfl, rfl, rfl, trivial⟩, ⟨rfl, rfl, rfl, by show _ = (encFs s d (fs.take (i + 1))).map eB; rw [henc, if_pos (by simp [hpk])]⟩, trivial⟩
    · refine a_f hT rfl rfl (decide_eq_false (by show ¬ (i : Int) < (fs.length : Int); omega)) ?_
      have hi : i = fs.length := by omega
      subst hi
      rw [List.take_length] at hel ⊢
      have hus : unk.data.toList.length = unk.size := rfl
      refine a_appS hT 31 _ rfl rfl rfl rfl rfl (by kernel_rfl) rfl rfl rfl rfl rfl (by rw [List.length_map]; unfold lim; omega) fun v1 => ?_
      refine a_ret hT [31] rfl rfl rfl rfl rfl rfl ?_
      exact ⟨v1, rfl, by rw [List.map_append]⟩
  | _ => exact trivial
end Go.Proofs.YtjcolfogmmjaoaaGreatDoor
end

section
set_option linter.unusedVariables false
set_option linter.unusedSimpArgs false
set_option maxRecDepth 100000
set_option maxHeartbeats 2000000
namespace Go.Proofs.YtjcolfogmmjaoaaGreatDoor
open V A
def encA (r : List UInt8 × Int) : AV := .tup [.d (A.bytesD r.1), .v (kI r.2) 0]
theorem fits_msg {s : SchP} {v : VL} {t : Int} (h : fitsTop s v t = true) : ∃ fs u, v = .msg t fs u ∧ formedP s = true ∧ 0 ≤ t ∧ t < s.ms.length ∧ fitsP s v t 1 = true := by
  unfold fitsTop at h
  rw [Bool.and_eq_true, Bool.and_eq_true, Bool.and_eq_true] at h
  obtain ⟨f1, f2, f3, f4⟩ := h
  cases v with
  | msg ty fs u =>
    have hte : ty = t := by
      have f5 := f4
      unfold fitsP at f5
      rw [Bool.and_eq_true, Bool.and_eq_true] at f5
      exact of_decide_eq_true f5.1.1
    subst hte
    exact ⟨fs, u, rfl, f1, of_decide_eq_true f2, of_decide_eq_true f3, f4⟩
  | _ => exact absurd f4 (by unfold fitsP; simp)
theorem Encode_spec {s : SchP} (hz : SzS s) {v : VL} (hv : WfV v) (hw : wtV v ≤ 700000) {t : Int} : FSpec Tryz.prog 23 [schA s, .v (kI t) 0, nd (vlD v)] [u8C] fun a cs => a = encA (encTop s v t) ∧ cs = [u8C] := by
  refine FSpec.le ?_
  have hN := Normal_spec hz hv (t := t)
  unfold encTop
  unfold normA at hN
  refine a_enter hT [schA s, .v (kI t) 0, nd (vlD v)] [60] Tryz.func23 rfl rfl rfl ⟨Fit.refl _, rfl, Fit.refl _, trivial⟩ fun c' => ?_
  cases hfo : fitsTop s v t with
  | false =>
    rw [hfo] at hN
    rw [if_neg (by decide)] at hN ⊢
    refine a_box hT 61 rfl rfl rfl rfl fun g => ?_
    refine a_call hT rfl rfl rfl (by kernel_rfl) hN [60] [60] rfl rfl ?_
    rintro _ _ ⟨rfl, rfl⟩
    refine a_t hT rfl rfl rfl ?_
    refine a_ret hT [60] rfl rfl rfl rfl rfl rfl ?_
    exact ⟨_, Le.tup (.cons le_nil (.cons (Le.refl _) .nil)), rfl, rfl⟩
  | true =>
    rw [hfo] at hN
    rw [if_pos rfl] at hN ⊢
    have hnf := norm_top hfo
    have hnw := norm_wf s v hv
    have hnt := norm_wt s v
    generalize normP s v = w at hN hnf hnw hnt
    obtain ⟨fs, u, rfl, hform, ht0, _, hft⟩ := fits_msg hnf
    have hMu := Must_spec (ty := t) (fs := fs) (u := u)
    have hMe := message_ind (schOk hform) hnw 1 ht0 hft (by omega)
    have hel : (encM s (.msg t fs u)).length + 60 ≤ wtV (.msg t fs u) := encM_len s (.msg t fs u)
    have hbl := bytesD_len (encM s (.msg t fs u))
    generalize encM s (.msg t fs u) = bs at hMe hel hbl
    refine a_box hT 61 rfl rfl rfl rfl fun g => ?_
    refine a_call hT rfl rfl rfl (by kernel_rfl) hN [60] [60] rfl rfl ?_
    rintro _ _ ⟨rfl, rfl⟩
    refine a_f hT rfl rfl rfl ?_
    refine a_draw hT [60] false [(0, false), (1, false), (2, true), (3, true), (4, true)] rfl rfl (by kernel_rfl) (by kernel_rfl) rfl ?_
    refine a_call hT rfl rfl rfl (by kernel_rfl) hMu [] [] rfl rfl ?_
    rintro _ _ ⟨rfl, rfl⟩
    refine a_call hT rfl rfl rfl (by kernel_rfl) hMe [] [] rfl rfl ?_
    rintro _ _ ⟨rfl, rfl⟩
    refine a_if hT rfl rfl (fun h => ?_) (fun h => ?_)
    · have h := of_decide_eq_true h
      refine a_ret hT [60] rfl rfl rfl rfl rfl rfl ?_
      rw [if_pos (by rw [hbl] at h; omega)]
      exact ⟨_, Le.tup (.cons le_nil (.cons (Le.refl _) .nil)), rfl, rfl⟩
    · have h := of_decide_eq_false h
      refine a_ret hT [60] rfl rfl rfl rfl rfl rfl ?_
      rw [if_neg (by rw [hbl] at h; omega)]
      exact ⟨_, Le.refl _, rfl, rfl⟩
end Go.Proofs.YtjcolfogmmjaoaaGreatDoor
end

section
set_option linter.unusedVariables false
set_option linter.unusedSimpArgs false
set_option maxRecDepth 100000
set_option maxHeartbeats 1000000
namespace Go.Proofs.YtjcolfogmmjaoaaGreatDoor
open V A
theorem bdLeaf {k n u : Int} {b : Bool} {s : ByteArray} (h : s.size ≤ reachN) : BdN (.mk k n u b s 0 []) := .mk h (Nat.zero_le _) (fun _ _ h => by simp at h) (fun _ _ _ h => by simp at h)
theorem Same_refl_spec {z : ND} (hz : BdN z) : FSpec Tryz.prog 17 [ndA z, ndA z] [] fun a cs => a = bA true ∧ cs = [] := by
  have := Same_spec hz (y := z)
  rw [sameN_refl] at this
  exact this
end Go.Proofs.YtjcolfogmmjaoaaGreatDoor
end

section
set_option linter.unusedVariables false
set_option linter.unusedSimpArgs false
set_option maxRecDepth 100000
set_option maxHeartbeats 1000000
namespace Go.Proofs.YtjcolfogmmjaoaaGreatDoor
open V A
section
variable {P : Program} {g : Nat} {t : TypeId} {ds : List A.Dat}
theorem sh_int {k : IntKind} (hu : P.underlying t = some (.int k)) (h : ShT P g t ds) : ∃ m, ds = [.v (.int k m)] ∧ (Lit.int k m).wf = true := by
  cases g with
  | zero => unfold ShT at h; exact h.elim
  | succ g => unfold ShT at h; simpa only [hu] using h
theorem sh_bool (hu : P.underlying t = some .bool) (h : ShT P g t ds) : ∃ b, ds = [.v (.bool b)] := by
  cases g with
  | zero => unfold ShT at h; exact h.elim
  | succ g => unfold ShT at h; simpa only [hu] using h
theorem sh_str (hu : P.underlying t = some .string) (h : ShT P g t ds) : ∃ b : ByteArray, ds = [.v (.string b)] ∧ b.size ≤ reachBytes := by
  cases g with
  | zero => unfold ShT at h; exact h.elim
  | succ g => unfold ShT at h; simpa only [hu] using h
theorem sh_sl {e : TypeId} (hu : P.underlying t = some (.slice e)) (h : ShT P g t ds) : ∃ g', g' < g ∧ ∃ xs : List (List A.Dat), ds = [.sl (P.cellsOf e) xs] ∧ xs.length ≤ reachBytes ∧ ∀ x ∈ xs, ShT P g' e x := by
  cases g with
  | zero => unfold ShT at h; exact h.elim
  | succ g => unfold ShT at h; exact ⟨g, Nat.lt_succ_self g, by simpa only [hu] using h⟩
theorem sh_st {fs : Array Field} (hu : P.underlying t = some (.struct fs)) (h : ShT P g t ds) : ∃ g', g' < g ∧ ShF P (ShT P g') fs.toList ds := by
  cases g with
  | zero => unfold ShT at h; exact h.elim
  | succ g => unfold ShT at h; exact ⟨g, Nat.lt_succ_self g, by simpa only [hu] using h⟩
end
theorem rb : reachBytes = reachN := by decide
theorem cNode : Tryz.prog.cellsOf 38 = 7 := by kernel_rfl
theorem cField : Tryz.prog.cellsOf 79 = 2 := by kernel_rfl
theorem nd_of' : ∀ (ds : List A.Dat), Les (ds.map .d) (ds.map nd)
  | [] => .nil
  | d :: ds => .cons nd_of (nd_of' ds)
theorem argT_one {w : World} {d : A.Dat} {v : Value} (h2 : A.VRep no w [d] v.cells.toList) (hf : ∀ cs, v ≠ .agg cs) : A.DRep no w d v := by
  have hc : v.cells = #[v] := by cases v <;> first | rfl | exact absurd rfl (hf _)
  rw [hc] at h2
  unfold A.VRep at h2
  obtain ⟨x, r, e, hd, hr⟩ := h2
  simp at e
  obtain ⟨rfl, _⟩ := e
  exact hd
theorem argT_int {w : World} {t : TypeId} {k : IntKind} {v : Value} (hu : Tryz.prog.underlying t = some (.int k)) (hs : isStruct Tryz.prog t = false) (h : ArgT Tryz.prog w t v) : ∃ m, v = .int k m ∧ (Lit.int k m).wf = true := by
  obtain ⟨⟨g, ds, h1, h2⟩, h3⟩ := h
  obtain ⟨m, rfl, hm⟩ := sh_int hu h1
  have := argT_one h2 (h3.2 hs)
  unfold A.DRep at this
  exact ⟨m, this.1, hm⟩
end Go.Proofs.YtjcolfogmmjaoaaGreatDoor
end

section
set_option linter.unusedVariables false
set_option linter.unusedSimpArgs false
set_option maxRecDepth 100000
set_option maxHeartbeats 1000000
namespace Go.Proofs.YtjcolfogmmjaoaaGreatDoor
open V A
inductive RgN : ND → Prop
  | mk {k n u : Int} {b : Bool} {s : ByteArray} {t : Int} {fs : List NF} : I64 k → I64 n → U64 u → I64 t → (∀ num vs, NF.mk num vs ∈ fs → I64 num) → (∀ num vs x, NF.mk num vs ∈ fs → x ∈ vs → RgN x) → RgN (.mk k n u b s t fs)
theorem wf_i64 {m : Int} (h : (Lit.int .i64 m).wf = true) : I64 m := by
  simp [Lit.wf, IntKind.min, IntKind.max, IntKind.bits, IntKind.signed] at h
  unfold I64; omega
theorem wf_u64 {m : Int} (h : (Lit.int .u64 m).wf = true) : U64 m := by
  simp [Lit.wf, IntKind.min, IntKind.max, IntKind.bits, IntKind.signed] at h
  unfold U64; omega
theorem listQ {α : Type} {e : α → List A.Dat} {Q : α → Prop} : ∀ {xs : List (List A.Dat)}, (∀ x ∈ xs, ∃ y, x = e y ∧ Q y) → ∃ ys : List α, xs = ys.map e ∧ ∀ y ∈ ys, Q y
  | [], _ => ⟨[], rfl, by simp⟩
  | x :: xs, h => by
    obtain ⟨y, e1, hy⟩ := h x (by simp)
    obtain ⟨ys, e2, hys⟩ := listQ (xs := xs) fun x hx => h x (by simp [hx])
    refine ⟨y :: ys, by rw [e1, e2]; rfl, fun z hz => ?_⟩
    rcases List.mem_cons.1 hz with rfl | hz
    · exact hy
    · exact hys z hz
theorem sh_nfR {g : Nat} (ih : ∀ g', g' < g → ∀ ds, ShT Tryz.prog g' 38 ds → ∃ x, ds = ndD x ∧ BdN x ∧ RgN x) {ds : List A.Dat} (h : ShT Tryz.prog g 79 ds) : ∃ f : NF, ds = nfD f ∧ ∀ num vs, f = .mk num vs → vs.length ≤ reachN ∧ I64 num ∧ ∀ y ∈ vs, BdN y ∧ RgN y := by
  obtain ⟨g1, hg1, h⟩ := sh_st Tryz.underlying79 h
  obtain ⟨a0, r, rfl, h0, h⟩ := h
  obtain ⟨a1, r, rfl, h1, h⟩ := h
  have h : r = [] := h
  subst h
  obtain ⟨num, rfl, hnum⟩ := sh_int Tryz.underlying3 h0
  obtain ⟨g2, hg2, xs, rfl, hl, hx⟩ := sh_sl Tryz.underlying77 h1
  obtain ⟨ys, rfl, hy⟩ := listQ (e := ndD) (Q := fun x => BdN x ∧ RgN x) fun x hx' => ih g2 (by omega) x (hx x hx')
  rw [cNode]
  refine ⟨.mk num ys, by unfold nfD; rw [ndsD_map]; rfl, fun n2 v2 e => ?_⟩
  cases e
  exact ⟨by rw [← rb]; rw [List.length_map] at hl; exact hl, wf_i64 hnum, hy⟩
theorem sh_ndR : ∀ (g : Nat) (ds : List A.Dat), ShT Tryz.prog g 38 ds → ∃ x, ds = ndD x ∧ BdN x ∧ RgN x := by
  intro g
  induction g using Nat.strongRecOn with
  | _ g ih =>
  intro ds h
  obtain ⟨g1, hg1, h⟩ := sh_st Tryz.underlying38 h
  obtain ⟨a0, r, rfl, h0, h⟩ := h
  obtain ⟨a1, r, rfl, h1, h⟩ := h
  obtain ⟨a2, r, rfl, h2, h⟩ := h
  obtain ⟨a3, r, rfl, h3, h⟩ := h
  obtain ⟨a4, r, rfl, h4, h⟩ := h
  obtain ⟨a5, r, rfl, h5, h⟩ := h
  obtain ⟨a6, r, rfl, h6, h⟩ := h
  have h : r = [] := h
  subst h
  obtain ⟨k, rfl, hk⟩ := sh_int Tryz.underlying3 h0
  obtain ⟨n, rfl, hn⟩ := sh_int Tryz.underlying2 h1
  obtain ⟨u, rfl, hu⟩ := sh_int Tryz.underlying35 h2
  obtain ⟨b, rfl⟩ := sh_bool Tryz.underlying4 h3
  obtain ⟨s, rfl, hs⟩ := sh_str Tryz.underlying9 h4
  obtain ⟨t, rfl, ht⟩ := sh_int Tryz.underlying3 h5
  obtain ⟨g2, hg2, xs, rfl, hl, hx⟩ := sh_sl Tryz.underlying36 h6
  obtain ⟨fs, rfl, hf⟩ := listQ (e := nfD) fun x hx' => sh_nfR (fun g' hg' => ih g' (by omega)) (hx x hx')
  rw [cField]
  refine ⟨.mk k n u b s t fs, by unfold ndD; rw [nfsD_map]; rfl, ?_, ?_⟩
  · exact .mk (by rw [← rb]; exact hs) (by rw [← rb]; rw [List.length_map] at hl; exact hl) (fun num vs hm => (hf _ hm num vs rfl).1) (fun num vs x hm hx => ((hf _ hm num vs rfl).2.2 x hx).1)
  · exact .mk (wf_i64 hk) (wf_i64 hn) (wf_u64 hu) (wf_i64 ht) (fun num vs hm => (hf _ hm num vs rfl).2.1) (fun num vs x hm hx => ((hf _ hm num vs rfl).2.2 x hx).2)
theorem argT_ndR {w : World} {v : Value} (h : ArgT Tryz.prog w 38 v) : ∃ x, Rep no w (ndA x) v ∧ BdN x ∧ RgN x := by
  obtain ⟨⟨g, ds, h1, h2⟩, h3⟩ := h
  obtain ⟨x, rfl, hx⟩ := sh_ndR g ds h1
  refine ⟨x, ?_, hx⟩
  rw [h3.1 (by kernel_rfl)]
  unfold ndA
  have := (nd_of' (ndD x)).reps (Reps.ofV h2)
  unfold Rep
  exact ⟨_, by simp, this, h2.one⟩
structure BdS (s : SchP) : Prop where
  ms : s.ms.length ≤ reachN
  es : s.es.length ≤ reachN
  mts : s.mts.length ≤ reachN
  m : ∀ m ∈ s.ms, m.name.size ≤ reachN ∧ m.fs.length ≤ reachN ∧ ∀ f ∈ m.fs, f.name.size ≤ reachN ∧ I64 f.num ∧ I64 f.kind ∧ I64 f.ty
  e : ∀ e ∈ s.es, e.name.size ≤ reachN ∧ e.vs.length ≤ reachN ∧ ∀ v ∈ e.vs, v.name.size ≤ reachN ∧ I64 v.num
  t : ∀ t ∈ s.mts, t.svc.size ≤ reachN ∧ t.name.size ≤ reachN ∧ I64 t.id ∧ I64 t.inn ∧ I64 t.out
theorem cFD : Tryz.prog.cellsOf 68 = 5 := by kernel_rfl
theorem cMD : Tryz.prog.cellsOf 57 = 2 := by kernel_rfl
theorem cED : Tryz.prog.cellsOf 82 = 2 := by kernel_rfl
theorem cVD : Tryz.prog.cellsOf 84 = 2 := by kernel_rfl
theorem cTD : Tryz.prog.cellsOf 86 = 5 := by kernel_rfl
theorem sh_fd {g : Nat} {ds : List A.Dat} (h : ShT Tryz.prog g 68 ds) : ∃ f : FDP, ds = eF f ∧ f.name.size ≤ reachN ∧ I64 f.num ∧ I64 f.kind ∧ I64 f.ty := by
  obtain ⟨g1, hg1, h⟩ := sh_st Tryz.underlying68 h
  obtain ⟨a0, r, rfl, h0, h⟩ := h
  obtain ⟨a1, r, rfl, h1, h⟩ := h
  obtain ⟨a2, r, rfl, h2, h⟩ := h
  obtain ⟨a3, r, rfl, h3, h⟩ := h
  obtain ⟨a4, r, rfl, h4, h⟩ := h
  have h : r = [] := h
  subst h
  obtain ⟨n, rfl, hn⟩ := sh_int Tryz.underlying3 h0
  obtain ⟨s, rfl, hs⟩ := sh_str Tryz.underlying9 h1
  obtain ⟨k, rfl, hk⟩ := sh_int Tryz.underlying3 h2
  obtain ⟨b, rfl⟩ := sh_bool Tryz.underlying4 h3
  obtain ⟨t, rfl, ht⟩ := sh_int Tryz.underlying3 h4
  exact ⟨⟨n, s, k, b, t⟩, rfl, by rw [← rb]; exact hs, wf_i64 hn, wf_i64 hk, wf_i64 ht⟩
theorem sh_md {g : Nat} {ds : List A.Dat} (h : ShT Tryz.prog g 57 ds) : ∃ m : MDP, ds = eM m ∧ m.name.size ≤ reachN ∧ m.fs.length ≤ reachN ∧ ∀ f ∈ m.fs, f.name.size ≤ reachN ∧ I64 f.num ∧ I64 f.kind ∧ I64 f.ty := by
  obtain ⟨g1, hg1, h⟩ := sh_st Tryz.underlying57 h
  obtain ⟨a0, r, rfl, h0, h⟩ := h
  obtain ⟨a1, r, rfl, h1, h⟩ := h
  have h : r = [] := h
  subst h
  obtain ⟨s, rfl, hs⟩ := sh_str Tryz.underlying9 h0
  obtain ⟨g2, hg2, xs, rfl, hl, hx⟩ := sh_sl Tryz.underlying55 h1
  obtain ⟨fs, rfl, hf⟩ := listQ fun x hx' => sh_fd (hx x hx')
  rw [cFD]
  exact ⟨⟨s, fs⟩, rfl, by rw [← rb]; exact hs, by rw [← rb]; rw [List.length_map] at hl; exact hl, hf⟩
theorem sh_vd {g : Nat} {ds : List A.Dat} (h : ShT Tryz.prog g 84 ds) : ∃ v : VDP, ds = eVd v ∧ v.name.size ≤ reachN ∧ I64 v.num := by
  obtain ⟨g1, hg1, h⟩ := sh_st Tryz.underlying84 h
  obtain ⟨a0, r, rfl, h0, h⟩ := h
  obtain ⟨a1, r, rfl, h1, h⟩ := h
  have h : r = [] := h
  subst h
  obtain ⟨s, rfl, hs⟩ := sh_str Tryz.underlying9 h0
  obtain ⟨n, rfl, hn⟩ := sh_int Tryz.underlying3 h1
  exact ⟨⟨s, n⟩, rfl, by rw [← rb]; exact hs, wf_i64 hn⟩
theorem sh_ed {g : Nat} {ds : List A.Dat} (h : ShT Tryz.prog g 82 ds) : ∃ e : EDP, ds = eE e ∧ e.name.size ≤ reachN ∧ e.vs.length ≤ reachN ∧ ∀ v ∈ e.vs, v.name.size ≤ reachN ∧ I64 v.num := by
  obtain ⟨g1, hg1, h⟩ := sh_st Tryz.underlying82 h
  obtain ⟨a0, r, rfl, h0, h⟩ := h
  obtain ⟨a1, r, rfl, h1, h⟩ := h
  have h : r = [] := h
  subst h
  obtain ⟨s, rfl, hs⟩ := sh_str Tryz.underlying9 h0
  obtain ⟨g2, hg2, xs, rfl, hl, hx⟩ := sh_sl Tryz.underlying80 h1
  obtain ⟨vs, rfl, hf⟩ := listQ fun x hx' => sh_vd (hx x hx')
  rw [cVD]
  exact ⟨⟨s, vs⟩, rfl, by rw [← rb]; exact hs, by rw [← rb]; rw [List.length_map] at hl; exact hl, hf⟩
theorem sh_td {g : Nat} {ds : List A.Dat} (h : ShT Tryz.prog g 86 ds) : ∃ t : MtP, ds = eT t ∧ t.svc.size ≤ reachN ∧ t.name.size ≤ reachN ∧ I64 t.id ∧ I64 t.inn ∧ I64 t.out := by
  obtain ⟨g1, hg1, h⟩ := sh_st Tryz.underlying86 h
  obtain ⟨a0, r, rfl, h0, h⟩ := h
  obtain ⟨a1, r, rfl, h1, h⟩ := h
  obtain ⟨a2, r, rfl, h2, h⟩ := h
  obtain ⟨a3, r, rfl, h3, h⟩ := h
  obtain ⟨a4, r, rfl, h4, h⟩ := h
  have h : r = [] := h
  subst h
  obtain ⟨n, rfl, hn⟩ := sh_int Tryz.underlying3 h0
  obtain ⟨s, rfl, hs⟩ := sh_str Tryz.underlying9 h1
  obtain ⟨s2, rfl, hs2⟩ := sh_str Tryz.underlying9 h2
  obtain ⟨k, rfl, hk⟩ := sh_int Tryz.underlying3 h3
  obtain ⟨t, rfl, ht⟩ := sh_int Tryz.underlying3 h4
  exact ⟨⟨n, s, s2, k, t⟩, rfl, by rw [← rb]; exact hs, by rw [← rb]; exact hs2, wf_i64 hn, wf_i64 hk, wf_i64 ht⟩
theorem sh_sch {g : Nat} {ds : List A.Dat} (h : ShT Tryz.prog g 26 ds) : ∃ s : SchP, ds = schD s ∧ BdS s := by
  obtain ⟨g1, hg1, h⟩ := sh_st Tryz.underlying26 h
  obtain ⟨a0, r, rfl, h0, h⟩ := h
  obtain ⟨a1, r, rfl, h1, h⟩ := h
  obtain ⟨a2, r, rfl, h2, h⟩ := h
  have h : r = [] := h
  subst h
  obtain ⟨g2, hg2, xs, rfl, hl, hx⟩ := sh_sl Tryz.underlying22 h0
  obtain ⟨ms, rfl, hm⟩ := listQ fun x hx' => sh_md (hx x hx')
  obtain ⟨g3, hg3, xs, rfl, hl2, hx⟩ := sh_sl Tryz.underlying23 h1
  obtain ⟨es, rfl, he⟩ := listQ fun x hx' => sh_ed (hx x hx')
  obtain ⟨g4, hg4, xs, rfl, hl3, hx⟩ := sh_sl Tryz.underlying24 h2
  obtain ⟨ts, rfl, ht⟩ := listQ fun x hx' => sh_td (hx x hx')
  rw [cMD, cED, cTD]
  rw [List.length_map, rb] at hl hl2 hl3
  exact ⟨⟨ms, es, ts⟩, rfl, hl, hl2, hl3, hm, he, ht⟩
theorem argT_sch {w : World} {v : Value} (h : ArgT Tryz.prog w 26 v) : ∃ s, Rep no w (schA s) v ∧ BdS s := by
  obtain ⟨⟨g, ds, h1, h2⟩, h3⟩ := h
  obtain ⟨x, rfl, hx⟩ := sh_sch h1
  refine ⟨x, ?_, hx⟩
  rw [h3.1 (by kernel_rfl)]
  unfold schA
  have := (nd_of' (schD x)).reps (Reps.ofV h2)
  unfold Rep
  exact ⟨_, by simp, this, h2.one⟩
theorem tdiv_ge (n : Nat) : (n : Int) ≤ 100 * Int.tdiv (n : Int) 100 + 99 := by
  rw [Int.tdiv_eq_ediv_of_nonneg (by omega)]
  omega
mutual
theorem wt_small : ∀ (x : ND) (d l : Int), 0 ≤ smallP x d l → (wtV (theirsP x) : Int) + 200 * smallP x d l ≤ 200 * l
  | .mk k n u b s t fs, d, l, h => by
    have ht := tdiv100 s.size
    have hg := tdiv_ge s.size
    unfold smallP at h ⊢
    split at h
    · omega
    · rename_i hc
      rw [if_neg hc]
      have hf := wtFs_small fs d _ h
      unfold theirsP
      have hle := smallFs_le fs d _ h
      repeat' split
      all_goals first
        | (rw [wtV_msg]; omega)
        | (unfold wtV; omega)
theorem wtFs_small : ∀ (fs : List NF) (d l : Int), 0 ≤ smallFs fs d l → (wtFs (theirsFs fs) : Int) + 200 * smallFs fs d l ≤ 200 * l
  | [], d, l, h => by unfold theirsFs smallFs wtFs; simp
  | .mk num vs :: fs, d, l, h => by
    unfold smallFs at h ⊢
    unfold smallF at h ⊢
    unfold theirsFs theirsF
    rw [wtFs_cons, wtF_mk]
    split at h
    · omega
    · rename_i l' e
      have h1 := wtVs_small vs (d + 1) (l - 1) l' e
      have h2 := wtFs_small fs d l' h
      omega
theorem wtVs_small : ∀ (vs : List ND) (d l l' : Int), smallVs vs d l = some l' → (wtVs (theirsVs vs) : Int) + 200 * l' ≤ 200 * l
  | [], d, l, l', h => by unfold smallVs at h; cases h; unfold theirsVs wtVs; simp
  | x :: xs, d, l, l', h => by
    unfold smallVs at h
    split at h
    · cases h
    · rename_i hc
      have h1 := wt_small x d l (by omega)
      have h2 := wtVs_small xs d _ l' h
      unfold theirsVs
      rw [wtVs_cons]
      omega
end
mutual
theorem wf_theirs : ∀ (x : ND), RgN x → OkN x → wtV (theirsP x) ≤ 100000 → WfV (theirsP x)
  | .mk k n u b s t fs, hr, ho, hw => by
    cases hr with
    | mk h1 h2 h3 h4 h5 h6 =>
    cases ho with
    | mk o1 o2 o3 =>
    have h32 := wrap32b n
    unfold theirsP at hw ⊢
    split
    · exact .int _ h2
    split
    · exact .uint _ h3
    split
    · exact .bool _
    split
    · rename_i hh1 hh2 hh3 hh4
      rw [if_neg hh1, if_neg hh2, if_neg hh3, if_pos hh4] at hw
      unfold wtV at hw
      exact .text _ (by omega)
    split
    · rename_i hh1 hh2 hh3 hh4 hh5
      rw [if_neg hh1, if_neg hh2, if_neg hh3, if_neg hh4, if_pos hh5] at hw
      unfold wtV at hw
      exact .bytes _ (by omega)
    split
    · exact .enum _ h32.1 h32.2
    split
    · rename_i hh1 hh2 hh3 hh4 hh5 hh6 hh7
      rw [if_neg hh1, if_neg hh2, if_neg hh3, if_neg hh4, if_neg hh5, if_neg hh6, if_pos hh7, wtV_msg] at hw
      refine .msg (by rw [theirsFs_map, List.length_map]; exact o1) (fun num vs hm => ?_) (fun num vs hm => ?_) (by omega) (fun num vs x hm hx => ?_)
      · rw [theirsFs_map] at hm
        obtain ⟨f, hf, he⟩ := List.mem_map.1 hm
        obtain ⟨num', vs'⟩ := f
        unfold theirsF at he
        cases he
        rw [theirsVs_map, List.length_map]
        exact o2 _ _ hf
      · rw [theirsFs_map] at hm
        obtain ⟨f, hf, he⟩ := List.mem_map.1 hm
        obtain ⟨num', vs'⟩ := f
        unfold theirsF at he
        cases he
        exact h5 _ _ hf
      · exact wfFs_theirs fs h6 o3 (by omega) num vs x hm hx
    · exact .none
theorem wfFs_theirs : ∀ (fs : List NF), (∀ num vs x, NF.mk num vs ∈ fs → x ∈ vs → RgN x) → (∀ num vs x, NF.mk num vs ∈ fs → x ∈ vs → OkN x) → wtFs (theirsFs fs) ≤ 100000 → ∀ num vs x, VF.mk num vs ∈ theirsFs fs → x ∈ vs → WfV x
  | [], _, _, _, num, vs, x, hm, hx => by unfold theirsFs at hm; simp at hm
  | .mk n' vs' :: fs, h1, h2, hw, num, vs, x, hm, hx => by
    unfold theirsFs at hm hw
    unfold theirsF at hm hw
    rw [wtFs_cons, wtF_mk] at hw
    rcases List.mem_cons.1 hm with he | hm
    · cases he
      exact wfVs_theirs vs' (fun x hx => h1 n' vs' x (by simp) hx) (fun x hx => h2 n' vs' x (by simp) hx) (by omega) x hx
    · exact wfFs_theirs fs (fun num vs x hm hx => h1 num vs x (by simp [hm]) hx) (fun num vs x hm hx => h2 num vs x (by simp [hm]) hx) (by omega) num vs x hm hx
theorem wfVs_theirs : ∀ (vs : List ND), (∀ x ∈ vs, RgN x) → (∀ x ∈ vs, OkN x) → wtVs (theirsVs vs) ≤ 100000 → ∀ x ∈ theirsVs vs, WfV x
  | [], _, _, _, x, hx => by unfold theirsVs at hx; simp at hx
  | y :: vs, h1, h2, hw, x, hx => by
    unfold theirsVs at hx hw
    rw [wtVs_cons] at hw
    rcases List.mem_cons.1 hx with rfl | hx
    · exact wf_theirs y (h1 y (by simp)) (h2 y (by simp)) (by omega)
    · exact wfVs_theirs vs (fun x hx => h1 x (by simp [hx])) (fun x hx => h2 x (by simp [hx])) (by omega) x hx
end
end Go.Proofs.YtjcolfogmmjaoaaGreatDoor
end

section
set_option linter.unusedVariables false
set_option linter.unusedSimpArgs false
set_option maxRecDepth 100000
set_option maxHeartbeats 2000000
namespace Go.Proofs.YtjcolfogmmjaoaaGreatDoor
open V A
structure SmM (m : MDP) : Prop where
  fl : m.fs.length ≤ 2000
  nm : m.name.size ≤ 3000
  fn : ∀ f ∈ m.fs, f.name.size ≤ 3000
structure SmE (e : EDP) : Prop where
  vl : e.vs.length ≤ 2000
  nm : e.name.size ≤ 3000
  vn : ∀ v ∈ e.vs, v.name.size ≤ 3000
def SmT (t : MtP) : Prop := t.svc.size ≤ 3000 ∧ t.name.size ≤ 3000
theorem take_mem {α : Type} {l : List α} {i : Nat} {Q : α → Prop} {x : α} (htk : l.take (i + 1) = l.take i ++ [x]) (h : ∀ y ∈ l.take i, Q y) (hx : Q x) : ∀ y ∈ l.take (i + 1), Q y := by
  intro y hy
  rw [htk] at hy
  rcases List.mem_append.1 hy with hy | hy
  · exact h y hy
  · simp at hy; subst hy; exact hx
theorem SmallS_spec {s : SchP} (hb : BdS s) : FSpec Tryz.prog 14 [schA s] [] fun a cs => (∃ b, a = bA b ∧ (b = true → SzS s)) ∧ cs = [] := by
  have hr : reachN = 140737488351232 := rfl
  have b1 := hb.ms
  have b2 := hb.es
  have b3 := hb.mts
  have l1 : (s.ms.map eM).length = s.ms.length := List.length_map _
  have l2 : (s.es.map eE).length = s.es.length := List.length_map _
  have l3 : (s.mts.map eT).length = s.mts.length := List.length_map _
  refine a_enter hT [schA s] [] Tryz.func14 rfl rfl rfl ⟨Fit.refl _, trivial⟩ fun c' => ?_
  refine a_box hT 20 rfl rfl rfl rfl fun g => ?_
  refine a_freezeK 1 20 rfl rfl rfl rfl rfl ?_
  refine a_loop hT [1, 3, 22, 23] (fun x : Nat × Int => [.d (.p (schD s)), .v (kI x.2) 0, .v (kI s.ms.length) 0, .v (kI x.1) 0]) (fun _ => []) (fun x => x.1 ≤ s.ms.length ∧ (s.ms.length : Int) + s.es.length + s.mts.length ≤ x.2 ∧ x.2 ≤ 3 * reachN + 2000 ∧ ∀ m ∈ s.ms.take x.1, SmM m) (fun x => s.ms.length - x.1) (0, (s.ms.length : Int) + s.es.length + s.mts.length) [] rfl rfl ⟨Nat.zero_le _, by dsimp only; omega, by dsimp only; omega, by simp⟩ ⟨rfl, by show Value.int .i64 (IntKind.i64.wrap (IntKind.i64.wrap (((s.ms.map eM).length : Int) + ((s.es.map eE).length : Int)) + ((s.mts.map eT).length : Int))) = _; rw [l1, l2, l3, w64 (x := (s.ms.length : Int) + s.es.length) (by omega) (by omega), w64 (by omega) (by omega)]; rfl, by rw [← l1]; rfl, rfl, trivial⟩ rfl trivial ?_
  rintro ⟨i, n⟩ ⟨i1, i2, i3, i4⟩
  dsimp only at i1 i2 i3 i4
  have hw := wN i (by omega)
  rcases Nat.lt_or_ge i s.ms.length with hil | hil
  · have hat : (s.ms.map eM)[(i : Int).toNat]? = some (eM s.ms[i]) := by rw [Int.toNat_natCast, List.getElem?_map, List.getElem?_eq_getElem hil]; rfl
    have hmem := List.getElem_mem hil
    have htk : s.ms.take (i + 1) = s.ms.take i ++ [s.ms[i]] := List.take_succ_eq_append_getElem hil
    generalize s.ms[i] = m at hat hmem htk
    have hbm := hb.m m hmem
    have lf : (m.fs.map eF).length = m.fs.length := List.length_map _
    refine a_t hT rfl rfl (decide_eq_true (by show (i : Int) < (s.ms.length : Int); omega)) ?_
    refine a_ix hT _ rfl rfl rfl rfl rfl rfl (by first | omega | assumption) (by first | assumption | rfl) ?_
    refine a_g hT rfl rfl rfl (fun h => ?_) (fun h => ?_)
    · have h := of_decide_eq_true h
      refine a_t hT rfl rfl rfl ?_
      refine a_ret hT [] rfl rfl rfl rfl rfl rfl ?_
      exact ⟨⟨false, rfl, fun h => by cases h⟩, rfl⟩
    · have h := of_decide_eq_false h
      refine a_ix hT _ rfl rfl rfl rfl rfl rfl (by first | omega | assumption) (by first | assumption | rfl) ?_
      refine a_if hT rfl rfl (fun h1 => ?_) (fun h1 => ?_)
      · have h1 := of_decide_eq_true h1
        refine a_ret hT [] rfl rfl rfl rfl rfl rfl ?_
        exact ⟨⟨false, rfl, fun h => by cases h⟩, rfl⟩
      · have h1 := of_decide_eq_false h1
        refine a_ix hT _ rfl rfl rfl rfl rfl rfl (by first | omega | assumption) (by first | assumption | rfl) ?_
        have hwn : IntKind.i64.wrap (n + ((m.fs.map eF).length : Int)) = n + m.fs.length := by rw [lf, w64 (by omega) (by omega)]
        have hn1 : n + (m.fs.length : Int) ≤ 2000 := by
          have h : ¬ IntKind.i64.wrap (n + ((m.fs.map eF).length : Int)) > 2000 := h
          rw [hwn] at h; omega
        have hnm : m.name.size ≤ 3000 := by have h1 : ¬ (m.name.size : Int) > 3000 := h1; omega
        refine a_loop hT [1, 3, 4, 22, 23, 53, 54] (fun j : Nat × Unit => [.d (.p (schD s)), .v (kI (n + m.fs.length)) 0, .v (kI i) 0, .v (kI s.ms.length) 0, .v (kI i) 0, .v (kI m.fs.length) 0, .v (kI j.1) 0]) (fun _ => []) (fun j => j.1 ≤ m.fs.length ∧ ∀ f ∈ m.fs.take j.1, f.name.size ≤ 3000) (fun j => m.fs.length - j.1) (0, ()) [] rfl rfl ⟨Nat.zero_le _, by simp⟩ ⟨rfl, by show Value.int .i64 (IntKind.i64.wrap (n + ((m.fs.map eF).length : Int))) = _; rw [lf, w64 (by omega) (by omega)]; rfl, rfl, rfl, rfl, by rw [← lf]; rfl, rfl, trivial⟩ rfl trivial ?_
        rintro ⟨j, _⟩ ⟨j1, j2⟩
        dsimp only at j1 j2
        have hwj := wN j (by omega)
        rcases Nat.lt_or_ge j m.fs.length with hjl | hjl
        · have hatj : (m.fs.map eF)[(j : Int).toNat]? = some (eF m.fs[j]) := by rw [Int.toNat_natCast, List.getElem?_map, List.getElem?_eq_getElem hjl]; rfl
          have htj : m.fs.take (j + 1) = m.fs.take j ++ [m.fs[j]] := List.take_succ_eq_append_getElem hjl
          generalize m.fs[j] = f at hatj htj
          refine a_t hT rfl rfl (decide_eq_true (by show (j : Int) < (m.fs.length : Int); omega)) ?_
          refine a_ix hT _ rfl rfl rfl rfl rfl rfl (by omega) hat ?_
          refine a_ix hT _ rfl rfl rfl rfl rfl rfl (by omega) hatj ?_
          refine a_if hT rfl rfl (fun h2 => ?_) (fun h2 => ?_)
          · refine a_ret hT [] rfl rfl rfl rfl rfl rfl ?_
            exact ⟨⟨false, rfl, fun h => by cases h⟩, rfl⟩
          · have h2 : ¬ (f.name.size : Int) > 3000 := of_decide_eq_false h2
            exact a_next hT (j + 1, ()) [] rfl rfl ⟨⟨by show j + 1 ≤ m.fs.length; omega, take_mem htj j2 (by omega)⟩, by show m.fs.length - (j + 1) < m.fs.length - j; omega⟩ ⟨rfl, rfl, rfl, rfl, rfl, rfl, by show Value.int .i64 _ = Value.int .i64 _; rw [hwj], trivial⟩ rfl trivial
        · refine a_f hT rfl rfl (decide_eq_false (by show ¬ (j : Int) < (m.fs.length : Int); omega)) ?_
          have hj : j = m.fs.length := by omega
          subst hj
          rw [List.take_length] at j2
          exact a_next hT (i + 1, n + m.fs.length) [] rfl rfl ⟨⟨by show i + 1 ≤ s.ms.length; omega, by dsimp only; omega, by dsimp only; omega, take_mem htk i4 ⟨by omega, hnm, j2⟩⟩, by show s.ms.length - (i + 1) < s.ms.length - i; omega⟩ ⟨rfl, rfl, rfl, by show Value.int .i64 _ = Value.int .i64 _; rw [hw], trivial⟩ rfl trivial
  · refine a_f hT rfl rfl (decide_eq_false (by show ¬ (i : Int) < (s.ms.length : Int); omega)) ?_
    have hi : i = s.ms.length := by omega
    subst hi
    rw [List.take_length] at i4
    refine a_loop hT [1, 3, 73, 74] (fun x : Nat × Int => [.d (.p (schD s)), .v (kI x.2) 0, .v (kI s.es.length) 0, .v (kI x.1) 0]) (fun _ => []) (fun x => x.1 ≤ s.es.length ∧ (s.ms.length : Int) + s.es.length + s.mts.length ≤ x.2 ∧ x.2 ≤ 3 * reachN + 2000 ∧ ∀ m ∈ s.es.take x.1, SmE m) (fun x => s.es.length - x.1) (0, n) [] rfl rfl ⟨Nat.zero_le _, i2, i3, by simp⟩ ⟨rfl, rfl, by rw [← l2]; rfl, rfl, trivial⟩ rfl trivial ?_
    rintro ⟨i, n⟩ ⟨i1, i2, i3, e4⟩
    dsimp only at i1 i2 i3 e4
    have hw := wN i (by omega)
    rcases Nat.lt_or_ge i s.es.length with hil | hil
    · have hat : (s.es.map eE)[(i : Int).toNat]? = some (eE s.es[i]) := by rw [Int.toNat_natCast, List.getElem?_map, List.getElem?_eq_getElem hil]; rfl
      have hmem := List.getElem_mem hil
      have htk : s.es.take (i + 1) = s.es.take i ++ [s.es[i]] := List.take_succ_eq_append_getElem hil
      generalize s.es[i] = m at hat hmem htk
      have hbm := hb.e m hmem
      have lf : (m.vs.map eVd).length = m.vs.length := List.length_map _
      refine a_t hT rfl rfl (decide_eq_true (by show (i : Int) < (s.es.length : Int); omega)) ?_
      refine a_ix hT _ rfl rfl rfl rfl rfl rfl (by first | omega | assumption) (by first | assumption | rfl) ?_
      refine a_g hT rfl rfl rfl (fun h => ?_) (fun h => ?_)
      · have h := of_decide_eq_true h
        refine a_t hT rfl rfl rfl ?_
        refine a_ret hT [] rfl rfl rfl rfl rfl rfl ?_
        exact ⟨⟨false, rfl, fun h => by cases h⟩, rfl⟩
      · have h := of_decide_eq_false h
        refine a_ix hT _ rfl rfl rfl rfl rfl rfl (by first | omega | assumption) (by first | assumption | rfl) ?_
        refine a_if hT rfl rfl (fun h1 => ?_) (fun h1 => ?_)
        · have h1 := of_decide_eq_true h1
          refine a_ret hT [] rfl rfl rfl rfl rfl rfl ?_
          exact ⟨⟨false, rfl, fun h => by cases h⟩, rfl⟩
        · have h1 := of_decide_eq_false h1
          refine a_ix hT _ rfl rfl rfl rfl rfl rfl (by first | omega | assumption) (by first | assumption | rfl) ?_
          have hwn : IntKind.i64.wrap (n + ((m.vs.map eVd).length : Int)) = n + m.vs.length := by rw [lf, w64 (by omega) (by omega)]
          have hn1 : n + (m.vs.length : Int) ≤ 2000 := by
            have h : ¬ IntKind.i64.wrap (n + ((m.vs.map eVd).length : Int)) > 2000 := h
            rw [hwn] at h; omega
          have hnm : m.name.size ≤ 3000 := by have h1 : ¬ (m.name.size : Int) > 3000 := h1; omega
          refine a_loop hT [1, 3, 6, 73, 74, 104, 105] (fun j : Nat × Unit => [.d (.p (schD s)), .v (kI (n + m.vs.length)) 0, .v (kI i) 0, .v (kI s.es.length) 0, .v (kI i) 0, .v (kI m.vs.length) 0, .v (kI j.1) 0]) (fun _ => []) (fun j => j.1 ≤ m.vs.length ∧ ∀ f ∈ m.vs.take j.1, f.name.size ≤ 3000) (fun j => m.vs.length - j.1) (0, ()) [] rfl rfl ⟨Nat.zero_le _, by simp⟩ ⟨rfl, by show Value.int .i64 (IntKind.i64.wrap (n + ((m.vs.map eVd).length : Int))) = _; rw [lf, w64 (by omega) (by omega)]; rfl, rfl, rfl, rfl, by rw [← lf]; rfl, rfl, trivial⟩ rfl trivial ?_
          rintro ⟨j, _⟩ ⟨j1, j2⟩
          dsimp only at j1 j2
          have hwj := wN j (by omega)
          rcases Nat.lt_or_ge j m.vs.length with hjl | hjl
          · have hatj : (m.vs.map eVd)[(j : Int).toNat]? = some (eVd m.vs[j]) := by rw [Int.toNat_natCast, List.getElem?_map, List.getElem?_eq_getElem hjl]; rfl
            have htj : m.vs.take (j + 1) = m.vs.take j ++ [m.vs[j]] := List.take_succ_eq_append_getElem hjl
            generalize m.vs[j] = f at hatj htj
            refine a_t hT rfl rfl (decide_eq_true (by show (j : Int) < (m.vs.length : Int); omega)) ?_
            refine a_ix hT _ rfl rfl rfl rfl rfl rfl (by omega) hat ?_
            refine a_ix hT _ rfl rfl rfl rfl rfl rfl (by omega) hatj ?_
            refine a_if hT rfl rfl (fun h2 => ?_) (fun h2 => ?_)
            · refine a_ret hT [] rfl rfl rfl rfl rfl rfl ?_
              exact ⟨⟨false, rfl, fun h => by cases h⟩, rfl⟩
            · have h2 : ¬ (f.name.size : Int) > 3000 := of_decide_eq_false h2
              exact a_next hT (j + 1, ()) [] rfl rfl ⟨⟨by show j + 1 ≤ m.vs.length; omega, take_mem htj j2 (by omega)⟩, by show m.vs.length - (j + 1) < m.vs.length - j; omega⟩ ⟨rfl, rfl, rfl, rfl, rfl, rfl, by show Value.int .i64 _ = Value.int .i64 _; rw [hwj], trivial⟩ rfl trivial
          · refine a_f hT rfl rfl (decide_eq_false (by show ¬ (j : Int) < (m.vs.length : Int); omega)) ?_
            have hj : j = m.vs.length := by omega
            subst hj
            rw [List.take_length] at j2
            exact a_next hT (i + 1, n + m.vs.length) [] rfl rfl ⟨⟨by show i + 1 ≤ s.es.length; omega, by dsimp only; omega, by dsimp only; omega, take_mem htk e4 ⟨by omega, hnm, j2⟩⟩, by show s.es.length - (i + 1) < s.es.length - i; omega⟩ ⟨rfl, rfl, rfl, by show Value.int .i64 _ = Value.int .i64 _; rw [hw], trivial⟩ rfl trivial
    · refine a_f hT rfl rfl (decide_eq_false (by show ¬ (i : Int) < (s.es.length : Int); omega)) ?_
      have hi : i = s.es.length := by omega
      subst hi
      rw [List.take_length] at e4
      refine a_loop hT [1, 3, 124, 125] (fun x : Nat × Unit => [.d (.p (schD s)), .v (kI n) 0, .v (kI s.mts.length) 0, .v (kI x.1) 0]) (fun _ => []) (fun x => x.1 ≤ s.mts.length ∧ ∀ m ∈ s.mts.take x.1, SmT m) (fun x => s.mts.length - x.1) (0, ()) [] rfl rfl ⟨Nat.zero_le _, by simp⟩ ⟨rfl, rfl, by rw [← l3]; rfl, rfl, trivial⟩ rfl trivial ?_
      rintro ⟨i, _⟩ ⟨i1, t4⟩
      dsimp only at i1 t4
      have hw := wN i (by omega)
      rcases Nat.lt_or_ge i s.mts.length with hil | hil
      · have hat : (s.mts.map eT)[(i : Int).toNat]? = some (eT s.mts[i]) := by rw [Int.toNat_natCast, List.getElem?_map, List.getElem?_eq_getElem hil]; rfl
        have htk : s.mts.take (i + 1) = s.mts.take i ++ [s.mts[i]] := List.take_succ_eq_append_getElem hil
        generalize s.mts[i] = m at hat htk
        refine a_t hT rfl rfl (decide_eq_true (by show (i : Int) < (s.mts.length : Int); omega)) ?_
        refine a_g hT rfl rfl rfl (fun h => ?_) (fun h => ?_)
        · have h := of_decide_eq_true h
          refine a_gt hT rfl rfl rfl rfl ?_
          refine a_t hT rfl rfl rfl ?_
          refine a_ret hT [] rfl rfl rfl rfl rfl rfl ?_
          exact ⟨⟨false, rfl, fun h => by cases h⟩, rfl⟩
        · have h := of_decide_eq_false h
          refine a_ix hT _ rfl rfl rfl rfl rfl rfl (by first | omega | assumption) (by first | assumption | rfl) ?_
          refine a_g hT rfl rfl rfl (fun h1 => ?_) (fun h1 => ?_)
          · have h1 := of_decide_eq_true h1
            refine a_t hT rfl rfl rfl ?_
            refine a_ret hT [] rfl rfl rfl rfl rfl rfl ?_
            exact ⟨⟨false, rfl, fun h => by cases h⟩, rfl⟩
          · have h1 := of_decide_eq_false h1
            refine a_ix hT _ rfl rfl rfl rfl rfl rfl (by first | omega | assumption) (by first | assumption | rfl) ?_
            refine a_if hT rfl rfl (fun h2 => ?_) (fun h2 => ?_)
            · have h2 := of_decide_eq_true h2
              refine a_ret hT [] rfl rfl rfl rfl rfl rfl ?_
              exact ⟨⟨false, rfl, fun h => by cases h⟩, rfl⟩
            · have h2 := of_decide_eq_false h2
              exact a_next hT (i + 1, ()) [] rfl rfl ⟨⟨by show i + 1 ≤ s.mts.length; omega, take_mem htk t4 ⟨by first | omega | (rename_i q1 q2; omega), by first | omega | (rename_i q1 q2; omega)⟩⟩, by show s.mts.length - (i + 1) < s.mts.length - i; omega⟩ ⟨rfl, rfl, rfl, by show Value.int .i64 _ = Value.int .i64 _; rw [hw], trivial⟩ rfl trivial
      · refine a_f hT rfl rfl (decide_eq_false (by show ¬ (i : Int) < (s.mts.length : Int); omega)) ?_
        have hi : i = s.mts.length := by omega
        subst hi
        rw [List.take_length] at t4
        refine a_ret hT [] rfl rfl rfl rfl rfl rfl ?_
        exact ⟨⟨decide (n ≤ 2000), rfl, fun h => by
          have h := of_decide_eq_true h
          exact ⟨by omega, by omega, by omega, fun m hm => (i4 m hm).fl, fun e he => (e4 e he).vl, fun m hm => by have := (i4 m hm).nm; omega, fun e he => by have := (e4 e he).nm; omega, fun m hm f hf => by have := (i4 m hm).fn f hf; omega, fun e he v hv => by have := (e4 e he).vn v hv; omega, fun t ht => by have := t4 t ht; unfold SmT at this; omega⟩⟩, rfl⟩
end Go.Proofs.YtjcolfogmmjaoaaGreatDoor
end

section
set_option linter.unusedVariables false
set_option linter.unusedSimpArgs false
set_option maxRecDepth 100000
set_option maxHeartbeats 1000000
namespace Go.Proofs.YtjcolfogmmjaoaaGreatDoor
open V A
def fX : FDP := ⟨1, mkS [120], 1, false, 0⟩
def mX : MDP := ⟨mkS [65], [fX]⟩
def sX : List MDP := [mX]
theorem plain_sX : Plain0 ⟨sX, [], []⟩ := ⟨rfl, rfl, by decide, by decide, by decide, by decide, by decide⟩
theorem formed_sX : formedS sX = true := by kernel_rfl
theorem flat_mX : FlatM mX := ⟨by decide, by decide, by decide, by decide⟩
def vX : VL := .msg 0 [.mk 1 [.int 2]] (mkS [])
theorem msg_X : msgP mX ((0 : Nat) : Int) [8, 1, 8, 2] = some vX := by rfl
theorem okV_X : OkV vX := .msg (by decide) (fun num vs h => by simp at h; obtain ⟨rfl, rfl⟩ := h; decide) (fun num vs x h hx => by simp at h; obtain ⟨rfl, rfl⟩ := h; simp at hx; subst hx; exact .int 2)
def zX : ND := .mk 7 0 0 false .empty 0 [.mk 1 [.mk 1 2 0 false .empty 0 []]]
theorem ours_X : oursP vX = zX := by rfl
theorem bd_zX : BdN zX := .mk (by decide) (by decide) (fun num vs h => by simp at h; obtain ⟨rfl, rfl⟩ := h; decide) (fun num vs x h hx => by simp at h; obtain ⟨rfl, rfl⟩ := h; simp at hx; subst hx; exact bdLeaf (by decide))
theorem awake11_spec : FSpec Tryz.prog 13 [] [] fun a cs => a = bA true ∧ cs = [] := by
  have hD := Decode_spec (d := mX) (t := 0) (bs := [8, 1, 8, 2]) plain_sX formed_sX rfl flat_mX (by decide)
  rw [msg_X] at hD
  have hO := (Ours_spec okV_X).ofNd
  rw [ours_X] at hO
  have hSm := Same_refl_spec bd_zX
  refine a_enter hT [] [] Tryz.func13 rfl rfl rfl trivial fun c' => ?_
  refine a_build hT hZ [.v (kI 1) 0, .v (.string (mkS [120])) 0, .v (kI 1) 0, .v (.bool false) 0, .v (kI 0) 0] rfl rfl rfl rfl rfl rfl ?_
  refine a_lit hT 20 rfl rfl rfl rfl (by kernel_rfl) rfl rfl rfl rfl fun x20 => ?_
  refine a_freeze 5 20 rfl rfl rfl rfl ?_
  refine a_build hT hZ [.v (.string (mkS [65])) 0, .d (.sl 5 [eF fX])] rfl rfl rfl rfl rfl rfl ?_
  refine a_lit hT 21 rfl rfl rfl rfl (by kernel_rfl) rfl rfl rfl rfl fun x21 => ?_
  refine a_freeze 7 21 rfl rfl rfl rfl ?_
  refine a_build hT hZ [.d (.sl 2 [eM mX]), .v (.slice none 0 0) 0, .v (.slice none 0 0) 0] rfl rfl rfl rfl rfl rfl ?_
  refine a_new hT hZ 22 rfl rfl rfl rfl fun g => ?_
  refine a_run hT 1 rfl rfl ?_
  refine a_cellL 22 1 (b := .d (.sl 2 [])) rfl rfl rfl le_nil ?_
  refine a_cellL 22 2 (b := .d (.sl 5 [])) rfl rfl rfl le_nil ?_
  refine a_lit hT 23 rfl rfl rfl rfl (by kernel_rfl) rfl rfl rfl rfl fun x23 => ?_
  refine a_mark hT rfl rfl rfl rfl rfl rfl rfl rfl (fun h => by cases h) ?_
  refine a_call hT rfl rfl rfl (by kernel_rfl) hD [] [] rfl rfl ?_
  rintro _ _ ⟨rfl, rfl⟩
  refine a_gt hT rfl rfl rfl rfl ?_
  refine a_call hT rfl rfl rfl (by kernel_rfl) hO [] [] rfl rfl ?_
  rintro _ _ ⟨rfl, rfl⟩
  refine a_build hT hZ [.v (Value.int IntKind.i64 1) 0, .v (Value.int IntKind.i64 2) 0, .v (Value.int IntKind.u64 0) 0, .v (Value.bool false) 0, .v (Value.string ByteArray.empty) 0, .v (Value.int IntKind.i64 0) 0, .v (Value.slice none 0 0) 0] rfl rfl rfl rfl rfl rfl ?_
  refine a_lit hT 23 rfl rfl rfl rfl (by kernel_rfl) rfl rfl rfl rfl fun x23 => ?_
  refine a_freeze 22 23 rfl rfl rfl rfl ?_
  refine a_build hT hZ [.v (kI 1) 0, .d (.sl 7 [[.v (kI 1), .v (kI 2), .v (kU 0), .v (.bool false), .v (.string .empty), .v (kI 0), .v (.slice none 0 0)]])] rfl rfl rfl rfl rfl rfl ?_
  refine a_lit hT 24 rfl rfl rfl rfl (by kernel_rfl) rfl rfl rfl rfl fun x24 => ?_
  refine a_freeze 24 24 rfl rfl rfl rfl ?_
  refine a_build hT hZ [.v (kI 7) 0, .v (kI 0) 0, .v (kU 0) 0, .v (.bool false) 0, .v (.string .empty) 0, .v (kI 0) 0, .d (.sl 2 [[.v (kI 1), .sl 7 [[.v (kI 1), .v (kI 2), .v (kU 0), .v (.bool false), .v (.string .empty), .v (kI 0), .v (.slice none 0 0)]]]])] rfl rfl rfl rfl rfl rfl ?_
  refine a_asL 25 (b := ndA zX) rfl (Le.agg (.cons (Le.refl _) (.cons (Le.refl _) (.cons (Le.refl _) (.cons (Le.refl _) (.cons (Le.refl _) (.cons (Le.refl _) (.cons (DLe.le (DLe.sl (.cons (.cons (DLe.refl _) (.cons (DLe.sl (.cons (.cons (DLe.refl _) (.cons (DLe.refl _) (.cons (DLe.refl _) (.cons (DLe.refl _) (.cons (DLe.refl _) (.cons (DLe.refl _) (.cons (DLe.nil 2) .nil))))))) .nil)) .nil)) .nil))) .nil)))))))) ?_
  refine a_call hT rfl rfl rfl (by kernel_rfl) hSm [] [] rfl rfl ?_
  rintro _ _ ⟨rfl, rfl⟩
  refine a_ret hT [] rfl rfl rfl rfl rfl rfl ?_
  first | exact ⟨rfl, rfl⟩ | rfl
end Go.Proofs.YtjcolfogmmjaoaaGreatDoor
end

section
set_option linter.unusedVariables false
set_option linter.unusedSimpArgs false
set_option maxRecDepth 100000
set_option maxHeartbeats 2000000
namespace Go.Proofs.YtjcolfogmmjaoaaGreatDoor
open V A
theorem Few_spec {s : SchP} {x : ND} (hb : BdS s) (hx : BdN x) : FSpec Tryz.prog 20 [schA s, ndA x] [] fun a cs => (∃ b, a = bA b ∧ (b = true → SzS s ∧ 0 ≤ smallP x 0 400)) ∧ cs = [] := by
  have h1 := SmallS_spec hb
  have h2 := Small_spec hx
  obtain ⟨xk, xn, xu, xb, xs, xt, xf⟩ := x
  refine a_enter hT [schA s, ndA (.mk xk xn xu xb xs xt xf)] [] Tryz.func20 rfl rfl rfl ⟨Fit.refl _, Fit.refl _, trivial⟩ fun c' => ?_
  refine a_box hT 20 rfl rfl rfl rfl fun g1 => ?_
  refine a_box hT 21 rfl rfl rfl rfl fun g2 => ?_
  refine a_call hT rfl rfl rfl (by kernel_rfl) h1 [] [] rfl rfl ?_
  rintro _ _ ⟨⟨b, rfl, hbb⟩, rfl⟩
  cases b with
  | false =>
    refine a_gf hT rfl rfl rfl rfl ?_
    refine a_ret hT [] rfl rfl rfl rfl rfl rfl ?_
    exact ⟨⟨false, rfl, fun h => by cases h⟩, rfl⟩
  | true =>
    refine a_gt hT rfl rfl rfl rfl ?_
    refine a_call hT rfl rfl rfl (by kernel_rfl) h2 [] [] rfl rfl ?_
    rintro _ _ ⟨rfl, rfl⟩
    refine a_ret hT [] rfl rfl rfl rfl rfl rfl ?_
    exact ⟨⟨_, rfl, fun h => ⟨hbb rfl, of_decide_eq_true h⟩⟩, rfl⟩
end Go.Proofs.YtjcolfogmmjaoaaGreatDoor
end

section
set_option linter.unusedVariables false
set_option linter.unusedSimpArgs false
set_option maxRecDepth 100000
set_option maxHeartbeats 2000000
namespace Go.Proofs.YtjcolfogmmjaoaaGreatDoor
open V A
theorem Decode_specG {s : SchP} (hz : SzS s) {t : Int} {bs : List UInt8} (hl : bs.length ≤ 1000000000) : FSpec Tryz.prog 15 [schA s, .v (kI t) 0, .d (A.bytesD bs)] [u8C] fun a cs => a = decE (decTop s t bs) ∧ cs = [u8C] := by
  have hF := Formed_spec hz
  have hlm : (s.ms.map eM).length = s.ms.length := List.length_map _
  have hbl := bytesD_len bs
  unfold decTop
  refine a_enter hT [schA s, .v (kI t) 0, .d (A.bytesD bs)] [60] Tryz.func15 rfl rfl rfl ⟨Fit.refl _, rfl, Fit.refl _, trivial⟩ fun c' => ?_
  refine a_box hT 61 rfl rfl rfl rfl fun g => ?_
  refine a_call hT rfl rfl rfl (by kernel_rfl) hF [] [] rfl rfl ?_
  rintro _ _ ⟨rfl, rfl⟩
  cases hfo : formedP s with
  | false =>
    refine a_gt hT rfl rfl rfl rfl ?_
    refine a_gt hT rfl rfl rfl rfl ?_
    refine a_t hT rfl rfl rfl ?_
    refine a_ret hT [60] rfl rfl rfl rfl rfl rfl ?_
    exact ⟨rfl, rfl⟩
  | true =>
    refine a_gf hT rfl rfl rfl rfl ?_
    refine a_g hT rfl rfl rfl (fun h => ?_) (fun h => ?_)
    · have h : t < 0 := of_decide_eq_true h
      rw [if_pos (by rw [decide_eq_true h]; rfl)]
      refine a_t hT rfl rfl rfl ?_
      refine a_ret hT [60] rfl rfl rfl rfl rfl rfl ?_
      exact ⟨rfl, rfl⟩
    · have h : ¬ t < 0 := of_decide_eq_false h
      refine a_if hT rfl rfl (fun h1 => ?_) (fun h1 => ?_)
      · have h1 : t ≥ ((s.ms.map eM).length : Int) := of_decide_eq_true h1
        rw [hlm] at h1
        rw [if_pos (by rw [decide_eq_false h, decide_eq_true h1]; rfl)]
        refine a_ret hT [60] rfl rfl rfl rfl rfl rfl ?_
        exact ⟨rfl, rfl⟩
      · have h1 : ¬ t ≥ ((s.ms.map eM).length : Int) := of_decide_eq_false h1
        rw [hlm] at h1
        rw [if_neg (by rw [decide_eq_false h, decide_eq_false h1]; decide)]
        refine a_if hT rfl rfl (fun h2 => ?_) (fun h2 => ?_)
        · have h2 : ((bs.map eB).length : Int) > 4096 := of_decide_eq_true h2
          rw [if_pos (by omega)]
          refine a_ret hT [60] rfl rfl rfl rfl rfl rfl ?_
          exact ⟨rfl, rfl⟩
        · have h2 : ¬ ((bs.map eB).length : Int) > 4096 := of_decide_eq_false h2
          rw [if_neg (by omega)]
          obtain ⟨k, rfl⟩ : ∃ k : Nat, t = (k : Int) := ⟨t.toNat, by omega⟩
          have hM := dmsgG_spec (schOk hfo) 16 (Nat.le_refl _) (t := k) (bs := bs) (by omega) (by omega)
          rw [show (17 : Int) - ((16 : Nat) : Int) = 1 by decide] at hM
          generalize decM s 16 k bs = M at hM
          refine a_call hT rfl rfl rfl (by kernel_rfl) hM [60] [60] rfl rfl ?_
          rintro _ _ ⟨rfl, rfl⟩
          cases M with
          | error e =>
            refine a_ret hT [60] rfl rfl rfl rfl rfl rfl ?_
            exact ⟨rfl, rfl⟩
          | ok v =>
            refine a_ret hT [60] rfl rfl rfl rfl rfl rfl ?_
            exact ⟨rfl, rfl⟩
theorem dec_top {s : SchP} {v : VL} {t : Int} (hv : WfV v) (hw : wtV v ≤ 100000000) (hf : fitsTop s v t = true) (hl : (encM s (normP s v)).length ≤ 4096) : decTop s t (encM s (normP s v)) = .ok (normP s v) := by
  have hnf := norm_top hf
  have hnw := norm_wf s v hv
  have hnt := norm_wt s v
  have hid := norm_idem s v
  generalize normP s v = w at hnf hnw hnt hid hl ⊢
  obtain ⟨fs, u, rfl, hform, ht0, ht1, hft⟩ := fits_msg hnf
  unfold decTop
  rw [if_neg (by rw [hform, decide_eq_false (by omega), decide_eq_false (by omega)]; decide), if_neg (by omega)]
  exact dec_enc (schOk hform) hnw (by omega) hid 16 t (Nat.le_refl _) ht0 (by rw [show (17 : Int) - ((16 : Nat) : Int) = 1 by decide]; exact hft)
end Go.Proofs.YtjcolfogmmjaoaaGreatDoor
end

section
set_option linter.unusedVariables false
set_option linter.unusedSimpArgs false
set_option maxRecDepth 100000
set_option maxHeartbeats 1000000
namespace Go.Proofs.YtjcolfogmmjaoaaGreatDoor
open V A
def entW (l : List FW) : Nat := (l.map fun x => x.data.length + 2).sum
theorem entW_nil : entW [] = 0 := rfl
theorem entW_cons (x : FW) (l : List FW) : entW (x :: l) = x.data.length + 2 + entW l := by unfold entW; simp
theorem entW_flat : ∀ l : List FW, (l.flatMap (·.data)).length + 2 * l.length = entW l
  | [] => rfl
  | x :: l => by
    have := entW_flat l
    rw [List.flatMap_cons, List.length_append, List.length_cons, entW_cons]
    omega
theorem entW_split (q : FW → Bool) : ∀ l : List FW, entW (l.filter q) + entW (l.filter fun x => !q x) = entW l
  | [] => rfl
  | x :: l => by
    have := entW_split q l
    rw [List.filter_cons, List.filter_cons, entW_cons]
    cases hq : q x
    · simp only [Bool.false_eq_true, if_false, Bool.not_false, if_true]
      rw [entW_cons]; omega
    · simp only [if_true, Bool.not_true, Bool.false_eq_true, if_false]
      rw [entW_cons]; omega
theorem entW_part : ∀ (dfs : List FDP) (E : List FW), dfs.Pairwise (fun f g => f.num < g.num) → (dfs.map fun f => entW (E.filter fun x => decide ((x.num : Int) = f.num))).sum ≤ entW E
  | [], E, _ => by simp
  | f :: dfs, E, hp => by
    rw [List.pairwise_cons] at hp
    have h1 := entW_split (fun x => decide ((x.num : Int) = f.num)) E
    have h2 := entW_part dfs (E.filter fun x => !decide ((x.num : Int) = f.num)) hp.2
    have h3 : (dfs.map fun g => entW (E.filter fun x => decide ((x.num : Int) = g.num))) = dfs.map fun g => entW ((E.filter fun x => !decide ((x.num : Int) = f.num)).filter fun x => decide ((x.num : Int) = g.num)) := by
      apply List.map_congr_left
      intro g hg
      rw [List.filter_filter]
      congr 1
      apply List.filter_congr
      intro x _
      have := hp.1 g hg
      by_cases hx : (x.num : Int) = g.num
      · simp [hx]; omega
      · simp [hx]
    rw [List.map_cons, List.sum_cons, h3]
    omega
theorem entW_raw {ws : List (FW × List UInt8)} (h : ∀ x ∈ ws, RawOk x) (q : FW → Bool) : entW ((ws.map (·.1)).filter q) + ((ws.filter fun x => !q x.1).flatMap (·.2)).length ≤ (ws.flatMap (·.2)).length := by
  induction ws with
  | nil => simp [entW_nil]
  | cons x ws ih =>
    have ih := ih fun y hy => h y (by simp [hy])
    have hx := (h x (by simp)).2.2.1
    have e2 : ((x :: ws).flatMap (·.2)).length = x.2.length + (ws.flatMap (·.2)).length := by rw [List.flatMap_cons, List.length_append]
    rw [e2, List.map_cons, List.filter_cons, List.filter_cons]
    cases hq : q x.1
    · simp only [Bool.false_eq_true, if_false, Bool.not_false, if_true]
      rw [List.flatMap_cons, List.length_append]; omega
    · simp only [if_true, Bool.not_true, Bool.false_eq_true, if_false]
      rw [entW_cons]; omega
theorem numP_wf {kind : Int} {n : Nat} (hn : n < 18446744073709551616) : WfV (numP kind n) := by
  unfold numP
  have h1 := wrap64 (n : Int)
  have h32 := wrap32b (IntKind.u32.wrap (n : Int))
  split
  · obtain ⟨k, e, h1, h2⟩ := h1
    exact .int _ ⟨h1, h2⟩
  split
  · refine .int _ ?_
    rw [zag_eq n hn]
    unfold I64
    split <;> omega
  split
  · exact .bool _
  split
  · exact .enum _ h32.1 h32.2
  · exact .uint _ ⟨by omega, by omega⟩
theorem numP_one {f : FDP} {n : Nat} {r : Bool} (hk : 1 ≤ f.kind ∧ f.kind ≤ 10) (h5 : f.kind ≠ 5) (h6 : f.kind ≠ 6) (h10 : f.kind ≠ 10) (h7 : f.kind = 7 → n ≤ 4294967295) : oneK f r (numP f.kind n) = true := by
  unfold numP
  split
  · exact decide_eq_true (.inl (by assumption))
  split
  · exact decide_eq_true (.inr (by assumption))
  split
  · exact decide_eq_true (by assumption)
  split
  · exact decide_eq_true (by assumption)
  · refine decide_eq_true ?_
    by_cases h : f.kind = 7
    · exact .inr (.inr ⟨h, by have := h7 h; omega⟩)
    · omega
theorem numP_norm (s : SchP) (kind : Int) (n : Nat) : normP s (numP kind n) = numP kind n := by
  unfold numP
  repeat' split
  all_goals (unfold normP; rfl)
theorem numP_wt (kind : Int) (n : Nat) : wtV (numP kind n) = 60 := by
  unfold numP
  repeat' split
  all_goals (unfold wtV; rfl)
structure Good (s : SchP) (f : FDP) (dep : Int) (v : VL) : Prop where
  fit : oneK f (fitsP s v f.ty (dep + 1)) v = true
  nrm : normP s v = v
  wf : WfV v
theorem goods_fits {s : SchP} {f : FDP} {dep : Int} : ∀ {vs : List VL}, (∀ v ∈ vs, Good s f dep v) → fitsVs s f dep vs = true
  | [], _ => by unfold fitsVs; rfl
  | v :: vs, h => by
    rw [fitsVs_cons, (h v (by simp)).fit, goods_fits fun x hx => h x (by simp [hx])]
    rfl
theorem goods_norm {s : SchP} {f : FDP} {dep : Int} : ∀ {vs : List VL}, (∀ v ∈ vs, Good s f dep v) → normVs s vs = vs
  | [], _ => by unfold normVs; rfl
  | v :: vs, h => by
    unfold normVs
    rw [(h v (by simp)).nrm, goods_norm fun x hx => h x (by simp [hx])]
theorem num_good {s : SchP} {f : FDP} {dep : Int} {n : Nat} (hk : 1 ≤ f.kind ∧ f.kind ≤ 10) (h5 : f.kind ≠ 5) (h6 : f.kind ≠ 6) (h10 : f.kind ≠ 10) (h7 : f.kind = 7 → n ≤ 4294967295) (hn : n < 18446744073709551616) : Good s f dep (numP f.kind n) :=
  ⟨numP_one hk h5 h6 h10 h7, numP_norm s f.kind n, numP_wf hn⟩
theorem up_good {s : SchP} {f : FDP} {dep : Int} (hk : 1 ≤ f.kind ∧ f.kind ≤ 10) (h5 : f.kind ≠ 5) (h6 : f.kind ≠ 6) (h10 : f.kind ≠ 10) : ∀ (k : Nat) (bs : List UInt8) (vs : List VL), bs.length ≤ k → upW f.kind bs = some vs → (∀ v ∈ vs, Good s f dep v) ∧ wtVs vs ≤ 60 * bs.length := by
  intro k
  induction k with
  | zero =>
    intro bs vs hl h
    have : bs = [] := List.eq_nil_of_length_eq_zero (by omega)
    subst this
    cases h
    exact ⟨by simp, by unfold wtVs; simp⟩
  | succ k ih =>
    intro bs vs hl h
    by_cases hb : bs = []
    · subst hb; cases h; exact ⟨by simp, by unfold wtVs; simp⟩
    · rw [upW_cons hb] at h
      have ho := takeK_ok (wireK f.kind) bs
      have h7 : f.kind = 7 → (takeK (wireK f.kind) bs).2.2 = 0 → (takeK (wireK f.kind) bs).1 ≤ 4294967295 := by
        intro e _
        have := take32_ok bs
        rw [e]
        show (take32P bs).1 ≤ _
        omega
      generalize takeK (wireK f.kind) bs = r at h ho h7
      obtain ⟨n, p, e⟩ := r
      dsimp only at h ho h7
      split at h
      · cases h
      · rename_i he
        have he : e = 0 := by simpa using he
        have hp := ho.1 he
        have hdl : (bs.drop p).length = bs.length - p := List.length_drop
        cases hs : upW f.kind (bs.drop p) with
        | none => rw [hs] at h; cases h
        | some L =>
          rw [hs] at h
          cases h
          obtain ⟨g1, g2⟩ := ih (bs.drop p) L (by omega) hs
          refine ⟨fun v hv => ?_, ?_⟩
          · rcases List.mem_cons.1 hv with rfl | hv
            · exact num_good hk h5 h6 h10 (fun e => h7 e he) ho.2
            · exact g1 v hv
          · rw [wtVs_cons, numP_wt]; omega
def RecG (s : SchP) (rec : Int → List UInt8 → RM) (dep : Int) : Prop := ∀ (t : Int) (bs : List UInt8) (v : VL), 0 ≤ t → t < s.ms.length → bs.length ≤ 4096 → rec t bs = .ok v → fitsP s v t dep = true ∧ normP s v = v ∧ WfV v ∧ wtV v ≤ 60 + 100 * bs.length
theorem values_good {s : SchP} {rec : Int → List UInt8 → RM} {f : FDP} {dep : Int} {x : FW} {l : List VL} (hr : RecG s rec (dep + 1)) (hk : 1 ≤ f.kind ∧ f.kind ≤ 10) (hty : f.kind = 10 → 0 ≤ f.ty ∧ f.ty < s.ms.length) (hx : formedW x = true) (hn : x.n < 18446744073709551616) (hl : x.data.length ≤ 4096)
    (hkn : (x.typ : Int) = wireK f.kind ∨ (f.rep = true ∧ packedK f.kind = true ∧ (x.typ : Int) = 2)) (h : valuesG rec f x = .ok l) : (∀ v ∈ l, Good s f dep v) ∧ wtVs l ≤ 60 + 100 * x.data.length ∧ l.length ≤ x.data.length + 1 ∧ (f.rep = false → l.length = 1) := by
  have hlen := valuesG_len h
  unfold valuesG at h
  by_cases h10 : f.kind = 10
  · rw [if_pos h10] at h
    split at h
    · cases h
    · rename_i v hv
      injection h with h
      subst h
      obtain ⟨g1, g2, g3, g4⟩ := hr f.ty x.data v (hty h10).1 (hty h10).2 hl hv
      refine ⟨fun w hw => ?_, ?_, hlen, fun _ => rfl⟩
      · simp at hw
        subst hw
        refine ⟨?_, g2, g3⟩
        rw [g1]
        cases w with
        | msg a b c => show (decide (f.kind = 10) && true) = true; rw [decide_eq_true h10]; rfl
        | _ => unfold fitsP at g1; cases g1
      · rw [wtVs_cons]; unfold wtVs; omega
  rw [if_neg h10] at h
  by_cases h5 : f.kind = 5
  · rw [if_pos h5] at h
    split at h
    · rename_i hv
      injection h with h
      subst h
      refine ⟨fun w hw => ?_, ?_, hlen, fun _ => rfl⟩
      · simp at hw
        subst hw
        refine ⟨?_, by unfold normP; rfl, .text _ (by rw [mkS_size]; omega)⟩
        show (decide (f.kind = 5) && validB (mkS x.data)) = true
        rw [decide_eq_true h5]
        unfold validB
        rw [data_mkS, hv]
        rfl
      · rw [wtVs_cons]; unfold wtVs wtV; rw [mkS_size]; omega
    · cases h
  rw [if_neg h5] at h
  by_cases h6 : f.kind = 6
  · rw [if_pos h6] at h
    injection h with h
    subst h
    refine ⟨fun w hw => ?_, ?_, hlen, fun _ => rfl⟩
    · simp at hw
      subst hw
      exact ⟨decide_eq_true h6, by unfold normP; rfl, .bytes _ (by rw [mkS_size]; omega)⟩
    · rw [wtVs_cons]; unfold wtVs wtV; rw [mkS_size]; omega
  rw [if_neg h6] at h
  have hw2 : wireK f.kind ≠ 2 := by
    unfold wireK
    split
    · decide
    split
    · decide
    rw [if_neg (by omega)]
    decide
  split at h
  · cases h
  · rename_i l' hv
    injection h with h
    subst h
    unfold valuesP at hv
    split at hv
    · rename_i h2
      obtain ⟨g1, g2⟩ := up_good (s := s) (dep := dep) hk h5 h6 h10 _ _ _ (Nat.le_refl _) hv
      refine ⟨g1, by omega, hlen, fun hrep => ?_⟩
      rcases hkn with e | e
      · exact absurd (by omega) hw2
      · rw [hrep] at e; exact absurd e.1 (by decide)
    · rename_i h2
      injection hv with hv
      subst hv
      refine ⟨fun w hw => ?_, ?_, hlen, fun _ => rfl⟩
      · simp at hw
        subst hw
        refine num_good hk h5 h6 h10 (fun e => ?_) hn
        obtain ⟨_, hc⟩ := formedW_cases hx
        have : (x.typ : Int) = 5 := by
          rcases hkn with e1 | e1
          · rw [e] at e1; exact e1
          · omega
        omega
      · rw [wtVs_cons, numP_wt]; unfold wtVs; omega
theorem vals_good {s : SchP} {rec : Int → List UInt8 → RM} {f : FDP} {dep : Int} (hr : RecG s rec (dep + 1)) (hk : 1 ≤ f.kind ∧ f.kind ≤ 10) (hty : f.kind = 10 → 0 ≤ f.ty ∧ f.ty < s.ms.length) : ∀ (l : List FW), (∀ x ∈ l, formedW x = true ∧ x.n < 18446744073709551616 ∧ x.data.length ≤ 4096 ∧ ((x.typ : Int) = wireK f.kind ∨ (f.rep = true ∧ packedK f.kind = true ∧ (x.typ : Int) = 2))) → ∀ acc, valsG rec f l = .ok acc → (∀ v ∈ acc, Good s f dep v) ∧ wtVs acc + 60 * l.length ≤ 100 * entW l ∧ (f.rep = false → acc.length = l.length)
  | [], _, acc, h => by
    unfold valsG at h
    injection h with h
    subst h
    exact ⟨by simp, by unfold wtVs; simp, fun _ => rfl⟩
  | x :: l, hx, acc, h => by
    rw [valsG_cons] at h
    split at h
    · cases h
    · rename_i a ha
      cases hl : valsG rec f l with
      | error e2 => rw [hl] at h; cases h
      | ok b =>
        rw [hl] at h
        injection h with h
        subst h
        obtain ⟨x1, x2, x3, x4⟩ := hx x (by simp)
        obtain ⟨g1, g2, g3, g4⟩ := values_good hr hk hty x1 x2 x3 x4 ha
        obtain ⟨k1, k2, k3⟩ := vals_good hr hk hty l (fun y hy => hx y (by simp [hy])) b hl
        refine ⟨fun v hv => ?_, ?_, fun e => ?_⟩
        · rcases List.mem_append.1 hv with hv | hv
          · exact g1 v hv
          · exact k1 v hv
        · have : wtVs (a ++ b) = wtVs a + wtVs b := wtVs_app a b
          show wtVs (a ++ b) + 60 * (x :: l).length ≤ _
          rw [this, entW_cons, List.length_cons]
          omega
        · show (a ++ b).length = _
          rw [List.length_append, g4 e, k3 e, List.length_cons]
          omega
end Go.Proofs.YtjcolfogmmjaoaaGreatDoor
end

section
set_option linter.unusedVariables false
set_option linter.unusedSimpArgs false
set_option maxRecDepth 100000
set_option maxHeartbeats 1000000
namespace Go.Proofs.YtjcolfogmmjaoaaGreatDoor
open V A
def EntOk (f : FDP) (x : FW) : Prop := formedW x = true ∧ x.n < 18446744073709551616 ∧ x.data.length ≤ 4096 ∧ ((x.typ : Int) = wireK f.kind ∨ (f.rep = true ∧ packedK f.kind = true ∧ (x.typ : Int) = 2))
theorem entW_mem {x : FW} : ∀ {l : List FW}, x ∈ l → entW [x] ≤ entW l
  | y :: l, h => by
    rw [entW_cons y l]
    rcases List.mem_cons.1 h with rfl | h
    · rw [entW_cons]; unfold entW; simp
    · have := entW_mem h; omega
theorem own_good {f : FDP} {l : List FW} (h : ∀ x ∈ l, EntOk f x) (hw : entW l ≤ 4096) : (∀ x ∈ ownG f l, EntOk f x) ∧ entW (ownG f l) ≤ entW l ∧ (f.rep = false → (ownG f l).length ≤ 1) := by
  unfold ownG
  split
  · rename_i hc
    refine ⟨h, Nat.le_refl _, fun e => ?_⟩
    rw [e, Bool.false_or] at hc
    cases l with
    | nil => simp
    | cons _ _ => cases hc
  · rename_i hc
    have hc1 : f.rep = false := by
      cases hr : f.rep
      · rfl
      · rw [hr] at hc; simp at hc
    have hne : l ≠ [] := fun e => by rw [e] at hc; simp at hc
    have hlast : l.getLast?.getD fw0 ∈ l := by
      rcases List.eq_nil_or_concat l with e | ⟨l', y, e⟩
      · exact absurd e hne
      · rw [e, List.concat_eq_append]; simp
    generalize l.getLast?.getD fw0 = y at hlast
    have hy := h y hlast
    split
    · rename_i h10
      have hf := entW_flat l
      have hl1 : 1 ≤ l.length := by
        cases l with
        | nil => exact absurd rfl hne
        | cons _ _ => simp
      have ht : (y.typ : Int) = 2 := by
        rcases hy.2.2.2 with e | e
        · rw [h10] at e; exact e
        · rw [hc1] at e; exact absurd e.1 (by decide)
      have ht2 : y.typ = 2 := by omega
      obtain ⟨y1, y2⟩ := formedW_cases hy.1
      refine ⟨fun x hx => ?_, ?_, fun _ => by simp⟩
      · simp only [List.mem_singleton] at hx
        subst hx
        refine ⟨?_, hy.2.1, by dsimp only; omega, hy.2.2.2⟩
        have hn0 : y.n = 0 := by omega
        unfold formedW
        dsimp only
        rw [Bool.and_eq_true, ht2, hn0]
        exact ⟨decide_eq_true y1, rfl⟩
      · rw [entW_cons, entW_nil]
        dsimp only
        omega
    · refine ⟨fun x hx => ?_, entW_mem hlast, fun _ => by simp⟩
      simp only [List.mem_singleton] at hx
      subst hx
      exact hy
theorem flds_good {s : SchP} {d : MDP} {rec : Int → List UInt8 → RM} {kn : Int → List FW} {dep : Int} (hr : RecG s rec (dep + 1)) : ∀ (dfs : List FDP), dfs.Pairwise (fun f g => f.num < g.num) → (∀ f ∈ dfs, findF d.fs f.num = some f ∧ (1 ≤ f.kind ∧ f.kind ≤ 10) ∧ (f.kind = 10 → 0 ≤ f.ty ∧ f.ty < s.ms.length) ∧ (1 ≤ f.num ∧ f.num ≤ 536870911) ∧ (∀ x ∈ kn f.num, EntOk f x) ∧ entW (kn f.num) ≤ 4096) →
    ∀ fs, fldsG rec kn dfs = .ok fs → ∀ last, (∀ f ∈ dfs, last < f.num) → fitsFs s d dep fs last = true ∧ normFs s d fs = fs ∧ (∀ num vs, VF.mk num vs ∈ fs → vs.length ≤ 100000 ∧ I64 num ∧ ∀ x ∈ vs, WfV x) ∧ wtFs fs ≤ 100 * (dfs.map fun f => entW (kn f.num)).sum ∧ fs.length ≤ dfs.length
  | [], _, _, fs, h, last, _ => by
    unfold fldsG at h
    injection h with h
    subst h
    exact ⟨by unfold fitsFs; rfl, by unfold normFs; rfl, fun num vs hm => by simp at hm, by unfold wtFs; simp, by simp⟩
  | f :: dfs, hp, hf, fs, h, last, hl => by
    rw [List.pairwise_cons] at hp
    obtain ⟨f1, f2, f3, f4, f5, f6⟩ := hf f (by simp)
    rw [fldsG_cons] at h
    split at h
    · cases h
    · rename_i acc hacc
      cases hl2 : fldsG rec kn dfs with
      | error e2 => rw [hl2] at h; cases h
      | ok r =>
        rw [hl2] at h
        injection h with h
        have ih := flds_good hr dfs hp.2 (fun g hg => hf g (by simp [hg])) r hl2
        obtain ⟨o1, o2, o3⟩ := own_good f5 f6
        obtain ⟨g1, g2, g3⟩ := vals_good hr f2 f3 _ o1 acc hacc
        have hat : fAt d f.num = f := by unfold fAt; rw [f1]; rfl
        rw [List.map_cons, List.sum_cons, List.length_cons]
        split at h
        · rename_i hk
          subst h
          obtain ⟨i1, i2, i3, i4, i5⟩ := ih f.num hp.1
          have hne : acc ≠ [] := fun e => by rw [e] at hk; cases hk
          have he : acc.isEmpty = false := by
            cases acc with
            | nil => exact absurd rfl hne
            | cons _ _ => rfl
          have hown : 1 ≤ (ownG f (kn f.num)).length := by
            cases ho : ownG f (kn f.num) with
            | nil => rw [ho] at hacc; unfold valsG at hacc; injection hacc with hacc; exact absurd hacc.symm hne
            | cons _ _ => simp
          have hrl : (f.rep || decide (acc.length ≤ 1)) = true := by
            cases hrep : f.rep with
            | true => rfl
            | false => rw [Bool.false_or]; exact decide_eq_true (by rw [g3 hrep]; exact o3 hrep)
          have hal := wtVs_len acc
          refine ⟨?_, ?_, ?_, ?_, ?_⟩
          · rw [fitsFs_cons, fitsF_mk, f1]
            dsimp only [numF]
            rw [decide_eq_true (hl f (by simp)), he, hrl, goods_fits g1, i1]
            rfl
          · rw [normFs_cons, normF_mk, hat, goods_norm g1, i2]
            have hkn : keepN f.rep acc = true := by
              cases acc with
              | nil => exact absurd rfl hne
              | cons w ws => exact hk
            rw [if_pos hkn]
            rfl
          · intro num vs hm
            rcases List.mem_cons.1 hm with e | hm
            · injection e with e1 e2
              subst e1 e2
              exact ⟨by omega, by unfold I64; omega, fun x hx => (g1 x hx).wf⟩
            · exact i3 num vs hm
          · rw [wtFs_cons, wtF_mk]
            omega
          · simp only [List.length_cons]; omega
        · rename_i hk
          subst h
          obtain ⟨i1, i2, i3, i4, i5⟩ := ih last (fun g hg => by have := hp.1 g hg; have := hl f (by simp); omega)
          exact ⟨i1, i2, i3, by show wtFs r ≤ _; omega, by show r.length ≤ _; omega⟩
theorem find_self {l : List FDP} (h : l.Pairwise (fun f g => f.num < g.num)) : ∀ f ∈ l, findF l f.num = some f := by
  induction l with
  | nil => intro f hf; simp at hf
  | cons g l ih =>
    rw [List.pairwise_cons] at h
    intro f hf
    unfold findF
    rw [List.find?_cons]
    rcases List.mem_cons.1 hf with rfl | hf
    · simp
    · have := h.1 f hf
      rw [decide_eq_false (by omega)]
      exact ih h.2 f hf
theorem dec_good {s : SchP} (hs : SchOk s) : ∀ (n : Nat), n ≤ 16 → RecG s (decM s n) (17 - (n : Int)) := by
  intro n
  induction n with
  | zero =>
    intro _ t bs v _ _ _ h
    unfold decM at h
    cases h
  | succ n ih =>
    intro hn t bs v h0 h1 hl h
    have hr := ih (by omega)
    rw [show (17 : Int) - (n : Int) = (17 - ((n + 1 : Nat) : Int)) + 1 by omega] at hr
    obtain ⟨dep, hdep⟩ : ∃ dep : Int, dep = 17 - ((n + 1 : Nat) : Int) := ⟨_, rfl⟩
    rw [← hdep] at hr ⊢
    have htt : t.toNat < s.ms.length := by omega
    have hm : s.ms[t.toNat]? = some s.ms[t.toNat] := List.getElem?_eq_getElem htt
    have hdm : s.ms[t.toNat] ∈ s.ms := List.getElem_mem htt
    generalize s.ms[t.toNat] = d at hm hdm
    have hd : dAt s t = d := by unfold dAt; rw [hm]; rfl
    have hfo := hs.fs d hdm
    have hpw := fs_pair hfo
    unfold decM at h
    cases hsp : splitW bs with
    | none => rw [hsp] at h; cases h
    | some ws =>
      rw [hsp] at h
      dsimp only at h
      rw [hd] at h
      have hraw := split_raw _ _ _ (Nat.le_refl _) hsp
      have hcat := splitW_cat _ _ _ (Nat.le_refl _) hsp
      have her := entW_raw hraw (fun x => knownP d x.num x.typ)
      rw [hcat] at her
      have hknf : ∀ k, knP d ws k = ((ws.map (·.1)).filter fun x => knownP d x.num x.typ).filter fun x => decide ((x.num : Int) = k) := by
        intro k
        unfold knP
        rw [List.filter_filter]
        exact List.filter_congr fun x _ => by rw [Bool.and_comm]
      have hpart := entW_part d.fs ((ws.map (·.1)).filter fun x => knownP d x.num x.typ) hpw
      simp only [← hknf] at hpart
      cases hfl : fldsG (decM s n) (knP d ws) d.fs with
      | error e => rw [hfl] at h; cases h
      | ok fs =>
        rw [hfl] at h
        injection h with h
        subst h
        have hsum : ∀ f ∈ d.fs, entW (knP d ws f.num) ≤ (d.fs.map fun f => entW (knP d ws f.num)).sum := fun f hf => by
          have key : ∀ (l : List FDP), f ∈ l → entW (knP d ws f.num) ≤ (l.map fun f => entW (knP d ws f.num)).sum := by
            intro l
            induction l with
            | nil => intro h; simp at h
            | cons g l ih =>
              intro h
              rw [List.map_cons, List.sum_cons]
              rcases List.mem_cons.1 h with rfl | h
              · omega
              · have := ih h; omega
          exact key d.fs hf
        obtain ⟨i1, i2, i3, i4, i5⟩ := flds_good (d := d) hr d.fs hpw (fun f hf => by
          refine ⟨find_self hpw f hf, hs.kd d hdm f hf, hs.ty d hdm f hf, hfo.rng f hf, fun x hx => ?_, by have := hsum f hf; omega⟩
          unfold knP at hx
          obtain ⟨hx1, hx2⟩ := List.mem_filter.1 hx
          obtain ⟨y, hy, rfl⟩ := List.mem_map.1 hx1
          obtain ⟨r1, r2, r3, _⟩ := hraw y hy
          rw [Bool.and_eq_true] at hx2
          have hnum := of_decide_eq_true hx2.2
          refine ⟨r1, r2, ?_, ?_⟩
          · have h9 : y.2.length ≤ (ws.flatMap (·.2)).length := by
              have key : ∀ (l : List (FW × List UInt8)), y ∈ l → y.2.length ≤ (l.flatMap (·.2)).length := by
                intro l
                induction l with
                | nil => intro h; simp at h
                | cons g l ih =>
                  intro h
                  rw [List.flatMap_cons, List.length_append]
                  rcases List.mem_cons.1 h with rfl | h
                  · omega
                  · have := ih h; omega
              exact key ws hy
            rw [hcat] at h9
            omega
          · have hk := hx2.1
            unfold knownP at hk
            rw [hnum] at hk
            have hfs : d.fs.find? (fun g => decide (g.num = f.num)) = some f := find_self hpw f hf
            rw [hfs] at hk
            dsimp only at hk
            rw [Bool.or_eq_true, Bool.and_eq_true, Bool.and_eq_true] at hk
            rcases hk with hk | hk
            · exact .inl (of_decide_eq_true hk)
            · exact .inr ⟨hk.1, hk.2.1, of_decide_eq_true hk.2.2⟩) fs hfl 0 (fun f hf => by have := (hfo.rng f hf).1; omega)
        have hul : (mkS (unkP d ws)).size = (unkP d ws).length := mkS_size _
        have hue : (unkP d ws).length = ((ws.filter fun x => !knownP d x.1.num x.1.typ).flatMap (·.2)).length := rfl
        have hf32 := hs.len d hdm
        refine ⟨?_, ?_, ?_, ?_⟩
        · unfold fitsP
          rw [hm]
          dsimp only
          rw [i1, decide_eq_true rfl, decide_eq_true (by omega : dep ≤ 16)]
          have hu : unkOk d (mkS (unkP d ws)) = true := by
            unfold unkOk
            rw [data_mkS]
            have := split_of_raw (ws.filter fun x => !knownP d x.1.num x.1.typ) (fun x hx => hraw x (List.mem_filter.1 hx).1)
            rw [show unkP d ws = (ws.filter fun x => !knownP d x.1.num x.1.typ).flatMap (·.2) from rfl, this]
            dsimp only
            rw [Bool.not_eq_true', List.any_eq_false]
            intro x hx
            have := (List.mem_filter.1 hx).2
            simpa using this
          rw [hu]
          rfl
        · unfold normP
          rw [hd, i2]
        · exact .msg (by omega) (fun num vs hm => (i3 num vs hm).1) (fun num vs hm => (i3 num vs hm).2.1) (by omega) (fun num vs x hm hx => (i3 num vs hm).2.2 x hx)
        · rw [wtV_msg]
          omega
end Go.Proofs.YtjcolfogmmjaoaaGreatDoor
end

section
set_option linter.unusedVariables false
set_option linter.unusedSimpArgs false
namespace Go.Proofs.YtjcolfogmmjaoaaGreatDoor.A
open V
open Go.ChangeShapes Go.RowKit
section
variable {H : Type} {enc : TypeId × Value → H} {P : Program}
theorem law_postW {s : ChangeSpec} {fn : Func} {f : FuncId} {b : TypeId} (tl : List TypeId) (hl : laidOutB P = true) (hp : fn.params.toList.all (fun t => P.readableRec t && decide (t < P.types.size)) = true)
    (hlay : layOk P tl = true) (hin : fn.params.toList.all tl.contains = true) (hb : fn.resultTypes = #[b]) (hub : P.underlying b = some .bool) (hvars : s.vars = [])
    (hfn : ∀ ds : List (DataW H), ds.length = fn.params.toList.length → (s.fn H ds).results = [.lit (.bool true)] ∧ (s.fn H ds).args = ds ∧ (s.fn H ds).vars = [])
    (W : World) (base : Nat) (args : Array Value) (ds gs : List (DataW H)) (before : List MemPlace) (hval : ∀ (j : Nat) t v, fn.params[j]? = some t → args[j]? = some v → Value.okWide P W .any base t v)
    (hW : DataW.Whole enc P fn.params.toList s.vars false W args.toList ds gs before)
    (hsz : (DataW.weightsEach P (fn.params.toList ++ s.plain.varTypes P) (ds ++ gs)).all (· ≤ reachBytes) = true) (hvt : s.plain.varTypes P = []) (walk : ArgsT P W fn.params.toList args.toList → Calls P f args W (LawR W)) :
    Calls P f args W fun e W' => ∃ v, e = .returned v ∧ s.post enc P fn false true false false W args v W' := by
  have hW' := hW
  obtain ⟨p, q, hA, hV, rfl, hfz, hnd⟩ := hW
  rw [hvars] at hV
  obtain ⟨rfl, rfl⟩ := trodVars_none hV
  obtain ⟨hargs, hn, hd⟩ := args_okT hlay hA hin (by simpa [hvt] using hsz) fun j t v hj hv => hval j t v (by simpa using hj) (by simpa using hv)
  refine (walk hargs).mono fun e W' ⟨he, hev⟩ => ?_
  subst he
  obtain ⟨r1, r2, r3⟩ := hfn (ds ++ []) (by simpa using hd)
  refine ⟨_, rfl, ds, [], p ++ [], [], p, [], hW', ?_, ?_, ?_, hev.below.frame _, fun h => by cases h⟩
  · rw [r1, hb]
    exact trodAll_mk1 (shut_bool hub _)
  · rw [r2]
    simpa using args_same hl hev.below hp hA (DataW.TrodAll.lt hA)
  · rw [hvars, r3]
    unfold DataW.TrodVars; rfl
end
end Go.Proofs.YtjcolfogmmjaoaaGreatDoor.A
namespace Go.Proofs.YtjcolfogmmjaoaaGreatDoor
open V A
open Go.Shelf
theorem u8_extra : U8Extra Tryz.prog u8Ren := ⟨by kernel_rfl, by kernel_rfl, by kernel_rfl, by kernel_rfl, by kernel_rfl, by kernel_rfl, by kernel_rfl⟩
theorem u8_tabs {w : World} {l : List (String × DataW Unit)} (h : laidMet Tryz.prog l w) (h3 : ("unicode/utf8.first", Go.Lib.firstData) ∈ l) (h4 : ("unicode/utf8.acceptRanges", Go.Lib.acceptData) ∈ l) : Lib.Utf8Tabs (u8g 3) (u8g 4) w :=
  utf8Tabs_of_readsT (U8Types.of196 u8Lay) u8_extra (Lib.laidMet.reads h h3) (Lib.laidMet.reads h h4)
theorem law_ofU {f : FuncId} {W : World} {args : Array Value} {xs : List AV} (ht : Lib.Utf8Tabs (u8g 3) (u8g 4) W) (spec : FSpec Tryz.prog f xs [u8C] fun a cs => a = .v (.bool true) 0 ∧ cs = [u8C]) (hr : Reps no W xs args.toList) : Calls Tryz.prog f args W (LawR W) := by
  have hh : HoldsL (or2 no no) W [u8C] no := ⟨no, no, fun b => ⟨.inl, fun h => h.elim id id⟩, fun _ h => h.elim, ⟨fun _ h => h, ht, fun h => h.elim id id, fun h => h.elim id id⟩, fun _ h => h⟩
  have := spec.out no no W args.toList (fun b h => h.elim) (fun b h => h.elim) hh (hr.of fun b _ h => h.elim id id)
  simp only [Array.toArray_toList] at this
  refine this.mono fun e w' ⟨v, a, cs, S', he, ha, hrep, _, hev, _⟩ => ?_
  rw [ha.1] at hrep
  rw [he, rep_v hrep]
  exact ⟨rfl, hev⟩
end Go.Proofs.YtjcolfogmmjaoaaGreatDoor
end

section
set_option linter.unusedVariables false
set_option linter.unusedSimpArgs false
set_option maxRecDepth 100000
set_option maxHeartbeats 2000000
namespace Go.Proofs.YtjcolfogmmjaoaaGreatDoor
open V A
theorem dec_topGood {s : SchP} {t : Int} {bs : List UInt8} {v : VL} (h : decTop s t bs = .ok v) : fitsTop s v t = true ∧ normP s v = v ∧ WfV v ∧ wtV v ≤ 500000 := by
  unfold decTop at h
  split at h
  · cases h
  · rename_i hc
    split at h
    · cases h
    · rename_i hl
      simp only [Bool.or_eq_true, not_or, Bool.not_eq_true', Bool.not_eq_false, decide_eq_true_eq] at hc
      obtain ⟨hform, h0, h1⟩ := hc
      have hform : formedP s = true := by simpa using hform
      obtain ⟨g1, g2, g3, g4⟩ := dec_good (schOk hform) 16 (Nat.le_refl _) t bs v (by omega) (by omega) (by omega) h
      rw [show (17 : Int) - ((16 : Nat) : Int) = 1 by decide] at g1
      refine ⟨?_, g2, g3, by omega⟩
      unfold fitsTop
      rw [hform, decide_eq_true (by omega : 0 ≤ t), decide_eq_true (by omega : t < s.ms.length), g1]
      rfl
end Go.Proofs.YtjcolfogmmjaoaaGreatDoor
end

section
set_option linter.unusedVariables false
set_option linter.unusedSimpArgs false
set_option maxRecDepth 100000
set_option maxHeartbeats 1000000
namespace Go.Proofs.YtjcolfogmmjaoaaGreatDoor
open V A
theorem valsG_join {rec : Int → List UInt8 → RM} {f : FDP} : ∀ {l m : List FW} {a b : List VL}, valsG rec f l = .ok a → valsG rec f m = .ok b → valsG rec f (l ++ m) = .ok (a ++ b)
  | [], m, a, b, h1, h2 => by
    unfold valsG at h1
    injection h1 with h1
    subst h1
    exact h2
  | x :: l, m, a, b, h1, h2 => by
    rw [List.cons_append]
    unfold valsG at h1 ⊢
    split at h1
    · cases h1
    · rename_i a1 e1
      split at h1
      · cases h1
      · rename_i b1 e2
        injection h1 with h1
        subst h1
        rw [valsG_join e2 h2]
        dsimp only
        rw [List.append_assoc]
def JoinG (rec : Int → List UInt8 → RM) : Prop := ∀ (t : Int) (b c : List UInt8) (v w : VL), rec t b = .ok v → rec t c = .ok w → ∃ u, rec t (b ++ c) = .ok u
theorem valsG_one {rec : Int → List UInt8 → RM} {f : FDP} {x : FW} {a : List VL} : valsG rec f [x] = .ok a ↔ valuesG rec f x = .ok a := by
  unfold valsG
  cases valuesG rec f x with
  | error e => exact ⟨fun h => h, fun h => h⟩
  | ok l =>
    unfold valsG
    dsimp only
    rw [List.append_nil]
theorem last_app {l m : List FW} (h : m ≠ []) : (l ++ m).getLast? = m.getLast? := by
  rw [List.getLast?_append]
  cases hm : m.getLast? with
  | none => exact absurd (List.getLast?_eq_none_iff.1 hm) h
  | some x => rfl
theorem own_joins {rec : Int → List UInt8 → RM} {f : FDP} (hj : JoinG rec) {l m : List FW} {a b : List VL} (h1 : valsG rec f (ownG f l) = .ok a) (h2 : valsG rec f (ownG f m) = .ok b) : (∃ c, valsG rec f (ownG f (l ++ m)) = .ok c) ∧ (f.rep = true → valsG rec f (ownG f (l ++ m)) = .ok (a ++ b)) := by
  cases hrep : f.rep with
  | true =>
    have e : ∀ x, ownG f x = x := fun x => by unfold ownG; rw [hrep]; rfl
    rw [e] at h1 h2 ⊢
    exact ⟨⟨_, valsG_join h1 h2⟩, fun _ => valsG_join h1 h2⟩
  | false =>
    refine ⟨?_, fun h => by cases h⟩
    by_cases hm : m = []
    · subst hm
      rw [List.append_nil]
      exact ⟨a, h1⟩
    by_cases hl : l = []
    · subst hl
      exact ⟨b, h2⟩
    have hne : l ++ m ≠ [] := fun e => hm (List.append_eq_nil_iff.1 e).2
    have e : ∀ x, x ≠ [] → ownG f x = if f.kind = 10 then [⟨(x.getLast?.getD fw0).num, (x.getLast?.getD fw0).typ, (x.getLast?.getD fw0).n, x.flatMap (·.data)⟩] else [x.getLast?.getD fw0] := fun x hx => by
      have : x.isEmpty = false := by
        cases x with
        | nil => exact absurd rfl hx
        | cons _ _ => rfl
      unfold ownG
      rw [hrep, this]
      rfl
    rw [e _ hm] at h2
    rw [e _ hl] at h1
    rw [e _ hne, last_app hm]
    by_cases hk : f.kind = 10
    · rw [if_pos hk] at h1 h2 ⊢
      rw [valsG_one] at h1 h2
      unfold valuesG at h1 h2
      rw [if_pos hk] at h1 h2
      dsimp only at h1 h2
      split at h1
      · cases h1
      · rename_i v hv
        split at h2
        · cases h2
        · rename_i w hw
          obtain ⟨u, hu⟩ := hj _ _ _ _ _ hv hw
          refine ⟨[u], valsG_one.2 ?_⟩
          unfold valuesG
          rw [if_pos hk]
          dsimp only
          rw [List.flatMap_append, hu]
    · rw [if_neg hk] at h2 ⊢
      exact ⟨b, h2⟩
theorem getFs_none {rec : Int → List UInt8 → RM} {kn : Int → List FW} : ∀ {dfs : List FDP} {fs : List VF} {k : Int}, fldsG rec kn dfs = .ok fs → (∀ f ∈ dfs, f.num ≠ k) → getFs fs k = []
  | [], fs, k, h, _ => by
    unfold fldsG at h
    injection h with h
    subst h
    rfl
  | f :: dfs, fs, k, h, hk => by
    unfold fldsG at h
    split at h
    · cases h
    · split at h
      · cases h
      · rename_i r hr
        injection h with h
        have ih := getFs_none hr fun f hf => hk f (by simp [hf])
        split at h
        · subst h
          unfold getFs
          rw [if_neg (hk f (by simp)), ih]
        · subst h
          exact ih
theorem getFs_rep {rec : Int → List UInt8 → RM} {kn : Int → List FW} : ∀ {dfs : List FDP} {fs : List VF}, dfs.Pairwise (fun f g => f.num < g.num) → fldsG rec kn dfs = .ok fs → ∀ f ∈ dfs, f.rep = true → valsG rec f (ownG f (kn f.num)) = .ok (getFs fs f.num)
  | [], fs, _, h, f, hf, _ => by simp at hf
  | g :: dfs, fs, hp, h, f, hf, hrep => by
    rw [List.pairwise_cons] at hp
    unfold fldsG at h
    split at h
    · cases h
    · rename_i l hl
      split at h
      · cases h
      · rename_i r hr
        injection h with h
        rcases List.mem_cons.1 hf with rfl | hf
        · have hno := getFs_none (k := f.num) hr fun g hg => by have := hp.1 g hg; omega
          rw [hl]
          split at h
          · subst h
            unfold getFs
            rw [if_pos rfl]
          · rename_i hk
            subst h
            rw [hno]
            unfold keepP at hk
            rw [hrep, Bool.true_or, Bool.and_true] at hk
            cases l with
            | nil => rfl
            | cons _ _ => exact absurd rfl hk
        · have ih := getFs_rep hp.2 hr f hf hrep
          rw [ih]
          split at h
          · subst h
            conv => rhs; unfold getFs
            rw [if_neg (by have := hp.1 f hf; omega)]
          · subst h
            rfl
theorem fldsG_ok {rec : Int → List UInt8 → RM} {kn : Int → List FW} : ∀ {dfs : List FDP}, (∀ f ∈ dfs, ∃ a, valsG rec f (ownG f (kn f.num)) = .ok a) → ∃ fs, fldsG rec kn dfs = .ok fs
  | [], _ => ⟨[], rfl⟩
  | f :: dfs, h => by
    obtain ⟨a, ha⟩ := h f (by simp)
    obtain ⟨r, hr⟩ := fldsG_ok fun g hg => h g (List.mem_cons_of_mem f hg)
    unfold fldsG
    rw [ha, hr]
    exact ⟨_, rfl⟩
theorem fldsG_all {rec : Int → List UInt8 → RM} {kn : Int → List FW} : ∀ {dfs : List FDP} {fs : List VF}, fldsG rec kn dfs = .ok fs → ∀ f ∈ dfs, ∃ a, valsG rec f (ownG f (kn f.num)) = .ok a
  | [], fs, h, f, hf => by simp at hf
  | g :: dfs, fs, h, f, hf => by
    unfold fldsG at h
    split at h
    · cases h
    · rename_i l hl
      split at h
      · cases h
      · rename_i r hr
        rcases List.mem_cons.1 hf with rfl | hf
        · exact ⟨l, hl⟩
        · exact fldsG_all hr f hf
theorem knP_join (d : MDP) (a b : List (FW × List UInt8)) (k : Int) : knP d (a ++ b) k = knP d a k ++ knP d b k := by
  unfold knP
  rw [List.map_append, List.filter_append]
theorem split_join {b c : List UInt8} {ws us : List (FW × List UInt8)} (h1 : splitW b = some ws) (h2 : splitW c = some us) : splitW (b ++ c) = some (ws ++ us) := by
  have r1 := split_raw _ _ _ (Nat.le_refl _) h1
  have r2 := split_raw _ _ _ (Nat.le_refl _) h2
  have c1 := splitW_cat _ _ _ (Nat.le_refl _) h1
  have c2 := splitW_cat _ _ _ (Nat.le_refl _) h2
  have := split_of_raw (ws ++ us) fun x hx => by
    rcases List.mem_append.1 hx with hx | hx
    · exact r1 x hx
    · exact r2 x hx
  rw [List.flatMap_append, c1, c2] at this
  exact this
theorem decM_joins {s : SchP} : ∀ (n : Nat), JoinG (decM s n)
  | 0 => fun t b c v w h1 h2 => by unfold decM at h1; cases h1
  | n + 1 => fun t b c v w h1 h2 => by
    have ih := decM_joins (s := s) n
    unfold decM at h1 h2 ⊢
    cases e1 : splitW b with
    | none => rw [e1] at h1; cases h1
    | some ws =>
      cases e2 : splitW c with
      | none => rw [e2] at h2; cases h2
      | some us =>
        rw [e1] at h1
        rw [e2] at h2
        rw [split_join e1 e2]
        dsimp only at h1 h2 ⊢
        cases g1 : fldsG (decM s n) (knP (dAt s t) ws) (dAt s t).fs with
        | error e => rw [g1] at h1; cases h1
        | ok fs1 =>
          cases g2 : fldsG (decM s n) (knP (dAt s t) us) (dAt s t).fs with
          | error e => rw [g2] at h2; cases h2
          | ok fs2 =>
            obtain ⟨fs, hfs⟩ := fldsG_ok (rec := decM s n) (kn := knP (dAt s t) (ws ++ us)) (dfs := (dAt s t).fs) fun f hf => by
              obtain ⟨a, ha⟩ := fldsG_all g1 f hf
              obtain ⟨a2, ha2⟩ := fldsG_all g2 f hf
              rw [knP_join]
              exact (own_joins ih ha ha2).1
            rw [hfs]
            exact ⟨_, rfl⟩
theorem decTop_joins {s : SchP} {t : Int} {b c : List UInt8} {v w : VL} (h1 : decTop s t b = .ok v) (h2 : decTop s t c = .ok w) (hl : b.length + c.length ≤ 4096) : ∃ u, decTop s t (b ++ c) = .ok u ∧ ∀ f ∈ (dAt s t).fs, f.rep = true → (getP u f.num).length = (getP v f.num).length + (getP w f.num).length := by
  unfold decTop at h1 h2 ⊢
  split at h1
  · cases h1
  · rename_i hc
    rw [if_neg hc] at h2 ⊢
    rw [if_neg (by omega)] at h1 h2
    rw [if_neg (by rw [List.length_append]; omega)]
    simp only [Bool.or_eq_true, not_or, Bool.not_eq_true', Bool.not_eq_false, decide_eq_true_eq] at hc
    obtain ⟨hform, h0, h9⟩ := hc
    have hform : formedP s = true := by simpa using hform
    have hs := schOk hform
    have hm : s.ms[t.toNat]? = some (s.ms[t.toNat]'(by omega)) := List.getElem?_eq_getElem (by omega)
    have hd : dAt s t ∈ s.ms := by unfold dAt; rw [hm]; exact List.getElem_mem _
    have hpw := fs_pair (hs.fs _ hd)
    obtain ⟨u, hu⟩ := decM_joins 16 t b c v w h1 h2
    refine ⟨u, hu, fun f hf hrep => ?_⟩
    unfold decM at h1 h2 hu
    cases e1 : splitW b with
    | none => rw [e1] at h1; cases h1
    | some ws =>
      cases e2 : splitW c with
      | none => rw [e2] at h2; cases h2
      | some us =>
        rw [e1] at h1
        rw [e2] at h2
        rw [split_join e1 e2] at hu
        dsimp only at h1 h2 hu
        split at h1
        · cases h1
        · rename_i fs1 g1
          split at h2
          · cases h2
          · rename_i fs2 g2
            split at hu
            · cases hu
            · rename_i fs g
              injection h1 with h1
              injection h2 with h2
              injection hu with hu
              subst h1 h2 hu
              have k1 := getFs_rep hpw g1 f hf hrep
              have k2 := getFs_rep hpw g2 f hf hrep
              have k := getFs_rep hpw g f hf hrep
              rw [knP_join, (own_joins (decM_joins 15) k1 k2).2 hrep] at k
              injection k with k
              show (getFs fs f.num).length = (getFs fs1 f.num).length + (getFs fs2 f.num).length
              rw [← k, List.length_append]
theorem getFs_norm {s : SchP} {d : MDP} {dep : Int} {f : FDP} (hrep : f.rep = true) (hff : findF d.fs f.num = some f) : ∀ {fs : List VF} {last : Int}, fitsFs s d dep fs last = true → (getFs (normFs s d fs) f.num).length = (getFs fs f.num).length
  | [], last, h => by unfold normFs; rfl
  | .mk num vs :: fs, last, h => by
    have ih := getFs_norm (s := s) (d := d) (dep := dep) hrep hff (fitsFs_tl h)
    obtain ⟨_, g, hg, hne, _, _⟩ := fitsFs_mem h num vs (by simp)
    rw [normFs_cons, normF_mk]
    conv => rhs; unfold getFs
    by_cases hk : num = f.num
    · subst hk
      have hat : fAt d f.num = f := by unfold fAt; rw [hff]; rfl
      have hkn : keepN (fAt d f.num).rep (normVs s vs) = true := by
        rw [hat, hrep, normVs_map]
        cases vs with
        | nil => exact absurd rfl hne
        | cons _ _ => rfl
      rw [if_pos hkn, if_pos rfl, List.cons_append]
      unfold getFs
      rw [if_pos rfl, normVs_map, List.length_map]
    · rw [if_neg hk]
      split
      · rw [List.cons_append, List.nil_append]
        conv => lhs; unfold getFs
        rw [if_neg hk, ih]
      · rw [List.nil_append, ih]
theorem get_norm {s : SchP} {v : VL} {t : Int} (h : fitsTop s v t = true) : ∀ f ∈ (dAt s t).fs, f.rep = true → (getP (normP s v) f.num).length = (getP v f.num).length := by
  obtain ⟨fs, u, rfl, hform, h0, h1, hf⟩ := fits_msg h
  intro f hff hrep
  have hs := schOk hform
  unfold fitsP at hf
  rw [Bool.and_eq_true] at hf
  have hm : s.ms[t.toNat]? = some (s.ms[t.toNat]'(by omega)) := List.getElem?_eq_getElem (by omega)
  have hd : dAt s t = s.ms[t.toNat]'(by omega) := by unfold dAt; rw [hm]; rfl
  rw [hm] at hf
  have hf := hf.2
  dsimp only at hf
  rw [← hd, Bool.and_eq_true] at hf
  have hdm : dAt s t ∈ s.ms := by rw [hd]; exact List.getElem_mem _
  have hpw := fs_pair (hs.fs _ hdm)
  unfold normP
  exact getFs_norm hrep (find_self hpw f hff) hf.2
theorem okV_wf {v : VL} (h : WfV v) : OkV v := by
  induction h with
  | none => exact .none
  | int n _ => exact .int n
  | uint n _ => exact .uint n
  | bool n => exact .bool n
  | text n _ => exact .text n
  | bytes n _ => exact .bytes n
  | enum n h1 h2 => exact .enum n h1 h2
  | msg h1 h2 h3 h4 h5 ih => exact .msg h1 h2 ih
end Go.Proofs.YtjcolfogmmjaoaaGreatDoor
end

section
set_option linter.unusedVariables false
set_option linter.unusedSimpArgs false
set_option maxRecDepth 100000
set_option maxHeartbeats 2000000
namespace Go.Proofs.YtjcolfogmmjaoaaGreatDoor
open V A
theorem encTop_len (s : SchP) (v : VL) (t : Int) : (encTop s v t).1.length ≤ 4096 := by
  unfold encTop
  split
  · split
    · exact Nat.zero_le _
    · dsimp only; omega
  · exact Nat.zero_le _
theorem encTop_ok {s : SchP} {v : VL} {t : Int} (hwf : WfV v) (hw : wtV v ≤ 100000000) (h : (encTop s v t).2 = 0) : decTop s t (encTop s v t).1 = .ok (normP s v) ∧ fitsTop s v t = true := by
  unfold encTop at h ⊢
  split at h
  · rename_i hf
    rw [if_pos hf]
    split at h
    · cases h
    · rename_i hl
      rw [if_neg hl]
      exact ⟨dec_top hwf hw hf (by omega), hf⟩
  · cases h
theorem getFs_len : ∀ {fs : List VF} {k : Int}, (∀ num vs, VF.mk num vs ∈ fs → vs.length ≤ 100000) → (getFs fs k).length ≤ 100000
  | [], k, _ => Nat.zero_le _
  | .mk num vs :: fs, k, h => by
    unfold getFs
    split
    · exact h num vs (by simp)
    · exact getFs_len fun n v hm => h n v (by simp [hm])
theorem get_len {v : VL} (h : OkV v) (k : Int) : (getP v k).length ≤ 100000 := by
  cases h with
  | msg h1 h2 h3 => exact getFs_len h2
  | _ => exact Nat.zero_le _
theorem DecodeJoins_spec {s : SchP} {t : Int} {x y : ND} (hb : BdS s) (hx : BdN x) (hrx : RgN x) (hy : BdN y) (hry : RgN y) : FSpec Tryz.prog 10 [schA s, .v (kI t) 0, ndA x, ndA y] [u8C] fun a cs => a = bA true ∧ cs = [u8C] := by
  have hA := awake11_spec
  have hF := Few_spec hb hx
  have hF2 := Few_spec hb hy
  have hok := fun h => ok_small x 0 400 (by decide) h
  have hoky := fun h => ok_small y 0 400 (by decide) h
  have hwtx := wt_small x 0 400
  have hwty := wt_small y 0 400
  have hwfx := fun h h2 => wf_theirs x hrx (hok h) h2
  have hwfy := fun h h2 => wf_theirs y hry (hoky h) h2
  have hTx := fun h => Theirs_spec (hok h)
  have hTy := fun h => Theirs_spec (hoky h)
  have hVx := fun h => okV_theirs x (hok h)
  have hVy := fun h => okV_theirs y (hoky h)
  generalize theirsP x = v at hwtx hwfx hTx hVx
  generalize theirsP y = w at hwty hwfy hTy hVy
  generalize smallP x 0 400 = sx at *
  generalize smallP y 0 400 = sy at *
  obtain ⟨xk, xn, xu, xb, xs, xt, xf⟩ := x
  obtain ⟨yk, yn, yu, yb, ys, yt, yf⟩ := y
  refine a_enter hT [schA s, .v (kI t) 0, ndA (.mk xk xn xu xb xs xt xf), ndA (.mk yk yn yu yb ys yt yf)] [60] Tryz.func10 rfl rfl rfl ⟨Fit.refl _, rfl, Fit.refl _, Fit.refl _, trivial⟩ fun c' => ?_
  refine a_box hT 61 rfl rfl rfl rfl fun g1 => ?_
  refine a_box hT 62 rfl rfl rfl rfl fun g2 => ?_
  refine a_box hT 63 rfl rfl rfl rfl fun g3 => ?_
  refine a_freezeK 4 61 rfl rfl rfl rfl rfl ?_
  refine a_freezeK 6 62 rfl rfl rfl rfl rfl ?_
  refine a_freezeK 7 63 rfl rfl rfl rfl rfl ?_
  refine a_call hT rfl rfl rfl (by kernel_rfl) hA [] [] rfl rfl ?_
  rintro _ _ ⟨rfl, rfl⟩
  refine a_gf hT rfl rfl rfl rfl ?_
  refine a_call hT rfl rfl rfl (by kernel_rfl) hF [] [] rfl rfl ?_
  rintro _ _ ⟨⟨b1, rfl, h1⟩, rfl⟩
  cases b1 with
  | false =>
    refine a_gt hT rfl rfl rfl rfl ?_
    refine a_t hT rfl rfl rfl ?_
    refine a_call hT rfl rfl rfl (by kernel_rfl) hA [] [] rfl rfl ?_
    rintro _ _ ⟨rfl, rfl⟩
    refine a_ret hT [60] rfl rfl rfl rfl rfl rfl ?_
    exact ⟨rfl, rfl⟩
  | true =>
  refine a_gf hT rfl rfl rfl rfl ?_
  refine a_call hT rfl rfl rfl (by kernel_rfl) hF2 [] [] rfl rfl ?_
  rintro _ _ ⟨⟨b2, rfl, h2⟩, rfl⟩
  cases b2 with
  | false =>
    refine a_t hT rfl rfl rfl ?_
    refine a_call hT rfl rfl rfl (by kernel_rfl) hA [] [] rfl rfl ?_
    rintro _ _ ⟨rfl, rfl⟩
    refine a_ret hT [60] rfl rfl rfl rfl rfl rfl ?_
    exact ⟨rfl, rfl⟩
  | true =>
  refine a_f hT rfl rfl rfl ?_
  obtain ⟨hs, q1⟩ := h1 rfl
  obtain ⟨_, q2⟩ := h2 rfl
  have hwtx := hwtx q1
  have hwty := hwty q2
  have hwfx := hwfx q1 (by omega)
  have hwfy := hwfy q2 (by omega)
  have hTx := hTx q1
  have hTy := hTy q2
  have hVx := hVx q1
  have hVy := hVy q2
  clear hF hF2 hok hoky h1 h2
  have hE := (Encode_spec hs hwfx (by omega) (t := t)).les (.cons (Le.refl _) (.cons (Le.refl _) (.cons nd_of .nil)))
  have hE2 := (Encode_spec hs hwfy (by omega) (t := t)).les (.cons (Le.refl _) (.cons (Le.refl _) (.cons nd_of .nil)))
  have ho := encTop_ok (s := s) (t := t) hwfx (by omega)
  have ho2 := encTop_ok (s := s) (t := t) hwfy (by omega)
  have hl := encTop_len s v t
  have hl2 := encTop_len s w t
  generalize encTop s v t = R at hE ho hl
  generalize encTop s w t = R2 at hE2 ho2 hl2
  obtain ⟨bs, er⟩ := R
  obtain ⟨cs, er2⟩ := R2
  dsimp only at ho ho2 hl hl2
  refine a_draw hT [60] false [(0, false), (1, false), (2, false), (3, true), (4, true), (5, true), (6, false), (7, false), (8, true), (9, true)] rfl rfl (by kernel_rfl) (by kernel_rfl) rfl ?_
  refine a_call hT rfl rfl rfl (by kernel_rfl) hTx [] [] rfl rfl ?_
  rintro _ _ ⟨rfl, rfl⟩
  refine a_call hT rfl rfl rfl (by kernel_rfl) hE [60] [60] rfl rfl ?_
  rintro _ _ ⟨rfl, rfl⟩
  refine a_draw hT [60] false [(0, false), (1, false), (2, false), (3, true), (4, true), (5, true), (6, false), (7, false), (8, true), (9, true)] rfl rfl (by kernel_rfl) (by kernel_rfl) rfl ?_
  refine a_call hT rfl rfl rfl (by kernel_rfl) hTy [] [] rfl rfl ?_
  rintro _ _ ⟨rfl, rfl⟩
  refine a_call hT rfl rfl rfl (by kernel_rfl) hE2 [60] [60] rfl rfl ?_
  rintro _ _ ⟨rfl, rfl⟩
  refine a_g hT rfl rfl rfl (fun h => ?_) (fun h => ?_)
  · refine a_gt hT rfl rfl rfl rfl ?_
    refine a_t hT rfl rfl rfl ?_
    refine a_ret hT [60] rfl rfl rfl rfl rfl rfl ?_
    exact ⟨rfl, rfl⟩
  · have h : (!decide (er = 0)) = false := h
    have he : er = 0 := by simpa using h
    refine a_g hT rfl rfl rfl (fun h2 => ?_) (fun h2 => ?_)
    · refine a_t hT rfl rfl rfl ?_
      refine a_ret hT [60] rfl rfl rfl rfl rfl rfl ?_
      exact ⟨rfl, rfl⟩
    · have h2 : (!decide (er2 = 0)) = false := h2
      have he2 : er2 = 0 := by simpa using h2
      subst he he2
      obtain ⟨o1, o2⟩ := ho rfl
      obtain ⟨o3, o4⟩ := ho2 rfl
      have l1 := bytesD_len bs
      have l2 := bytesD_len cs
      refine a_if hT rfl rfl (fun h3 => ?_) (fun h3 => ?_)
      · refine a_ret hT [60] rfl rfl rfl rfl rfl rfl ?_
        exact ⟨rfl, rfl⟩
      · have h3 : ¬ IntKind.i64.wrap (((bs.map eB).length : Int) + ((cs.map eB).length : Int)) > 4096 := of_decide_eq_false h3
        rw [l1, l2, w64 (by omega) (by omega)] at h3
        obtain ⟨u, hu, hug⟩ := decTop_joins o1 o3 (by omega)
        have hD := Decode_specG hs (t := t) (bs := bs ++ cs) (by rw [List.length_append]; omega)
        rw [hu] at hD
        refine a_draw hT [60] false [(0, false), (1, false), (3, false), (5, false), (2, true), (4, true), (6, true), (7, true), (8, true), (9, false), (10, false), (11, true), (12, true)] rfl rfl (by kernel_rfl) (by kernel_rfl) rfl ?_
        refine a_lit hT 61 rfl rfl rfl rfl (by kernel_rfl) rfl rfl rfl rfl fun x61 => ?_
        refine a_app hT 61 _ rfl rfl rfl rfl (by kernel_rfl) rfl rfl rfl rfl rfl rfl (by first | (simp; done) | (simp; omega) | (simp; unfold lim; omega) | (simp; assumption)) fun v1 => ?_
        refine a_app hT 61 _ rfl rfl rfl rfl (by kernel_rfl) rfl rfl rfl rfl rfl rfl (by first | (simp; done) | (simp; omega) | (simp; unfold lim; omega) | (simp; assumption)) fun v2 => ?_
        refine a_freezeR 73 61 rfl rfl rfl rfl ?_
        have e1 : A.bytesD (bs ++ cs) = .sl 1 ([] ++ bs.map eB ++ cs.map eB) := by show A.Dat.sl 1 _ = _; rw [List.map_append]; rfl
        rw [e1] at hD
        refine a_call hT rfl rfl rfl (by kernel_rfl) hD [60] [60] rfl rfl ?_
        rintro _ _ ⟨rfl, rfl⟩
        refine a_gf hT rfl rfl rfl rfl ?_
        obtain ⟨fs1, u1, ev, hform, t0, t1, _⟩ := fits_msg o2
        have lm : (s.ms.map eM).length = s.ms.length := List.length_map _
        refine a_gf hT rfl rfl rfl (decide_eq_false (by show ¬ t < 0; omega)) ?_
        refine a_f hT rfl rfl (decide_eq_false (by show ¬ t ≥ ((s.ms.map eM).length : Int); omega)) ?_
        have hat : (s.ms.map eM)[t.toNat]? = some (eM (dAt s t)) := by
          have hm : s.ms[t.toNat]? = some (s.ms[t.toNat]'(by omega)) := List.getElem?_eq_getElem (by omega)
          rw [List.getElem?_map, hm]
          unfold dAt
          rw [hm]
          rfl
        have hdm : dAt s t ∈ s.ms := by
          have hm : s.ms[t.toNat]? = some (s.ms[t.toNat]'(by omega)) := List.getElem?_eq_getElem (by omega)
          unfold dAt
          rw [hm]
          exact List.getElem_mem _
        have hlf := (schOk hform).len _ hdm
        have hgx := get_norm o2
        have hgy := get_norm o4
        have hVu := okV_wf (dec_topGood hu).2.2.1
        have hbx : ∀ k, (getP v k).length ≤ 100000 := fun k => get_len hVx k
        have hby : ∀ k, (getP w k).length ≤ 100000 := fun k => get_len hVy k
        have hub : ∀ k, (getP u k).length ≤ 100000 := fun k => get_len hVu k
        generalize dAt s t = d at *
        obtain ⟨dn, df⟩ := d
        refine a_ix hT _ rfl rfl rfl rfl rfl rfl (by omega) hat ?_
        refine a_new hT hZ 61 rfl rfl rfl rfl fun g => ?_
        refine a_run hT 1 rfl rfl ?_
        refine a_freezeK 15 61 rfl rfl rfl rfl rfl ?_
        have lf : (df.map eF).length = df.length := List.length_map _
        refine a_loop hT [6, 7, 13, 15, 97, 98] (fun i : Nat => [.d (.p [.v (kI xk), .v (kI xn), .v (kU xu), .v (.bool xb), .v (.string xs), .v (kI xt), .sl 2 (nfsD xf)]), .d (.p [.v (kI yk), .v (kI yn), .v (kU yu), .v (.bool yb), .v (.string ys), .v (kI yt), .sl 2 (nfsD yf)]), .d (vlD u), .d (.p (eM ⟨dn, df⟩)), .v (kI df.length) 0, .v (kI i) 0]) (fun _ => [(60, u8C)]) (fun i => i ≤ df.length) (fun i => df.length - i) 0 [60] rfl rfl (Nat.zero_le _) ⟨rfl, rfl, rfl, rfl, by rw [← lf]; rfl, rfl, trivial⟩ rfl ⟨rfl, trivial⟩ ?_
        intro i hi
        have hlf : df.length ≤ 32 := hlf
        have hw := wN i (by omega)
        rcases Nat.lt_or_ge i df.length with hil | hil
        · have hatf : (df.map eF)[(i : Int).toNat]? = some (eF df[i]) := by rw [Int.toNat_natCast, List.getElem?_map, List.getElem?_eq_getElem hil]; rfl
          have hmf : df[i] ∈ df := List.getElem_mem hil
          have hug := hug _ hmf
          have hgx := hgx _ hmf
          have hgy := hgy _ hmf
          generalize df[i] = f at hatf hug hgx hgy
          obtain ⟨fnum, fname, fkind, frep, fty⟩ := f
          dsimp only at hug hgx hgy
          have hG := (Get_spec (k := fnum) hVu).les (.cons nd_of (.cons (Le.refl _) .nil))
          have hGx := (Get_spec (k := fnum) hVx).les (.cons nd_of (.cons (Le.refl _) .nil))
          have hGy := (Get_spec (k := fnum) hVy).les (.cons nd_of (.cons (Le.refl _) .nil))
          have hbx := hbx fnum
          have hby := hby fnum
          have hub := hub fnum
          generalize getP u fnum = gu at hug hG hub
          generalize getP v fnum = gv at hgx hGx hbx
          generalize getP w fnum = gw at hgy hGy hby
          have l3 : (vlsD gu).length = gu.length := by rw [vlsD_map, List.length_map]
          have l4 : (vlsD gv).length = gv.length := by rw [vlsD_map, List.length_map]
          have l5 : (vlsD gw).length = gw.length := by rw [vlsD_map, List.length_map]
          refine a_t hT rfl rfl (decide_eq_true (by show (i : Int) < (df.length : Int); omega)) ?_
          refine a_ix hT _ rfl rfl rfl rfl rfl rfl (by omega) hatf ?_
          refine a_draw hT [] false [(0, false), (1, false), (3, false), (5, false), (7, false), (9, false), (2, true), (4, true), (6, true), (8, true), (10, true), (11, true), (12, true), (13, true)] rfl rfl (by kernel_rfl) (by kernel_rfl) rfl ?_
          refine a_call hT rfl rfl rfl (by kernel_rfl) hG [] [] rfl rfl ?_
          rintro _ _ ⟨rfl, rfl⟩
          refine a_call hT rfl rfl rfl (by kernel_rfl) hTx [] [] rfl rfl ?_
          rintro _ _ ⟨rfl, rfl⟩
          refine a_call hT rfl rfl rfl (by kernel_rfl) hGx [] [] rfl rfl ?_
          rintro _ _ ⟨rfl, rfl⟩
          refine a_call hT rfl rfl rfl (by kernel_rfl) hTy [] [] rfl rfl ?_
          rintro _ _ ⟨rfl, rfl⟩
          refine a_call hT rfl rfl rfl (by kernel_rfl) hGy [] [] rfl rfl ?_
          rintro _ _ ⟨rfl, rfl⟩
          refine a_ix hT _ rfl rfl rfl rfl rfl rfl (by omega) hatf ?_
          cases frep with
          | false =>
            refine a_gf hT rfl rfl rfl rfl ?_
            refine a_f hT rfl rfl rfl ?_
            exact a_next hT (i + 1) [60] rfl rfl ⟨by omega, by omega⟩ ⟨rfl, rfl, rfl, rfl, rfl, by show Value.int .i64 _ = Value.int .i64 _; rw [hw], trivial⟩ rfl ⟨rfl, trivial⟩
          | true =>
            have hug := hug rfl
            have hgx := hgx rfl
            have hgy := hgy rfl
            refine a_gt hT rfl rfl rfl rfl ?_
            refine a_f hT rfl rfl (by show (!decide (((vlsD gu).length : Int) = IntKind.i64.wrap (((vlsD gv).length : Int) + ((vlsD gw).length : Int)))) = false; rw [l3, l4, l5, w64 (by omega) (by omega), decide_eq_true (by omega)]; rfl) ?_
            exact a_next hT (i + 1) [60] rfl rfl ⟨by omega, by omega⟩ ⟨rfl, rfl, rfl, rfl, rfl, by show Value.int .i64 _ = Value.int .i64 _; rw [hw], trivial⟩ rfl ⟨rfl, trivial⟩
        · have hii : i = df.length := by omega
          subst hii
          refine a_f hT rfl rfl (decide_eq_false (by show ¬ (df.length : Int) < (df.length : Int); omega)) ?_
          refine a_ret hT [60] rfl rfl rfl rfl rfl rfl ?_
          exact ⟨rfl, rfl⟩
theorem decodeJoins_row (W : World) (args : Array Value) (htab : Lib.Utf8Tabs (u8g 3) (u8g 4) W) (ha : ArgsT Tryz.prog W Tryz.f10.params.toList args.toList) : Calls Tryz.prog 10 args W (LawR W) := by
  obtain ⟨v1, r, e, h1, ha⟩ := argsT_cons ha
  obtain ⟨v2, r, rfl, h2, ha⟩ := argsT_cons ha
  obtain ⟨v3, r, rfl, h3, ha⟩ := argsT_cons ha
  obtain ⟨v4, r, rfl, h4, ha⟩ := argsT_cons ha
  obtain rfl := argsT_nil ha
  have e : args = #[v1, v2, v3, v4] := Array.ext' e
  subst e
  obtain ⟨s, hr1, hs⟩ := argT_sch h1
  obtain ⟨t, rfl, _⟩ := argT_int Tryz.underlying3 (by kernel_rfl) h2
  obtain ⟨x, hr3, hx, hxr⟩ := argT_ndR h3
  obtain ⟨y, hr4, hy, hyr⟩ := argT_ndR h4
  exact law_ofU htab (DecodeJoins_spec hs hx hxr hy hyr) (Reps.cons hr1 (Reps.cons mk_v (Reps.cons hr3 (Reps.cons hr4 Reps.nil))))
end Go.Proofs.YtjcolfogmmjaoaaGreatDoor
end
