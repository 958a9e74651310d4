import Derived.Test.YtjcolfogmmjaoaaGreatDoorQDecodeBack6
import Derived.Lib.AppendStr
import Derived.Test.YtjcolfogmmjaoaaGreatDoorQDecodeBack12
import Derived.Test.YtjcolfogmmjaoaaGreatDoorQDecodeBack10
import Derived.Test.YtjcolfogmmjaoaaGreatDoorQDecodeBack7
import Derived.Test.YtjcolfogmmjaoaaGreatDoorQDecodeBack11
import Derived.Test.YtjcolfogmmjaoaaGreatDoorQDecodeBack9
import Derived.Lib.LaidU8T
section
set_option linter.unusedVariables false
set_option linter.unusedSimpArgs false
set_option maxRecDepth 100000
namespace Go.Proofs.YtjcolfogmmjaoaaGreatDoor.A
open V
theorem vrep_bytes {M : Nat → Prop} {w : World} : ∀ l : List UInt8, VRep M w (l.map fun b => .v (byV b)) (l.map byV)
  | [] => by simp; unfold VRep; rfl
  | b :: l => by
    simp only [List.map_cons]
    unfold VRep
    exact ⟨_, _, rfl, by unfold DRep; exact ⟨rfl, rfl⟩, vrep_bytes l⟩
theorem run_appS {P : Program} {w : World} {base : Nat} {t u ty e : TypeId} {i : TypeInfo} (ht : P.underlying t = some (.slice e)) (hu : P.underlying u = some .string) (hi : P.info? e = some i) (hz : i.zero = some (.int .u8 0)) (hsize : i.size = 1) (hby : i.bytes = 1)
    {v : Value} {n : Nat} {xs : List Value} (hown : w.ownsRow base e 1 v n xs) (s : ByteArray) (hl : n + s.size ≤ lim) (hbase : base ≤ w.heap.size) :
    ∃ v' w', (Builtin.append_ #[t, u] ty #[v, .string s]).run P w = .ok v' w' ∧ w'.ownsRow base e 1 v' (n + s.size) (xs ++ Lib.strCells s) ∧ Ev (V.ob v) w w' ∧ (∀ b, V.ob v' b → V.ob v b ∨ w.heap.size ≤ b) := by
  have hlim : lim = 4294967296 := rfl
  have h63 : n + s.size ≤ maxLen := by unfold maxLen; omega
  obtain ⟨v', w', hrun, h1, h2, _⟩ := Lib.run_append_own_string (P := P) w base t u ty e i ht hu hi hz hsize hby v n xs hown s h63 (by omega) hbase
  have hxl : xs.length = n := by simpa using hown.1
  refine ⟨v', w', hrun, h1, Ev.grown h2 fun k hk => hk, fun b hb => ?_⟩
  unfold V.ob at hb ⊢
  rcases hown.2 with ⟨rfl, rfl⟩ | ⟨g, cap, cur, rfl, hbg, hg, hnc, hcm, hcs, htake⟩
  · have hx : xs = [] := List.eq_nil_of_length_eq_zero hxl
    subst hx
    obtain ⟨v2, w2, hrun2, h3, _, _⟩ := Lib.run_append_own_string (P := P) w w.heap.size t u ty e i ht hu hi hz hsize hby (.slice none 0 0) 0 [] (World.ownsRow_nil w w.heap.size e 1) s h63 (by omega) (Nat.le_refl _)
    rw [hrun] at hrun2
    injection hrun2 with e1 e2
    subst e1 e2
    right
    rcases h3.2 with ⟨rfl, _⟩ | ⟨g, cap, cur, rfl, hbg, _⟩
    · cases hb
    · simp [Value.ownBlock] at hb
      omega
  · by_cases hroom : n + s.size ≤ cap
    · have hcs' : cur.size = cap := by simpa using hcs
      have hr := Lib.run_append_room_string (P := P) w t u ty e i ht hu hi hsize g n cap cur hg s hroom (by omega)
      rw [hrun] at hr
      injection hr with e1 e2
      subst e1
      exact .inl hb
    · have holds : ∀ j u, xs[j]? = some u → w.cell? ((⟨g, 0, none⟩ : Addr).add j) = some u := hown.cells (g := g) rfl
      have hr := Lib.run_append_grow_string (P := P) w t u ty e i (.int .u8 0) ht hu hi hz ⟨g, 0, none⟩ n cap xs (by rw [hsize]; simpa using hxl) holds s (by omega) (by omega) (by rw [hby]; exact growslice_fits (by omega) (by omega))
      rw [hrun] at hr
      injection hr with e1 e2
      subst e1
      simp [Value.ownBlock] at hb
      omega
section
variable {P : Program} {L : List TD} {Z : List (List Value)} {n : Nat} {Q : Exit → Act → World → Prop} {c : Ctx}
variable {s : AMS} {f f' : AEnv} {σ σ' : Store} {κ : List Kt} {all : Array Oper} {dec : List Nat} {rest : List (Oper × Bool)} {m : Mode} {o : Oper} {al : Bool} {ob : Obs}
def byteInfo (P : Program) (e : TypeId) : Bool := match P.info? e with
  | some i => i.size == 1 && i.bytes == 1 && (match i.zero with | some (.int .u8 0) => true | _ => false)
  | none => false
theorem byteInfo_spec {e : TypeId} (h : byteInfo P e = true) : ∃ i, P.info? e = some i ∧ i.zero = some (.int .u8 0) ∧ i.size = 1 ∧ i.bytes = 1 := by
  unfold byteInfo at h
  split at h
  · rename_i i hi
    rw [Bool.and_eq_true, Bool.and_eq_true] at h
    refine ⟨i, hi, ?_, by simpa using h.1.1, by simpa using h.1.2⟩
    have h2 := h.2
    split at h2
    · assumption
    · cases h2
  · cases h
theorem a_appS (hT : TOk P L) (kn : Nat) {t u e : TypeId} {k0 hh0 : Nat} {x y : Operand} {v v' : Value} {es : List (List Dat)} {b : ByteArray} (es' : List (List Dat)) (h : machA L n fuel s f σ [] = ⟨.op m κ all dec o true rest, f', σ', ob⟩) (hob : ob.map (·.1) = ob.map (·.2)) (ho : o.op = .call ⟨.builtin .append, #[x, y], #[t, u]⟩) (ht : tl L t = .sl e 1) (hu : tl L u = .str) (hel : byteInfo P e = true)
    (hx : evA n f' x = .row v k0) (hl : look σ' k0 = some (.row v' e 1 es)) (hvv : v = v') (hy : evN n f' y = .v (.string b) hh0) (hes : es ++ b.data.toList.map eB = es') (hlim : es.length + b.size ≤ lim)
    (hk : ∀ x, DenA c P n Q (.ops (m.hap true) κ all dec rest) (putA f' o.dst (.row x kn)) ((kn, .row x e 1 es') :: del σ' k0)) : DenA c P n Q s f σ := by
  subst hvv
  subst hes
  refine a_eff hT (fun a σ1 => ∃ x, a = .row x kn ∧ σ1 = (kn, .row x e 1 (es ++ b.data.toList.map eB)) :: del σ' k0) h hob (fun Y Su w fc hd hY hh he => ?_) (fun a σ1 ⟨g, ha, hs⟩ => by subst ha; subst hs; exact hk g)
  obtain ⟨S1, S2, hS, hdis, hc, hrest⟩ := hh.take hl
  obtain ⟨hS1, hkl, xs, hown, hv⟩ := hc
  have hxv := he.eval (n := n) x
  rw [hx] at hxv
  unfold Rep at hxv
  have hyv := he.evalN (n := n) y
  rw [hy] at hyv
  have hyv := rep_v hyv
  obtain ⟨i, hi, hz, hsz, hby⟩ := byteInfo_spec hel
  obtain ⟨v', w', hrun, h1, h2, h3⟩ := run_appS (P := P) (ty := o.type) (sl_tl hT ht).1 (str_tl hT hu) hi hz hsz hby hown b hlim (Nat.zero_le _)
  have hcells : Lib.strCells b = b.data.toList.map byV := rfl
  rw [hcells] at h1
  have hrun' : (execOp (ev n fc) o).run P w = .ok (.value v') w' := by
    unfold execOp
    simp only [ho, resolve, invoke, builtin, Sem.run_bind, Sem.run_pure, Result.andThen_ok, List.map_toArray, List.map_cons, List.map_nil, hxv.1, hyv, hrun]
  rw [hrun']
  have hev : Ev Su w w' := h2.mono fun b _ hb => (hS b).2 (.inl ((hS1 b).2 hb))
  have hsub : ∀ b, or2 (V.ob v') S2 b → Su b ∨ w.heap.size ≤ b := fun b h => by
    rcases h with h | h
    · exact (h3 b h).imp (fun h => (hS b).2 (.inl ((hS1 b).2 h))) id
    · exact .inl ((hS b).2 (.inr h))
  have hm : ∀ b, b < w.heap.size → V.ob v b ∨ or2 (or2 (V.ob v') S2) Y b → or2 Su Y b := fun b hb h => by
    rcases h with h | h | h
    · exact .inl ((hS b).2 (.inl ((hS1 b).2 h)))
    · rcases hsub b h with h | h
      · exact .inl h
      · omega
    · exact .inr h
  have hbl : (b.data.toList.map eB).length = b.size := by rw [List.length_map]; rfl
  refine ⟨_, _, or2 (V.ob v') S2, ⟨v', rfl, rfl⟩, ?_, ⟨V.ob v', S2, fun b => Iff.rfl, fun b hb h => ?_, ⟨fun b => Iff.rfl, ?_, _, by rw [List.length_append, hbl]; exact h1, ?_⟩, hrest.ev h2 hm fun b hb h => hdis b ((hS1 b).2 h) hb⟩, hev, hsub⟩
  · unfold Rep
    refine ⟨rfl, ?_⟩
    rcases h1.2 with ⟨rfl, _⟩ | ⟨g, cap, cur, rfl, _⟩ <;> rfl
  · rcases h3 b hb with h' | h'
    · exact hdis b ((hS1 b).2 h') h
    · have := hrest.lt b h; omega
  · intro e' he'
    rcases List.mem_append.1 he' with he' | he'
    · exact hkl e' he'
    · obtain ⟨q, _, rfl⟩ := List.mem_map.1 he'
      rfl
  · rw [List.flatten_append, flat_eB]
    exact (hv.app (vrep_bytes _)).ev h2 hm
end
end Go.Proofs.YtjcolfogmmjaoaaGreatDoor.A
end

section
set_option linter.unusedVariables false
set_option linter.unusedSimpArgs false
set_option maxRecDepth 100000
set_option maxHeartbeats 2000000
namespace Go.Proofs.YtjcolfogmmjaoaaGreatDoor
open V A
theorem encFs_app (s : SchP) (d : MDP) : ∀ (a b : List VF), encFs s d (a ++ b) = encFs s d a ++ encFs s d b
  | [], b => by conv => rhs; arg 1; unfold encFs
                rfl
  | f :: a, b => by rw [List.cons_append, encFs_cons, encFs_cons, encFs_app s d a b, List.append_assoc]
theorem encVs_app (s : SchP) (f : FDP) : ∀ (a b : List VL), encVs s f (a ++ b) = encVs s f a ++ encVs s f b
  | [], b => by conv => rhs; arg 1; unfold encVs
                rfl
  | v :: a, b => by rw [List.cons_append, encVs_cons, encVs_cons, encVs_app s f a b, List.append_assoc]
theorem packVs_app (s : SchP) (f : FDP) : ∀ (a b : List VL), packVs s f (a ++ b) = packVs s f a ++ packVs s f b
  | [], b => by conv => rhs; arg 1; unfold packVs
                rfl
  | v :: a, b => by rw [List.cons_append, packVs_cons, packVs_cons, packVs_app s f a b, List.append_assoc]
theorem encFs_nil (s : SchP) (d : MDP) : encFs s d [] = [] := by unfold encFs; rfl
theorem encVs_nil (s : SchP) (f : FDP) : encVs s f [] = [] := by unfold encVs; rfl
theorem packVs_nil (s : SchP) (f : FDP) : packVs s f [] = [] := by unfold packVs; rfl
theorem wtFs_app : ∀ (a b : List VF), wtFs (a ++ b) = wtFs a + wtFs b
  | [], b => by conv => rhs; arg 1; unfold wtFs
                simp
  | f :: a, b => by rw [List.cons_append, wtFs_cons, wtFs_cons, wtFs_app a b, Nat.add_assoc]
theorem wtVs_app : ∀ (a b : List VL), wtVs (a ++ b) = wtVs a + wtVs b
  | [], b => by conv => rhs; arg 1; unfold wtVs
                simp
  | v :: a, b => by rw [List.cons_append, wtVs_cons, wtVs_cons, wtVs_app a b, Nat.add_assoc]
theorem wtFs_take (fs : List VF) (i : Nat) : wtFs (fs.take i) ≤ wtFs fs := by
  have := wtFs_app (fs.take i) (fs.drop i)
  rw [List.take_append_drop] at this
  omega
theorem wtVs_take (vs : List VL) (i : Nat) : wtVs (vs.take i) ≤ wtVs vs := by
  have := wtVs_app (vs.take i) (vs.drop i)
  rw [List.take_append_drop] at this
  omega
def addC (g : Nat) (v : Value) (l : List UInt8) : List Chunk := [.blk g 27 [.row v 31], .row v 5 1 (l.map eB)]
theorem add_spec {x : FW} {g : Nat} {v : Value} {l : List UInt8} (hd : x.data.length ≤ 800000) (hn : x.n < 18446744073709551616) (hl : l.length ≤ 3000000) : FSpec Tryz.prog 87 [fwA x, .v (.pointer (some ⟨g, 0, none⟩)) 30] (addC g v l) fun a cs => ∃ v', a = .tup [] ∧ cs = addC g v' (l ++ appW x) := by
  have hA := (wireAppend_spec hd hn).les (.cons (le_nil (h := 0)) (.cons (Le.refl _) .nil))
  have hal := appW_len x
  refine a_enter hT [fwA x, .v (.pointer (some ⟨g, 0, none⟩)) 30] [30, 31] Tryz.func87 rfl rfl rfl ⟨Fit.refl _, Fit.refl _, trivial⟩ fun c' => ?_
  refine a_box hT 32 rfl rfl rfl rfl fun g1 => ?_
  refine a_call hT rfl rfl rfl (by kernel_rfl) hA [] [] rfl rfl ?_
  rintro _ _ ⟨rfl, rfl⟩
  refine a_app hT 31 _ rfl rfl rfl rfl (by kernel_rfl) rfl rfl rfl rfl rfl rfl (by first | (simp; done) | (simp; omega) | (simp; unfold lim; omega) | (simp; assumption)) fun v1 => ?_
  refine a_end hT [30, 31] rfl rfl rfl rfl rfl rfl ?_
  exact ⟨v1, rfl, by unfold addC; rw [List.map_append]⟩
def EncS (s : SchP) : VL → Prop
  | .msg ty fs u => ∀ dep : Int, 0 ≤ ty → fitsP s (.msg ty fs u) ty dep = true → wtV (.msg ty fs u) ≤ 700000 → FSpec Tryz.prog 43 [schA s, msgA ty fs u] [] fun a cs => a = .d (A.bytesD (encM s (.msg ty fs u))) ∧ cs = []
  | .none | .int _ | .uint _ | .bool _ | .text _ | .bytes _ | .enum _ => True
theorem message_ind {s : SchP} (hs : SchOk s) : ∀ {v : VL}, WfV v → EncS s v := by
  intro v hv
  induction hv with
  | msg h1 h2 h3 h4 h5 ih =>
    rename_i ty fs unk
    intro dep ht0 hfit hwt
    unfold fitsP at hfit
    rw [Bool.and_eq_true, Bool.and_eq_true] at hfit
    obtain ⟨_, hf⟩ := hfit
    cases hm : s.ms[ty.toNat]? with
    | none => rw [hm] at hf; cases hf
    | some d =>
    rw [hm] at hf
    dsimp only at hf
    rw [Bool.and_eq_true] at hf
    have hf := hf.2
    have hdm : d ∈ s.ms := List.mem_of_getElem? hm
    have hd : dAt s ty = d := by unfold dAt; rw [hm]; rfl
    have hfo := hs.fs d hdm
    rw [encM_msg, hd]
    rw [wtV_msg] at hwt
    have hat0 : (s.ms.map eM)[ty.toNat]? = some (eM d) := by rw [List.getElem?_map, hm]; rfl
    have hlen : (vfsD fs).length = fs.length := vfsD_len fs
    refine FSpec.freeze (hh := 31) (e := 5) (k := 1) ?_
    refine a_enter hT [schA s, msgA ty fs unk] [] Tryz.func43 rfl rfl rfl ⟨Fit.refl _, Fit.refl _, trivial⟩ fun c' => ?_
    refine a_box hT 20 rfl rfl rfl rfl fun g1 => ?_
    refine a_box hT 21 rfl rfl rfl rfl fun g2 => ?_
    refine a_freezeK 2 20 rfl rfl rfl rfl rfl ?_
    refine a_freezeK 3 21 rfl rfl rfl rfl rfl ?_
    refine a_new hT hZ 30 rfl rfl rfl rfl fun g => ?_
    refine a_nilrowB 30 0 31 5 1 rfl rfl rfl ?_
    refine a_loop hT [2, 3, 5, 6, 18, 19, 20] (fun x : Nat × Value => [.d (.p (schD s)), .d (.p (msgD ty fs unk)), .v (.pointer (some ⟨g, 0, none⟩)) 30, .fn 87 [.v (.pointer (some ⟨g, 0, none⟩)) 30], .d (.sl 2 (vfsD fs)), .v (kI fs.length) 0, .v (kI x.1) 0]) (fun x => [(30, .blk g 27 [.row x.2 31]), (31, .row x.2 5 1 ((encFs s d (fs.take x.1)).map eB))]) (fun x => x.1 ≤ fs.length) (fun x => fs.length - x.1) (0, .slice none 0 0) [30, 31] rfl rfl (Nat.zero_le _) ⟨rfl, rfl, rfl, Fit.refl _, rfl, by rw [← hlen]; rfl, rfl, trivial⟩ rfl ⟨⟨rfl, rfl, rfl, trivial⟩, ⟨rfl, rfl, rfl, by rw [List.take_zero, encFs_nil]; rfl⟩, trivial⟩ ?_
    rintro ⟨i, w⟩ i2
    dsimp only at i2
    have hw := wN i (by omega)
    have hel := encFs_len s d (fs.take i)
    have hwl := wtFs_take fs i
    rcases Nat.lt_or_ge i fs.length with hil | hil
    · have hat : (vfsD fs)[(i : Int).toNat]? = some (vfD fs[i]) := by rw [vfsD_map, Int.toNat_natCast, List.getElem?_map, List.getElem?_eq_getElem hil]; rfl
      have hmem := List.getElem_mem hil
      have htk : fs.take (i + 1) = fs.take i ++ [fs[i]] := List.take_succ_eq_append_getElem hil
      generalize fs[i] = x at hat hmem htk
      obtain ⟨num, vs⟩ := x
      have hnum := h3 num vs hmem
      have hvl := h2 num vs hmem
      obtain ⟨_, f, hff, hne, hrl, hfv⟩ := fitsFs_mem hf num vs hmem
      have hFi := Find_spec (d := d) (num := num) hfo hnum
      rw [hff] at hFi
      have hlv : (vlsD vs).length = vs.length := by rw [vlsD_map, List.length_map]
      have hwm := wtFs_mem hmem
      rw [wtF_mk] at hwm
      have hfn := hfo.rng f (findF_num hff).2
      have hat2 : fAt d num = f := by unfold fAt; rw [hff]; rfl
      have henc : encFs s d (fs.take (i + 1)) = encFs s d (fs.take i) ++ (if f.rep && packedK f.kind then appW ⟨f.num.toNat, 2, 0, packVs s f vs⟩ else encVs s f vs) := by
        rw [htk, encFs_app, encFs_cons, encF_mk, hat2, encFs_nil, List.append_nil]
      refine a_t hT rfl rfl (decide_eq_true (by show (i : Int) < (fs.length : Int); omega)) ?_
      refine a_ix hT _ rfl rfl rfl rfl rfl rfl (by omega) hat ?_
      refine a_new hT hZ 41 rfl rfl rfl rfl fun g4 => ?_
      refine a_run hT 1 rfl rfl ?_
      refine a_freezeK 8 41 rfl rfl rfl rfl rfl ?_
      refine a_treeN hT [2, 3, 5, 6, 8, 9, 18, 19, 20] (fun h : Nat => [.d (.p (schD s)), .d (.p (msgD ty fs unk)), .v (.pointer (some ⟨g, 0, none⟩)) 30, .fn 87 [.v (.pointer (some ⟨g, 0, none⟩)) 30], .d (.p (vfD (.mk num vs))), .v (.pointer (some ⟨h, 0, none⟩)) 42, .d (.sl 2 (vfsD fs)), .v (kI fs.length) 0, .v (kI i) 0]) (fun h => [(30, .blk g 27 [.row w 31]), (31, .row w 5 1 ((encFs s d (fs.take i)).map eB)), (42, .blk h 68 ((eF f).map nd))]) (fun _ => True) [] 15 [(0, false), (2, false), (6, false), (1, false), (3, false), (7, false), (4, false), (5, false)] rfl rfl (by kernel_rfl) (by kernel_rfl) rfl ?_ ?_
      · refine a_ix hT _ rfl rfl rfl rfl rfl rfl (by first | omega | assumption) (by first | assumption | rfl) ?_
        refine a_alt hT [([(8, true), (9, false), (10, false), (11, false), (12, true), (13, true), (14, true)], true), ([(12, true), (8, true), (9, true), (10, false), (11, false), (13, true), (14, true)], true)] rfl rfl (by kernel_rfl) ⟨?_, ?_, trivial⟩
        · refine a_call hT rfl rfl rfl (by kernel_rfl) hFi [] [] rfl rfl ?_
          rintro _ _ ⟨rfl, rfl⟩
          refine a_new hT hZ 32 rfl rfl rfl rfl fun g3 => ?_
          exact a_next hT g3 [30, 31, 32] rfl rfl trivial ⟨rfl, rfl, rfl, Fit.refl _, rfl, rfl, rfl, rfl, rfl, trivial⟩ rfl ⟨⟨rfl, rfl, rfl, trivial⟩, ⟨rfl, rfl, rfl, rfl⟩, ⟨rfl, rfl, rfl, rfl, rfl, rfl, rfl, trivial⟩, trivial⟩
        · refine a_new hT hZ 32 rfl rfl rfl rfl fun g3 => ?_
          refine a_call hT rfl rfl rfl (by kernel_rfl) hFi [] [] rfl rfl ?_
          rintro _ _ ⟨rfl, rfl⟩
          exact a_next hT g3 [30, 31, 32] rfl rfl trivial ⟨rfl, rfl, rfl, Fit.refl _, rfl, rfl, rfl, rfl, rfl, trivial⟩ rfl ⟨⟨rfl, rfl, rfl, trivial⟩, ⟨rfl, rfl, rfl, rfl⟩, ⟨rfl, rfl, rfl, rfl, rfl, rfl, rfl, trivial⟩, trivial⟩
      rintro g5 _
      refine a_freezeK 9 42 rfl rfl rfl rfl rfl ?_
      have hPk := Packed_spec (k := f.kind)
      obtain ⟨fnum, fname, fkind, frep, fty⟩ := f
      dsimp only at hPk henc hfn
      cases frep with
      | false =>
        refine a_gt hT rfl rfl rfl rfl ?_
        refine a_t hT rfl rfl rfl ?_
        refine a_loop hT [2, 3, 5, 6, 8, 9, 18, 19, 20, 46, 47, 48] (fun x : Nat × Value => [.d (.p (schD s)), .d (.p (msgD ty fs unk)), .v (.pointer (some ⟨g, 0, none⟩)) 30, .fn 87 [.v (.pointer (some ⟨g, 0, none⟩)) 30], .d (.p (vfD (.mk num vs))), .d (.p (eF ⟨fnum, fname, fkind, false, fty⟩)), .d (.sl 2 (vfsD fs)), .v (kI fs.length) 0, .v (kI i) 0, .d (.sl 1 (vlsD vs)), .v (kI vs.length) 0, .v (kI x.1) 0]) (fun x => [(30, .blk g 27 [.row x.2 31]), (31, .row x.2 5 1 ((encFs s d (fs.take i) ++ encVs s ⟨fnum, fname, fkind, false, fty⟩ (vs.take x.1)).map eB))]) (fun x => x.1 ≤ vs.length) (fun x => vs.length - x.1) (0, w) [30, 31] rfl rfl (Nat.zero_le _) ⟨rfl, rfl, rfl, Fit.refl _, rfl, rfl, rfl, rfl, rfl, rfl, by rw [← hlv]; rfl, rfl, trivial⟩ rfl ⟨⟨rfl, rfl, rfl, trivial⟩, ⟨rfl, rfl, rfl, by rw [List.take_zero, encVs_nil, List.append_nil]⟩, trivial⟩ ?_
        rintro ⟨j, w1⟩ j2
        dsimp only at j2
        have hwj := wN j (by omega)
        have hvl2 := encVs_len s ⟨fnum, fname, fkind, false, fty⟩ (vs.take j)
        have hwt2 := wtVs_take vs j
        rcases Nat.lt_or_ge j vs.length with hjl | hjl
        · have hatj : (vlsD vs)[(j : Int).toNat]? = some [vlD vs[j]] := by rw [vlsD_map, Int.toNat_natCast, List.getElem?_map, List.getElem?_eq_getElem hjl]; rfl
          have hmv := List.getElem_mem hjl
          have htj : vs.take (j + 1) = vs.take j ++ [vs[j]] := List.take_succ_eq_append_getElem hjl
          have hone := fitsVs_mem hfv _ hmv
          have hih := ih num vs _ hmem hmv
          have hwv := h5 num vs _ hmem hmv
          have hwtv := wtVs_mem hmv
          generalize vs[j] = v at hatj hmv htj hone hih hwv hwtv
          have hE : encVs s ⟨fnum, fname, fkind, false, fty⟩ (vs.take (j + 1)) = encVs s ⟨fnum, fname, fkind, false, fty⟩ (vs.take j) ++ appW (mkW ⟨fnum, fname, fkind, false, fty⟩ v (encM s v)) := by rw [htj, encVs_app, encVs_cons, encVs_nil, List.append_nil]
          have hM : ∀ ty fs u, v = .msg ty fs u → FSpec Tryz.prog 43 [schA s, msgA ty fs u] [] fun a cs => a = .d (A.bytesD (encM s v)) ∧ cs = [] := by
            rintro ty2 fs2 u2 rfl
            rw [show ∀ r, oneK ⟨fnum, fname, fkind, false, fty⟩ r (.msg ty2 fs2 u2) = (decide (fkind = 10) && r) from fun _ => rfl, Bool.and_eq_true] at hone
            have hk10 := of_decide_eq_true hone.1
            have hty := hs.ty d hdm _ (findF_num hff).2 hk10
            dsimp only at hty
            have hfv2 := hone.2
            have hte : ty2 = fty := by
              unfold fitsP at hfv2
              rw [Bool.and_eq_true, Bool.and_eq_true] at hfv2
              exact of_decide_eq_true hfv2.1.1
            subst hte
            exact hih (dep + 1) hty.1 hfv2 (by omega)
          have hFl := field_spec (s := s) (f := ⟨fnum, fname, fkind, false, fty⟩) (m := encM s v) (by show 0 ≤ fnum; omega) hwv hM
          have hlen2 := encM_len s v
          have hAd := add_spec (x := mkW ⟨fnum, fname, fkind, false, fty⟩ v (encM s v)) (g := g) (v := w1) (l := encFs s d (fs.take i) ++ encVs s ⟨fnum, fname, fkind, false, fty⟩ (vs.take j)) (by show (dataW (encM s v) v).length ≤ _; omega) (numW_lt hwv) (by rw [List.length_append]; omega)
          refine a_t hT rfl rfl (decide_eq_true (by show (j : Int) < (vs.length : Int); omega)) ?_
          refine a_ix hT _ rfl rfl rfl rfl rfl rfl (by omega) hatj ?_
          refine a_call hT rfl rfl rfl (by kernel_rfl) hFl [] [] rfl rfl ?_
          rintro _ _ ⟨rfl, rfl⟩
          refine a_callv hT rfl rfl rfl rfl (by kernel_rfl) hAd [30, 31] [30, 31] rfl rfl ?_
          rintro _ _ ⟨w2, rfl, rfl⟩
          exact a_next hT (j + 1, w2) [30, 31] rfl rfl ⟨by show j + 1 ≤ vs.length; omega, by show vs.length - (j + 1) < vs.length - j; omega⟩ ⟨rfl, rfl, rfl, Fit.refl _, rfl, rfl, rfl, rfl, rfl, rfl, rfl, by show Value.int .i64 _ = Value.int .i64 _; rw [hwj], trivial⟩ rfl ⟨⟨rfl, rfl, rfl, trivial⟩, ⟨rfl, rfl, rfl, by show _ = (encFs s d (fs.take i) ++ encVs s ⟨fnum, fname, fkind, false, fty⟩ (vs.take (j + 1))).map eB; rw [hE, List.append_assoc]⟩, trivial⟩
        · refine a_f hT rfl rfl (decide_eq_false (by show ¬ (j : Int) < (vs.length : Int); omega)) ?_
          have hj : j = vs.length := by omega
          subst hj
          exact a_next hT (i + 1, w1) [30, 31] rfl rfl ⟨by show i + 1 ≤ fs.length; omega, by show fs.length - (i + 1) < fs.length - i; omega⟩ ⟨rfl, rfl, rfl, Fit.refl _, rfl, rfl, by show Value.int .i64 _ = Value.int .i64 _; rw [hw], trivial⟩ rfl ⟨⟨rfl, rfl, rfl, trivial⟩, ⟨rfl, rfl, rfl, by show (encFs s d (fs.take i) ++ encVs s ⟨fnum, fname, fkind, false, fty⟩ (vs.take vs.length)).map eB = (encFs s d (fs.take (i + 1))).map eB; rw [henc, List.take_length, if_neg (by simp)]⟩, trivial⟩
      | true =>
        cases hpk : packedK fkind with
        | false =>
          rw [hpk] at hPk
          refine a_gf hT rfl rfl rfl rfl ?_
          refine a_call hT rfl rfl rfl (by kernel_rfl) hPk [] [] rfl rfl ?_
          rintro _ _ ⟨rfl, rfl⟩
          refine a_t hT rfl rfl rfl ?_
          refine a_loop hT [2, 3, 5, 6, 8, 9, 18, 19, 20, 46, 47, 48] (fun x : Nat × Value => [.d (.p (schD s)), .d (.p (msgD ty fs unk)), .v (.pointer (some ⟨g, 0, none⟩)) 30, .fn 87 [.v (.pointer (some ⟨g, 0, none⟩)) 30], .d (.p (vfD (.mk num vs))), .d (.p (eF ⟨fnum, fname, fkind, true, fty⟩)), .d (.sl 2 (vfsD fs)), .v (kI fs.length) 0, .v (kI i) 0, .d (.sl 1 (vlsD vs)), .v (kI vs.length) 0, .v (kI x.1) 0]) (fun x => [(30, .blk g 27 [.row x.2 31]), (31, .row x.2 5 1 ((encFs s d (fs.take i) ++ encVs s ⟨fnum, fname, fkind, true, fty⟩ (vs.take x.1)).map eB))]) (fun x => x.1 ≤ vs.length) (fun x => vs.length - x.1) (0, w) [30, 31] rfl rfl (Nat.zero_le _) ⟨rfl, rfl, rfl, Fit.refl _, rfl, rfl, rfl, rfl, rfl, rfl, by rw [← hlv]; rfl, rfl, trivial⟩ rfl ⟨⟨rfl, rfl, rfl, trivial⟩, ⟨rfl, rfl, rfl, by rw [List.take_zero, encVs_nil, List.append_nil]⟩, trivial⟩ ?_
          rintro ⟨j, w1⟩ j2
          dsimp only at j2
          have hwj := wN j (by omega)
          have hvl2 := encVs_len s ⟨fnum, fname, fkind, true, fty⟩ (vs.take j)
          have hwt2 := wtVs_take vs j
          rcases Nat.lt_or_ge j vs.length with hjl | hjl
          · have hatj : (vlsD vs)[(j : Int).toNat]? = some [vlD vs[j]] := by rw [vlsD_map, Int.toNat_natCast, List.getElem?_map, List.getElem?_eq_getElem hjl]; rfl
            have hmv := List.getElem_mem hjl
            have htj : vs.take (j + 1) = vs.take j ++ [vs[j]] := List.take_succ_eq_append_getElem hjl
            have hone := fitsVs_mem hfv _ hmv
            have hih := ih num vs _ hmem hmv
            have hwv := h5 num vs _ hmem hmv
            have hwtv := wtVs_mem hmv
            generalize vs[j] = v at hatj hmv htj hone hih hwv hwtv
            have hE : encVs s ⟨fnum, fname, fkind, true, fty⟩ (vs.take (j + 1)) = encVs s ⟨fnum, fname, fkind, true, fty⟩ (vs.take j) ++ appW (mkW ⟨fnum, fname, fkind, true, fty⟩ v (encM s v)) := by rw [htj, encVs_app, encVs_cons, encVs_nil, List.append_nil]
            have hM : ∀ ty fs u, v = .msg ty fs u → FSpec Tryz.prog 43 [schA s, msgA ty fs u] [] fun a cs => a = .d (A.bytesD (encM s v)) ∧ cs = [] := by
              rintro ty2 fs2 u2 rfl
              rw [show ∀ r, oneK ⟨fnum, fname, fkind, true, fty⟩ r (.msg ty2 fs2 u2) = (decide (fkind = 10) && r) from fun _ => rfl, Bool.and_eq_true] at hone
              have hk10 := of_decide_eq_true hone.1
              have hty := hs.ty d hdm _ (findF_num hff).2 hk10
              dsimp only at hty
              have hfv2 := hone.2
              have hte : ty2 = fty := by
                unfold fitsP at hfv2
                rw [Bool.and_eq_true, Bool.and_eq_true] at hfv2
                exact of_decide_eq_true hfv2.1.1
              subst hte
              exact hih (dep + 1) hty.1 hfv2 (by omega)
            have hFl := field_spec (s := s) (f := ⟨fnum, fname, fkind, true, fty⟩) (m := encM s v) (by show 0 ≤ fnum; omega) hwv hM
            have hlen2 := encM_len s v
            have hAd := add_spec (x := mkW ⟨fnum, fname, fkind, true, fty⟩ v (encM s v)) (g := g) (v := w1) (l := encFs s d (fs.take i) ++ encVs s ⟨fnum, fname, fkind, true, fty⟩ (vs.take j)) (by show (dataW (encM s v) v).length ≤ _; omega) (numW_lt hwv) (by rw [List.length_append]; omega)
            refine a_t hT rfl rfl (decide_eq_true (by show (j : Int) < (vs.length : Int); omega)) ?_
            refine a_ix hT _ rfl rfl rfl rfl rfl rfl (by omega) hatj ?_
            refine a_call hT rfl rfl rfl (by kernel_rfl) hFl [] [] rfl rfl ?_
            rintro _ _ ⟨rfl, rfl⟩
            refine a_callv hT rfl rfl rfl rfl (by kernel_rfl) hAd [30, 31] [30, 31] rfl rfl ?_
            rintro _ _ ⟨w2, rfl, rfl⟩
            exact a_next hT (j + 1, w2) [30, 31] rfl rfl ⟨by show j + 1 ≤ vs.length; omega, by show vs.length - (j + 1) < vs.length - j; omega⟩ ⟨rfl, rfl, rfl, Fit.refl _, rfl, rfl, rfl, rfl, rfl, rfl, rfl, by show Value.int .i64 _ = Value.int .i64 _; rw [hwj], trivial⟩ rfl ⟨⟨rfl, rfl, rfl, trivial⟩, ⟨rfl, rfl, rfl, by show _ = (encFs s d (fs.take i) ++ encVs s ⟨fnum, fname, fkind, true, fty⟩ (vs.take (j + 1))).map eB; rw [hE, List.append_assoc]⟩, trivial⟩
          · refine a_f hT rfl rfl (decide_eq_false (by show ¬ (j : Int) < (vs.length : Int); omega)) ?_
            have hj : j = vs.length := by omega
            subst hj
            exact a_next hT (i + 1, w1) [30, 31] rfl rfl ⟨by show i + 1 ≤ fs.length; omega, by show fs.length - (i + 1) < fs.length - i; omega⟩ ⟨rfl, rfl, rfl, Fit.refl _, rfl, rfl, by show Value.int .i64 _ = Value.int .i64 _; rw [hw], trivial⟩ rfl ⟨⟨rfl, rfl, rfl, trivial⟩, ⟨rfl, rfl, rfl, by show (encFs s d (fs.take i) ++ encVs s ⟨fnum, fname, fkind, true, fty⟩ (vs.take vs.length)).map eB = (encFs s d (fs.take (i + 1))).map eB; rw [henc, List.take_length, if_neg (by simp [hpk])]⟩, trivial⟩
        | true =>
          rw [hpk] at hPk
          refine a_gf hT rfl rfl rfl rfl ?_
          refine a_call hT rfl rfl rfl (by kernel_rfl) hPk [] [] rfl rfl ?_
          rintro _ _ ⟨rfl, rfl⟩
          refine a_f hT rfl rfl rfl ?_
          first
            | (refine a_run hT 5 rfl rfl ?_; refine a_asL 13 (b := .d (A.bytesD [])) rfl (le_nil (h := 0)) ?_)
            | (refine a_run hT 6 rfl rfl ?_; refine a_asL 13 (b := .d (A.bytesD [])) rfl (le_nil (h := 0)) ?_)
            | (refine a_run hT 7 rfl rfl ?_; refine a_asL 13 (b := .d (A.bytesD [])) rfl (le_nil (h := 0)) ?_)
            | (refine a_run hT 8 rfl rfl ?_; refine a_asL 13 (b := .d (A.bytesD [])) rfl (le_nil (h := 0)) ?_)
            | (refine a_run hT 9 rfl rfl ?_; refine a_asL 13 (b := .d (A.bytesD [])) rfl (le_nil (h := 0)) ?_)
            | (refine a_run hT 10 rfl rfl ?_; refine a_asL 13 (b := .d (A.bytesD [])) rfl (le_nil (h := 0)) ?_)
            | (refine a_run hT 11 rfl rfl ?_; refine a_asL 13 (b := .d (A.bytesD [])) rfl (le_nil (h := 0)) ?_)
            | (refine a_run hT 12 rfl rfl ?_; refine a_asL 13 (b := .d (A.bytesD [])) rfl (le_nil (h := 0)) ?_)
            | (refine a_run hT 13 rfl rfl ?_; refine a_asL 13 (b := .d (A.bytesD [])) rfl (le_nil (h := 0)) ?_)
            | (refine a_run hT 14 rfl rfl ?_; refine a_asL 13 (b := .d (A.bytesD [])) rfl (le_nil (h := 0)) ?_)
            | (refine a_run hT 15 rfl rfl ?_; refine a_asL 13 (b := .d (A.bytesD [])) rfl (le_nil (h := 0)) ?_)
          refine a_loop hT [2, 3, 5, 6, 8, 9, 13, 18, 19, 20, 60, 61, 62] (fun j : Nat × Unit => [.d (.p (schD s)), .d (.p (msgD ty fs unk)), .v (.pointer (some ⟨g, 0, none⟩)) 30, .fn 87 [.v (.pointer (some ⟨g, 0, none⟩)) 30], .d (.p (vfD (.mk num vs))), .d (.p (eF ⟨fnum, fname, fkind, true, fty⟩)), .d (A.bytesD (packVs s ⟨fnum, fname, fkind, true, fty⟩ (vs.take j.1))), .d (.sl 2 (vfsD fs)), .v (kI fs.length) 0, .v (kI i) 0, .d (.sl 1 (vlsD vs)), .v (kI vs.length) 0, .v (kI j.1) 0]) (fun _ => [(30, .blk g 27 [.row w 31]), (31, .row w 5 1 ((encFs s d (fs.take i)).map eB))]) (fun j => j.1 ≤ vs.length) (fun j => vs.length - j.1) (0, ()) [30, 31] rfl rfl (Nat.zero_le _) ⟨rfl, rfl, rfl, Fit.refl _, rfl, rfl, by rw [List.take_zero, packVs_nil]; exact Fit.refl _, rfl, rfl, rfl, rfl, by rw [← hlv]; rfl, rfl, trivial⟩ rfl ⟨⟨rfl, rfl, rfl, trivial⟩, ⟨rfl, rfl, rfl, rfl⟩, trivial⟩ ?_
          rintro ⟨j, w1⟩ j2
          dsimp only at j2
          have hwj := wN j (by omega)
          have hvl2 := packVs_len s ⟨fnum, fname, fkind, true, fty⟩ (vs.take j)
          have hwt2 := wtVs_take vs j
          rcases Nat.lt_or_ge j vs.length with hjl | hjl
          · have hatj : (vlsD vs)[(j : Int).toNat]? = some [vlD vs[j]] := by rw [vlsD_map, Int.toNat_natCast, List.getElem?_map, List.getElem?_eq_getElem hjl]; rfl
            have hmv := List.getElem_mem hjl
            have htj : vs.take (j + 1) = vs.take j ++ [vs[j]] := List.take_succ_eq_append_getElem hjl
            have hone := fitsVs_mem hfv _ hmv
            have hih := ih num vs _ hmem hmv
            have hwv := h5 num vs _ hmem hmv
            have hwtv := wtVs_mem hmv
            generalize vs[j] = v at hatj hmv htj hone hih hwv hwtv
            have hE : packVs s ⟨fnum, fname, fkind, true, fty⟩ (vs.take (j + 1)) = packVs s ⟨fnum, fname, fkind, true, fty⟩ (vs.take j) ++ packW (mkW ⟨fnum, fname, fkind, true, fty⟩ v (encM s v)) := by rw [htj, packVs_app, packVs_cons, packVs_nil, List.append_nil]
            have hM : ∀ ty fs u, v = .msg ty fs u → FSpec Tryz.prog 43 [schA s, msgA ty fs u] [] fun a cs => a = .d (A.bytesD (encM s v)) ∧ cs = [] := by
              rintro ty2 fs2 u2 rfl
              rw [show ∀ r, oneK ⟨fnum, fname, fkind, true, fty⟩ r (.msg ty2 fs2 u2) = (decide (fkind = 10) && r) from fun _ => rfl, Bool.and_eq_true] at hone
              have hk10 := of_decide_eq_true hone.1
              have hty := hs.ty d hdm _ (findF_num hff).2 hk10
              dsimp only at hty
              have hfv2 := hone.2
              have hte : ty2 = fty := by
                unfold fitsP at hfv2
                rw [Bool.and_eq_true, Bool.and_eq_true] at hfv2
                exact of_decide_eq_true hfv2.1.1
              subst hte
              exact hih (dep + 1) hty.1 hfv2 (by omega)
            have hFl := field_spec (s := s) (f := ⟨fnum, fname, fkind, true, fty⟩) (m := encM s v) (by show 0 ≤ fnum; omega) hwv hM
            have hlen2 := encM_len s v
            have hPa := pack_spec (l := packVs s ⟨fnum, fname, fkind, true, fty⟩ (vs.take j)) (x := mkW ⟨fnum, fname, fkind, true, fty⟩ v (encM s v)) (by omega) (numW_lt hwv)
            rw [← hE] at hPa
            refine a_t hT rfl rfl (decide_eq_true (by show (j : Int) < (vs.length : Int); omega)) ?_
            refine a_ix hT _ rfl rfl rfl rfl rfl rfl (by omega) hatj ?_
            refine a_call hT rfl rfl rfl (by kernel_rfl) hFl [] [] rfl rfl ?_
            rintro _ _ ⟨rfl, rfl⟩
            refine a_call hT rfl rfl rfl (by kernel_rfl) hPa [] [] rfl rfl ?_
            rintro _ _ ⟨rfl, rfl⟩
            exact a_next hT (j + 1, ()) [30, 31] rfl rfl ⟨by show j + 1 ≤ vs.length; omega, by show vs.length - (j + 1) < vs.length - j; omega⟩ ⟨rfl, rfl, rfl, Fit.refl _, rfl, rfl, Fit.refl _, rfl, rfl, rfl, rfl, rfl, by show Value.int .i64 _ = Value.int .i64 _; rw [hwj], trivial⟩ rfl ⟨⟨rfl, rfl, rfl, trivial⟩, ⟨rfl, rfl, rfl, rfl⟩, trivial⟩
          · refine a_f hT rfl rfl (decide_eq_false (by show ¬ (j : Int) < (vs.length : Int); omega)) ?_
            have hj : j = vs.length := by omega
            subst hj
            dsimp only
            rw [List.take_length] at hvl2 ⊢
            have hAd := add_spec (x := ⟨fnum.toNat, 2, 0, packVs s ⟨fnum, fname, fkind, true, fty⟩ vs⟩) (g := g) (v := w) (l := encFs s d (fs.take i)) (by dsimp only; omega) (by dsimp only; omega) (by omega)
            have hfw : fwA ⟨fnum.toNat, 2, 0, packVs s ⟨fnum, fname, fkind, true, fty⟩ vs⟩ = .agg [.v (kI fnum) 0, .v (kI 2) 0, .v (kU 0) 0, .d (A.bytesD (packVs s ⟨fnum, fname, fkind, true, fty⟩ vs))] := by
              unfold fwA
              dsimp only
              rw [Int.toNat_of_nonneg (by omega)]
              rfl
            rw [hfw] at hAd
            refine a_build hT hZ [.v (kI fnum) 0, .v (kI 2) 0, .v (kU 0) 0, .d (A.bytesD (packVs s ⟨fnum, fname, fkind, true, fty⟩ vs))] rfl rfl rfl rfl rfl rfl ?_
            refine a_callv hT rfl rfl rfl rfl (by kernel_rfl) hAd [30, 31] [30, 31] rfl rfl ?_
            rintro _ _ ⟨w2, rfl, rfl⟩
            exact a_next hT (i + 1, w2) [30, 31] rfl rfl ⟨by show i + 1 ≤ fs.length; omega, by show fs.length - (i + 1) < fs.length - i; omega⟩ ⟨rfl, rfl, rfl, Fit.refl _, rfl, rfl, by show Value.int .i64 _ = Value.int .i64 _; rw [hw], trivial⟩ rfl ⟨⟨rfl, rfl, rfl, trivial⟩, ⟨rfl, rfl, rfl, by show _ = (encFs s d (fs.take (i + 1))).map eB; rw [henc, if_pos (by simp [hpk])]⟩, trivial⟩
    · refine a_f hT rfl rfl (decide_eq_false (by show ¬ (i : Int) < (fs.length : Int); omega)) ?_
      have hi : i = fs.length := by omega
      subst hi
      rw [List.take_length] at hel ⊢
      have hus : unk.data.toList.length = unk.size := rfl
      refine a_appS hT 31 _ rfl rfl rfl rfl rfl (by kernel_rfl) rfl rfl rfl rfl rfl (by rw [List.length_map]; unfold lim; omega) fun v1 => ?_
      refine a_ret hT [31] rfl rfl rfl rfl rfl rfl ?_
      exact ⟨v1, rfl, by rw [List.map_append]⟩
  | _ => exact trivial
end Go.Proofs.YtjcolfogmmjaoaaGreatDoor
end

section
set_option linter.unusedVariables false
set_option linter.unusedSimpArgs false
set_option maxRecDepth 100000
set_option maxHeartbeats 2000000
namespace Go.Proofs.YtjcolfogmmjaoaaGreatDoor
open V A
def encA (r : List UInt8 × Int) : AV := .tup [.d (A.bytesD r.1), .v (kI r.2) 0]
theorem fits_msg {s : SchP} {v : VL} {t : Int} (h : fitsTop s v t = true) : ∃ fs u, v = .msg t fs u ∧ formedP s = true ∧ 0 ≤ t ∧ t < s.ms.length ∧ fitsP s v t 1 = true := by
  unfold fitsTop at h
  rw [Bool.and_eq_true, Bool.and_eq_true, Bool.and_eq_true] at h
  obtain ⟨f1, f2, f3, f4⟩ := h
  cases v with
  | msg ty fs u =>
    have hte : ty = t := by
      have f5 := f4
      unfold fitsP at f5
      rw [Bool.and_eq_true, Bool.and_eq_true] at f5
      exact of_decide_eq_true f5.1.1
    subst hte
    exact ⟨fs, u, rfl, f1, of_decide_eq_true f2, of_decide_eq_true f3, f4⟩
  | _ => exact absurd f4 (by unfold fitsP; simp)
theorem Encode_spec {s : SchP} (hz : SzS s) {v : VL} (hv : WfV v) (hw : wtV v ≤ 700000) {t : Int} : FSpec Tryz.prog 23 [schA s, .v (kI t) 0, nd (vlD v)] [u8C] fun a cs => a = encA (encTop s v t) ∧ cs = [u8C] := by
  refine FSpec.le ?_
  have hN := Normal_spec hz hv (t := t)
  unfold encTop
  unfold normA at hN
  refine a_enter hT [schA s, .v (kI t) 0, nd (vlD v)] [60] Tryz.func23 rfl rfl rfl ⟨Fit.refl _, rfl, Fit.refl _, trivial⟩ fun c' => ?_
  cases hfo : fitsTop s v t with
  | false =>
    rw [hfo] at hN
    rw [if_neg (by decide)] at hN ⊢
    refine a_box hT 61 rfl rfl rfl rfl fun g => ?_
    refine a_call hT rfl rfl rfl (by kernel_rfl) hN [60] [60] rfl rfl ?_
    rintro _ _ ⟨rfl, rfl⟩
    refine a_t hT rfl rfl rfl ?_
    refine a_ret hT [60] rfl rfl rfl rfl rfl rfl ?_
    exact ⟨_, Le.tup (.cons le_nil (.cons (Le.refl _) .nil)), rfl, rfl⟩
  | true =>
    rw [hfo] at hN
    rw [if_pos rfl] at hN ⊢
    have hnf := norm_top hfo
    have hnw := norm_wf s v hv
    have hnt := norm_wt s v
    generalize normP s v = w at hN hnf hnw hnt
    obtain ⟨fs, u, rfl, hform, ht0, _, hft⟩ := fits_msg hnf
    have hMu := Must_spec (ty := t) (fs := fs) (u := u)
    have hMe := message_ind (schOk hform) hnw 1 ht0 hft (by omega)
    have hel : (encM s (.msg t fs u)).length + 60 ≤ wtV (.msg t fs u) := encM_len s (.msg t fs u)
    have hbl := bytesD_len (encM s (.msg t fs u))
    generalize encM s (.msg t fs u) = bs at hMe hel hbl
    refine a_box hT 61 rfl rfl rfl rfl fun g => ?_
    refine a_call hT rfl rfl rfl (by kernel_rfl) hN [60] [60] rfl rfl ?_
    rintro _ _ ⟨rfl, rfl⟩
    refine a_f hT rfl rfl rfl ?_
    refine a_draw hT [60] false [(0, false), (1, false), (2, true), (3, true), (4, true)] rfl rfl (by kernel_rfl) (by kernel_rfl) rfl ?_
    refine a_call hT rfl rfl rfl (by kernel_rfl) hMu [] [] rfl rfl ?_
    rintro _ _ ⟨rfl, rfl⟩
    refine a_call hT rfl rfl rfl (by kernel_rfl) hMe [] [] rfl rfl ?_
    rintro _ _ ⟨rfl, rfl⟩
    refine a_if hT rfl rfl (fun h => ?_) (fun h => ?_)
    · have h := of_decide_eq_true h
      refine a_ret hT [60] rfl rfl rfl rfl rfl rfl ?_
      rw [if_pos (by rw [hbl] at h; omega)]
      exact ⟨_, Le.tup (.cons le_nil (.cons (Le.refl _) .nil)), rfl, rfl⟩
    · have h := of_decide_eq_false h
      refine a_ret hT [60] rfl rfl rfl rfl rfl rfl ?_
      rw [if_neg (by rw [hbl] at h; omega)]
      exact ⟨_, Le.refl _, rfl, rfl⟩
end Go.Proofs.YtjcolfogmmjaoaaGreatDoor
end

section
set_option linter.unusedVariables false
set_option linter.unusedSimpArgs false
set_option maxRecDepth 100000
set_option maxHeartbeats 1000000
namespace Go.Proofs.YtjcolfogmmjaoaaGreatDoor
open V A
theorem bdLeaf {k n u : Int} {b : Bool} {s : ByteArray} (h : s.size ≤ reachN) : BdN (.mk k n u b s 0 []) := .mk h (Nat.zero_le _) (fun _ _ h => by simp at h) (fun _ _ _ h => by simp at h)
theorem Same_refl_spec {z : ND} (hz : BdN z) : FSpec Tryz.prog 17 [ndA z, ndA z] [] fun a cs => a = bA true ∧ cs = [] := by
  have := Same_spec hz (y := z)
  rw [sameN_refl] at this
  exact this
end Go.Proofs.YtjcolfogmmjaoaaGreatDoor
end

section
set_option linter.unusedVariables false
set_option linter.unusedSimpArgs false
set_option maxRecDepth 100000
set_option maxHeartbeats 1000000
namespace Go.Proofs.YtjcolfogmmjaoaaGreatDoor
open V A
section
variable {P : Program} {g : Nat} {t : TypeId} {ds : List A.Dat}
theorem sh_int {k : IntKind} (hu : P.underlying t = some (.int k)) (h : ShT P g t ds) : ∃ m, ds = [.v (.int k m)] ∧ (Lit.int k m).wf = true := by
  cases g with
  | zero => unfold ShT at h; exact h.elim
  | succ g => unfold ShT at h; simpa only [hu] using h
theorem sh_bool (hu : P.underlying t = some .bool) (h : ShT P g t ds) : ∃ b, ds = [.v (.bool b)] := by
  cases g with
  | zero => unfold ShT at h; exact h.elim
  | succ g => unfold ShT at h; simpa only [hu] using h
theorem sh_str (hu : P.underlying t = some .string) (h : ShT P g t ds) : ∃ b : ByteArray, ds = [.v (.string b)] ∧ b.size ≤ reachBytes := by
  cases g with
  | zero => unfold ShT at h; exact h.elim
  | succ g => unfold ShT at h; simpa only [hu] using h
theorem sh_sl {e : TypeId} (hu : P.underlying t = some (.slice e)) (h : ShT P g t ds) : ∃ g', g' < g ∧ ∃ xs : List (List A.Dat), ds = [.sl (P.cellsOf e) xs] ∧ xs.length ≤ reachBytes ∧ ∀ x ∈ xs, ShT P g' e x := by
  cases g with
  | zero => unfold ShT at h; exact h.elim
  | succ g => unfold ShT at h; exact ⟨g, Nat.lt_succ_self g, by simpa only [hu] using h⟩
theorem sh_st {fs : Array Field} (hu : P.underlying t = some (.struct fs)) (h : ShT P g t ds) : ∃ g', g' < g ∧ ShF P (ShT P g') fs.toList ds := by
  cases g with
  | zero => unfold ShT at h; exact h.elim
  | succ g => unfold ShT at h; exact ⟨g, Nat.lt_succ_self g, by simpa only [hu] using h⟩
end
theorem rb : reachBytes = reachN := by decide
theorem cNode : Tryz.prog.cellsOf 38 = 7 := by kernel_rfl
theorem cField : Tryz.prog.cellsOf 79 = 2 := by kernel_rfl
theorem nd_of' : ∀ (ds : List A.Dat), Les (ds.map .d) (ds.map nd)
  | [] => .nil
  | d :: ds => .cons nd_of (nd_of' ds)
theorem argT_one {w : World} {d : A.Dat} {v : Value} (h2 : A.VRep no w [d] v.cells.toList) (hf : ∀ cs, v ≠ .agg cs) : A.DRep no w d v := by
  have hc : v.cells = #[v] := by cases v <;> first | rfl | exact absurd rfl (hf _)
  rw [hc] at h2
  unfold A.VRep at h2
  obtain ⟨x, r, e, hd, hr⟩ := h2
  simp at e
  obtain ⟨rfl, _⟩ := e
  exact hd
theorem argT_int {w : World} {t : TypeId} {k : IntKind} {v : Value} (hu : Tryz.prog.underlying t = some (.int k)) (hs : isStruct Tryz.prog t = false) (h : ArgT Tryz.prog w t v) : ∃ m, v = .int k m ∧ (Lit.int k m).wf = true := by
  obtain ⟨⟨g, ds, h1, h2⟩, h3⟩ := h
  obtain ⟨m, rfl, hm⟩ := sh_int hu h1
  have := argT_one h2 (h3.2 hs)
  unfold A.DRep at this
  exact ⟨m, this.1, hm⟩
end Go.Proofs.YtjcolfogmmjaoaaGreatDoor
end

section
set_option linter.unusedVariables false
set_option linter.unusedSimpArgs false
set_option maxRecDepth 100000
set_option maxHeartbeats 1000000
namespace Go.Proofs.YtjcolfogmmjaoaaGreatDoor
open V A
inductive RgN : ND → Prop
  | mk {k n u : Int} {b : Bool} {s : ByteArray} {t : Int} {fs : List NF} : I64 k → I64 n → U64 u → I64 t → (∀ num vs, NF.mk num vs ∈ fs → I64 num) → (∀ num vs x, NF.mk num vs ∈ fs → x ∈ vs → RgN x) → RgN (.mk k n u b s t fs)
theorem wf_i64 {m : Int} (h : (Lit.int .i64 m).wf = true) : I64 m := by
  simp [Lit.wf, IntKind.min, IntKind.max, IntKind.bits, IntKind.signed] at h
  unfold I64; omega
theorem wf_u64 {m : Int} (h : (Lit.int .u64 m).wf = true) : U64 m := by
  simp [Lit.wf, IntKind.min, IntKind.max, IntKind.bits, IntKind.signed] at h
  unfold U64; omega
theorem listQ {α : Type} {e : α → List A.Dat} {Q : α → Prop} : ∀ {xs : List (List A.Dat)}, (∀ x ∈ xs, ∃ y, x = e y ∧ Q y) → ∃ ys : List α, xs = ys.map e ∧ ∀ y ∈ ys, Q y
  | [], _ => ⟨[], rfl, by simp⟩
  | x :: xs, h => by
    obtain ⟨y, e1, hy⟩ := h x (by simp)
    obtain ⟨ys, e2, hys⟩ := listQ (xs := xs) fun x hx => h x (by simp [hx])
    refine ⟨y :: ys, by rw [e1, e2]; rfl, fun z hz => ?_⟩
    rcases List.mem_cons.1 hz with rfl | hz
    · exact hy
    · exact hys z hz
theorem sh_nfR {g : Nat} (ih : ∀ g', g' < g → ∀ ds, ShT Tryz.prog g' 38 ds → ∃ x, ds = ndD x ∧ BdN x ∧ RgN x) {ds : List A.Dat} (h : ShT Tryz.prog g 79 ds) : ∃ f : NF, ds = nfD f ∧ ∀ num vs, f = .mk num vs → vs.length ≤ reachN ∧ I64 num ∧ ∀ y ∈ vs, BdN y ∧ RgN y := by
  obtain ⟨g1, hg1, h⟩ := sh_st Tryz.underlying79 h
  obtain ⟨a0, r, rfl, h0, h⟩ := h
  obtain ⟨a1, r, rfl, h1, h⟩ := h
  have h : r = [] := h
  subst h
  obtain ⟨num, rfl, hnum⟩ := sh_int Tryz.underlying3 h0
  obtain ⟨g2, hg2, xs, rfl, hl, hx⟩ := sh_sl Tryz.underlying77 h1
  obtain ⟨ys, rfl, hy⟩ := listQ (e := ndD) (Q := fun x => BdN x ∧ RgN x) fun x hx' => ih g2 (by omega) x (hx x hx')
  rw [cNode]
  refine ⟨.mk num ys, by unfold nfD; rw [ndsD_map]; rfl, fun n2 v2 e => ?_⟩
  cases e
  exact ⟨by rw [← rb]; rw [List.length_map] at hl; exact hl, wf_i64 hnum, hy⟩
theorem sh_ndR : ∀ (g : Nat) (ds : List A.Dat), ShT Tryz.prog g 38 ds → ∃ x, ds = ndD x ∧ BdN x ∧ RgN x := by
  intro g
  induction g using Nat.strongRecOn with
  | _ g ih =>
  intro ds h
  obtain ⟨g1, hg1, h⟩ := sh_st Tryz.underlying38 h
  obtain ⟨a0, r, rfl, h0, h⟩ := h
  obtain ⟨a1, r, rfl, h1, h⟩ := h
  obtain ⟨a2, r, rfl, h2, h⟩ := h
  obtain ⟨a3, r, rfl, h3, h⟩ := h
  obtain ⟨a4, r, rfl, h4, h⟩ := h
  obtain ⟨a5, r, rfl, h5, h⟩ := h
  obtain ⟨a6, r, rfl, h6, h⟩ := h
  have h : r = [] := h
  subst h
  obtain ⟨k, rfl, hk⟩ := sh_int Tryz.underlying3 h0
  obtain ⟨n, rfl, hn⟩ := sh_int Tryz.underlying2 h1
  obtain ⟨u, rfl, hu⟩ := sh_int Tryz.underlying35 h2
  obtain ⟨b, rfl⟩ := sh_bool Tryz.underlying4 h3
  obtain ⟨s, rfl, hs⟩ := sh_str Tryz.underlying9 h4
  obtain ⟨t, rfl, ht⟩ := sh_int Tryz.underlying3 h5
  obtain ⟨g2, hg2, xs, rfl, hl, hx⟩ := sh_sl Tryz.underlying36 h6
  obtain ⟨fs, rfl, hf⟩ := listQ (e := nfD) fun x hx' => sh_nfR (fun g' hg' => ih g' (by omega)) (hx x hx')
  rw [cField]
  refine ⟨.mk k n u b s t fs, by unfold ndD; rw [nfsD_map]; rfl, ?_, ?_⟩
  · exact .mk (by rw [← rb]; exact hs) (by rw [← rb]; rw [List.length_map] at hl; exact hl) (fun num vs hm => (hf _ hm num vs rfl).1) (fun num vs x hm hx => ((hf _ hm num vs rfl).2.2 x hx).1)
  · exact .mk (wf_i64 hk) (wf_i64 hn) (wf_u64 hu) (wf_i64 ht) (fun num vs hm => (hf _ hm num vs rfl).2.1) (fun num vs x hm hx => ((hf _ hm num vs rfl).2.2 x hx).2)
theorem argT_ndR {w : World} {v : Value} (h : ArgT Tryz.prog w 38 v) : ∃ x, Rep no w (ndA x) v ∧ BdN x ∧ RgN x := by
  obtain ⟨⟨g, ds, h1, h2⟩, h3⟩ := h
  obtain ⟨x, rfl, hx⟩ := sh_ndR g ds h1
  refine ⟨x, ?_, hx⟩
  rw [h3.1 (by kernel_rfl)]
  unfold ndA
  have := (nd_of' (ndD x)).reps (Reps.ofV h2)
  unfold Rep
  exact ⟨_, by simp, this, h2.one⟩
structure BdS (s : SchP) : Prop where
  ms : s.ms.length ≤ reachN
  es : s.es.length ≤ reachN
  mts : s.mts.length ≤ reachN
  m : ∀ m ∈ s.ms, m.name.size ≤ reachN ∧ m.fs.length ≤ reachN ∧ ∀ f ∈ m.fs, f.name.size ≤ reachN ∧ I64 f.num ∧ I64 f.kind ∧ I64 f.ty
  e : ∀ e ∈ s.es, e.name.size ≤ reachN ∧ e.vs.length ≤ reachN ∧ ∀ v ∈ e.vs, v.name.size ≤ reachN ∧ I64 v.num
  t : ∀ t ∈ s.mts, t.svc.size ≤ reachN ∧ t.name.size ≤ reachN ∧ I64 t.id ∧ I64 t.inn ∧ I64 t.out
theorem cFD : Tryz.prog.cellsOf 68 = 5 := by kernel_rfl
theorem cMD : Tryz.prog.cellsOf 57 = 2 := by kernel_rfl
theorem cED : Tryz.prog.cellsOf 82 = 2 := by kernel_rfl
theorem cVD : Tryz.prog.cellsOf 84 = 2 := by kernel_rfl
theorem cTD : Tryz.prog.cellsOf 86 = 5 := by kernel_rfl
theorem sh_fd {g : Nat} {ds : List A.Dat} (h : ShT Tryz.prog g 68 ds) : ∃ f : FDP, ds = eF f ∧ f.name.size ≤ reachN ∧ I64 f.num ∧ I64 f.kind ∧ I64 f.ty := by
  obtain ⟨g1, hg1, h⟩ := sh_st Tryz.underlying68 h
  obtain ⟨a0, r, rfl, h0, h⟩ := h
  obtain ⟨a1, r, rfl, h1, h⟩ := h
  obtain ⟨a2, r, rfl, h2, h⟩ := h
  obtain ⟨a3, r, rfl, h3, h⟩ := h
  obtain ⟨a4, r, rfl, h4, h⟩ := h
  have h : r = [] := h
  subst h
  obtain ⟨n, rfl, hn⟩ := sh_int Tryz.underlying3 h0
  obtain ⟨s, rfl, hs⟩ := sh_str Tryz.underlying9 h1
  obtain ⟨k, rfl, hk⟩ := sh_int Tryz.underlying3 h2
  obtain ⟨b, rfl⟩ := sh_bool Tryz.underlying4 h3
  obtain ⟨t, rfl, ht⟩ := sh_int Tryz.underlying3 h4
  exact ⟨⟨n, s, k, b, t⟩, rfl, by rw [← rb]; exact hs, wf_i64 hn, wf_i64 hk, wf_i64 ht⟩
theorem sh_md {g : Nat} {ds : List A.Dat} (h : ShT Tryz.prog g 57 ds) : ∃ m : MDP, ds = eM m ∧ m.name.size ≤ reachN ∧ m.fs.length ≤ reachN ∧ ∀ f ∈ m.fs, f.name.size ≤ reachN ∧ I64 f.num ∧ I64 f.kind ∧ I64 f.ty := by
  obtain ⟨g1, hg1, h⟩ := sh_st Tryz.underlying57 h
  obtain ⟨a0, r, rfl, h0, h⟩ := h
  obtain ⟨a1, r, rfl, h1, h⟩ := h
  have h : r = [] := h
  subst h
  obtain ⟨s, rfl, hs⟩ := sh_str Tryz.underlying9 h0
  obtain ⟨g2, hg2, xs, rfl, hl, hx⟩ := sh_sl Tryz.underlying55 h1
  obtain ⟨fs, rfl, hf⟩ := listQ fun x hx' => sh_fd (hx x hx')
  rw [cFD]
  exact ⟨⟨s, fs⟩, rfl, by rw [← rb]; exact hs, by rw [← rb]; rw [List.length_map] at hl; exact hl, hf⟩
theorem sh_vd {g : Nat} {ds : List A.Dat} (h : ShT Tryz.prog g 84 ds) : ∃ v : VDP, ds = eVd v ∧ v.name.size ≤ reachN ∧ I64 v.num := by
  obtain ⟨g1, hg1, h⟩ := sh_st Tryz.underlying84 h
  obtain ⟨a0, r, rfl, h0, h⟩ := h
  obtain ⟨a1, r, rfl, h1, h⟩ := h
  have h : r = [] := h
  subst h
  obtain ⟨s, rfl, hs⟩ := sh_str Tryz.underlying9 h0
  obtain ⟨n, rfl, hn⟩ := sh_int Tryz.underlying3 h1
  exact ⟨⟨s, n⟩, rfl, by rw [← rb]; exact hs, wf_i64 hn⟩
theorem sh_ed {g : Nat} {ds : List A.Dat} (h : ShT Tryz.prog g 82 ds) : ∃ e : EDP, ds = eE e ∧ e.name.size ≤ reachN ∧ e.vs.length ≤ reachN ∧ ∀ v ∈ e.vs, v.name.size ≤ reachN ∧ I64 v.num := by
  obtain ⟨g1, hg1, h⟩ := sh_st Tryz.underlying82 h
  obtain ⟨a0, r, rfl, h0, h⟩ := h
  obtain ⟨a1, r, rfl, h1, h⟩ := h
  have h : r = [] := h
  subst h
  obtain ⟨s, rfl, hs⟩ := sh_str Tryz.underlying9 h0
  obtain ⟨g2, hg2, xs, rfl, hl, hx⟩ := sh_sl Tryz.underlying80 h1
  obtain ⟨vs, rfl, hf⟩ := listQ fun x hx' => sh_vd (hx x hx')
  rw [cVD]
  exact ⟨⟨s, vs⟩, rfl, by rw [← rb]; exact hs, by rw [← rb]; rw [List.length_map] at hl; exact hl, hf⟩
theorem sh_td {g : Nat} {ds : List A.Dat} (h : ShT Tryz.prog g 86 ds) : ∃ t : MtP, ds = eT t ∧ t.svc.size ≤ reachN ∧ t.name.size ≤ reachN ∧ I64 t.id ∧ I64 t.inn ∧ I64 t.out := by
  obtain ⟨g1, hg1, h⟩ := sh_st Tryz.underlying86 h
  obtain ⟨a0, r, rfl, h0, h⟩ := h
  obtain ⟨a1, r, rfl, h1, h⟩ := h
  obtain ⟨a2, r, rfl, h2, h⟩ := h
  obtain ⟨a3, r, rfl, h3, h⟩ := h
  obtain ⟨a4, r, rfl, h4, h⟩ := h
  have h : r = [] := h
  subst h
  obtain ⟨n, rfl, hn⟩ := sh_int Tryz.underlying3 h0
  obtain ⟨s, rfl, hs⟩ := sh_str Tryz.underlying9 h1
  obtain ⟨s2, rfl, hs2⟩ := sh_str Tryz.underlying9 h2
  obtain ⟨k, rfl, hk⟩ := sh_int Tryz.underlying3 h3
  obtain ⟨t, rfl, ht⟩ := sh_int Tryz.underlying3 h4
  exact ⟨⟨n, s, s2, k, t⟩, rfl, by rw [← rb]; exact hs, by rw [← rb]; exact hs2, wf_i64 hn, wf_i64 hk, wf_i64 ht⟩
theorem sh_sch {g : Nat} {ds : List A.Dat} (h : ShT Tryz.prog g 26 ds) : ∃ s : SchP, ds = schD s ∧ BdS s := by
  obtain ⟨g1, hg1, h⟩ := sh_st Tryz.underlying26 h
  obtain ⟨a0, r, rfl, h0, h⟩ := h
  obtain ⟨a1, r, rfl, h1, h⟩ := h
  obtain ⟨a2, r, rfl, h2, h⟩ := h
  have h : r = [] := h
  subst h
  obtain ⟨g2, hg2, xs, rfl, hl, hx⟩ := sh_sl Tryz.underlying22 h0
  obtain ⟨ms, rfl, hm⟩ := listQ fun x hx' => sh_md (hx x hx')
  obtain ⟨g3, hg3, xs, rfl, hl2, hx⟩ := sh_sl Tryz.underlying23 h1
  obtain ⟨es, rfl, he⟩ := listQ fun x hx' => sh_ed (hx x hx')
  obtain ⟨g4, hg4, xs, rfl, hl3, hx⟩ := sh_sl Tryz.underlying24 h2
  obtain ⟨ts, rfl, ht⟩ := listQ fun x hx' => sh_td (hx x hx')
  rw [cMD, cED, cTD]
  rw [List.length_map, rb] at hl hl2 hl3
  exact ⟨⟨ms, es, ts⟩, rfl, hl, hl2, hl3, hm, he, ht⟩
theorem argT_sch {w : World} {v : Value} (h : ArgT Tryz.prog w 26 v) : ∃ s, Rep no w (schA s) v ∧ BdS s := by
  obtain ⟨⟨g, ds, h1, h2⟩, h3⟩ := h
  obtain ⟨x, rfl, hx⟩ := sh_sch h1
  refine ⟨x, ?_, hx⟩
  rw [h3.1 (by kernel_rfl)]
  unfold schA
  have := (nd_of' (schD x)).reps (Reps.ofV h2)
  unfold Rep
  exact ⟨_, by simp, this, h2.one⟩
theorem tdiv_ge (n : Nat) : (n : Int) ≤ 100 * Int.tdiv (n : Int) 100 + 99 := by
  rw [Int.tdiv_eq_ediv_of_nonneg (by omega)]
  omega
mutual
theorem wt_small : ∀ (x : ND) (d l : Int), 0 ≤ smallP x d l → (wtV (theirsP x) : Int) + 200 * smallP x d l ≤ 200 * l
  | .mk k n u b s t fs, d, l, h => by
    have ht := tdiv100 s.size
    have hg := tdiv_ge s.size
    unfold smallP at h ⊢
    split at h
    · omega
    · rename_i hc
      rw [if_neg hc]
      have hf := wtFs_small fs d _ h
      unfold theirsP
      have hle := smallFs_le fs d _ h
      repeat' split
      all_goals first
        | (rw [wtV_msg]; omega)
        | (unfold wtV; omega)
theorem wtFs_small : ∀ (fs : List NF) (d l : Int), 0 ≤ smallFs fs d l → (wtFs (theirsFs fs) : Int) + 200 * smallFs fs d l ≤ 200 * l
  | [], d, l, h => by unfold theirsFs smallFs wtFs; simp
  | .mk num vs :: fs, d, l, h => by
    unfold smallFs at h ⊢
    unfold smallF at h ⊢
    unfold theirsFs theirsF
    rw [wtFs_cons, wtF_mk]
    split at h
    · omega
    · rename_i l' e
      have h1 := wtVs_small vs (d + 1) (l - 1) l' e
      have h2 := wtFs_small fs d l' h
      omega
theorem wtVs_small : ∀ (vs : List ND) (d l l' : Int), smallVs vs d l = some l' → (wtVs (theirsVs vs) : Int) + 200 * l' ≤ 200 * l
  | [], d, l, l', h => by unfold smallVs at h; cases h; unfold theirsVs wtVs; simp
  | x :: xs, d, l, l', h => by
    unfold smallVs at h
    split at h
    · cases h
    · rename_i hc
      have h1 := wt_small x d l (by omega)
      have h2 := wtVs_small xs d _ l' h
      unfold theirsVs
      rw [wtVs_cons]
      omega
end
mutual
theorem wf_theirs : ∀ (x : ND), RgN x → OkN x → wtV (theirsP x) ≤ 100000 → WfV (theirsP x)
  | .mk k n u b s t fs, hr, ho, hw => by
    cases hr with
    | mk h1 h2 h3 h4 h5 h6 =>
    cases ho with
    | mk o1 o2 o3 =>
    have h32 := wrap32b n
    unfold theirsP at hw ⊢
    split
    · exact .int _ h2
    split
    · exact .uint _ h3
    split
    · exact .bool _
    split
    · rename_i hh1 hh2 hh3 hh4
      rw [if_neg hh1, if_neg hh2, if_neg hh3, if_pos hh4] at hw
      unfold wtV at hw
      exact .text _ (by omega)
    split
    · rename_i hh1 hh2 hh3 hh4 hh5
      rw [if_neg hh1, if_neg hh2, if_neg hh3, if_neg hh4, if_pos hh5] at hw
      unfold wtV at hw
      exact .bytes _ (by omega)
    split
    · exact .enum _ h32.1 h32.2
    split
    · rename_i hh1 hh2 hh3 hh4 hh5 hh6 hh7
      rw [if_neg hh1, if_neg hh2, if_neg hh3, if_neg hh4, if_neg hh5, if_neg hh6, if_pos hh7, wtV_msg] at hw
      refine .msg (by rw [theirsFs_map, List.length_map]; exact o1) (fun num vs hm => ?_) (fun num vs hm => ?_) (by omega) (fun num vs x hm hx => ?_)
      · rw [theirsFs_map] at hm
        obtain ⟨f, hf, he⟩ := List.mem_map.1 hm
        obtain ⟨num', vs'⟩ := f
        unfold theirsF at he
        cases he
        rw [theirsVs_map, List.length_map]
        exact o2 _ _ hf
      · rw [theirsFs_map] at hm
        obtain ⟨f, hf, he⟩ := List.mem_map.1 hm
        obtain ⟨num', vs'⟩ := f
        unfold theirsF at he
        cases he
        exact h5 _ _ hf
      · exact wfFs_theirs fs h6 o3 (by omega) num vs x hm hx
    · exact .none
theorem wfFs_theirs : ∀ (fs : List NF), (∀ num vs x, NF.mk num vs ∈ fs → x ∈ vs → RgN x) → (∀ num vs x, NF.mk num vs ∈ fs → x ∈ vs → OkN x) → wtFs (theirsFs fs) ≤ 100000 → ∀ num vs x, VF.mk num vs ∈ theirsFs fs → x ∈ vs → WfV x
  | [], _, _, _, num, vs, x, hm, hx => by unfold theirsFs at hm; simp at hm
  | .mk n' vs' :: fs, h1, h2, hw, num, vs, x, hm, hx => by
    unfold theirsFs at hm hw
    unfold theirsF at hm hw
    rw [wtFs_cons, wtF_mk] at hw
    rcases List.mem_cons.1 hm with he | hm
    · cases he
      exact wfVs_theirs vs' (fun x hx => h1 n' vs' x (by simp) hx) (fun x hx => h2 n' vs' x (by simp) hx) (by omega) x hx
    · exact wfFs_theirs fs (fun num vs x hm hx => h1 num vs x (by simp [hm]) hx) (fun num vs x hm hx => h2 num vs x (by simp [hm]) hx) (by omega) num vs x hm hx
theorem wfVs_theirs : ∀ (vs : List ND), (∀ x ∈ vs, RgN x) → (∀ x ∈ vs, OkN x) → wtVs (theirsVs vs) ≤ 100000 → ∀ x ∈ theirsVs vs, WfV x
  | [], _, _, _, x, hx => by unfold theirsVs at hx; simp at hx
  | y :: vs, h1, h2, hw, x, hx => by
    unfold theirsVs at hx hw
    rw [wtVs_cons] at hw
    rcases List.mem_cons.1 hx with rfl | hx
    · exact wf_theirs y (h1 y (by simp)) (h2 y (by simp)) (by omega)
    · exact wfVs_theirs vs (fun x hx => h1 x (by simp [hx])) (fun x hx => h2 x (by simp [hx])) (by omega) x hx
end
end Go.Proofs.YtjcolfogmmjaoaaGreatDoor
end

section
set_option linter.unusedVariables false
set_option linter.unusedSimpArgs false
set_option maxRecDepth 100000
set_option maxHeartbeats 2000000
namespace Go.Proofs.YtjcolfogmmjaoaaGreatDoor
open V A
structure SmM (m : MDP) : Prop where
  fl : m.fs.length ≤ 2000
  nm : m.name.size ≤ 3000
  fn : ∀ f ∈ m.fs, f.name.size ≤ 3000
structure SmE (e : EDP) : Prop where
  vl : e.vs.length ≤ 2000
  nm : e.name.size ≤ 3000
  vn : ∀ v ∈ e.vs, v.name.size ≤ 3000
def SmT (t : MtP) : Prop := t.svc.size ≤ 3000 ∧ t.name.size ≤ 3000
theorem take_mem {α : Type} {l : List α} {i : Nat} {Q : α → Prop} {x : α} (htk : l.take (i + 1) = l.take i ++ [x]) (h : ∀ y ∈ l.take i, Q y) (hx : Q x) : ∀ y ∈ l.take (i + 1), Q y := by
  intro y hy
  rw [htk] at hy
  rcases List.mem_append.1 hy with hy | hy
  · exact h y hy
  · simp at hy; subst hy; exact hx
theorem SmallS_spec {s : SchP} (hb : BdS s) : FSpec Tryz.prog 14 [schA s] [] fun a cs => (∃ b, a = bA b ∧ (b = true → SzS s)) ∧ cs = [] := by
  have hr : reachN = 140737488351232 := rfl
  have b1 := hb.ms
  have b2 := hb.es
  have b3 := hb.mts
  have l1 : (s.ms.map eM).length = s.ms.length := List.length_map _
  have l2 : (s.es.map eE).length = s.es.length := List.length_map _
  have l3 : (s.mts.map eT).length = s.mts.length := List.length_map _
  refine a_enter hT [schA s] [] Tryz.func14 rfl rfl rfl ⟨Fit.refl _, trivial⟩ fun c' => ?_
  refine a_box hT 20 rfl rfl rfl rfl fun g => ?_
  refine a_freezeK 1 20 rfl rfl rfl rfl rfl ?_
  refine a_loop hT [1, 3, 22, 23] (fun x : Nat × Int => [.d (.p (schD s)), .v (kI x.2) 0, .v (kI s.ms.length) 0, .v (kI x.1) 0]) (fun _ => []) (fun x => x.1 ≤ s.ms.length ∧ (s.ms.length : Int) + s.es.length + s.mts.length ≤ x.2 ∧ x.2 ≤ 3 * reachN + 2000 ∧ ∀ m ∈ s.ms.take x.1, SmM m) (fun x => s.ms.length - x.1) (0, (s.ms.length : Int) + s.es.length + s.mts.length) [] rfl rfl ⟨Nat.zero_le _, by dsimp only; omega, by dsimp only; omega, by simp⟩ ⟨rfl, by show Value.int .i64 (IntKind.i64.wrap (IntKind.i64.wrap (((s.ms.map eM).length : Int) + ((s.es.map eE).length : Int)) + ((s.mts.map eT).length : Int))) = _; rw [l1, l2, l3, w64 (x := (s.ms.length : Int) + s.es.length) (by omega) (by omega), w64 (by omega) (by omega)]; rfl, by rw [← l1]; rfl, rfl, trivial⟩ rfl trivial ?_
  rintro ⟨i, n⟩ ⟨i1, i2, i3, i4⟩
  dsimp only at i1 i2 i3 i4
  have hw := wN i (by omega)
  rcases Nat.lt_or_ge i s.ms.length with hil | hil
  · have hat : (s.ms.map eM)[(i : Int).toNat]? = some (eM s.ms[i]) := by rw [Int.toNat_natCast, List.getElem?_map, List.getElem?_eq_getElem hil]; rfl
    have hmem := List.getElem_mem hil
    have htk : s.ms.take (i + 1) = s.ms.take i ++ [s.ms[i]] := List.take_succ_eq_append_getElem hil
    generalize s.ms[i] = m at hat hmem htk
    have hbm := hb.m m hmem
    have lf : (m.fs.map eF).length = m.fs.length := List.length_map _
    refine a_t hT rfl rfl (decide_eq_true (by show (i : Int) < (s.ms.length : Int); omega)) ?_
    refine a_ix hT _ rfl rfl rfl rfl rfl rfl (by first | omega | assumption) (by first | assumption | rfl) ?_
    refine a_g hT rfl rfl rfl (fun h => ?_) (fun h => ?_)
    · have h := of_decide_eq_true h
      refine a_t hT rfl rfl rfl ?_
      refine a_ret hT [] rfl rfl rfl rfl rfl rfl ?_
      exact ⟨⟨false, rfl, fun h => by cases h⟩, rfl⟩
    · have h := of_decide_eq_false h
      refine a_ix hT _ rfl rfl rfl rfl rfl rfl (by first | omega | assumption) (by first | assumption | rfl) ?_
      refine a_if hT rfl rfl (fun h1 => ?_) (fun h1 => ?_)
      · have h1 := of_decide_eq_true h1
        refine a_ret hT [] rfl rfl rfl rfl rfl rfl ?_
        exact ⟨⟨false, rfl, fun h => by cases h⟩, rfl⟩
      · have h1 := of_decide_eq_false h1
        refine a_ix hT _ rfl rfl rfl rfl rfl rfl (by first | omega | assumption) (by first | assumption | rfl) ?_
        have hwn : IntKind.i64.wrap (n + ((m.fs.map eF).length : Int)) = n + m.fs.length := by rw [lf, w64 (by omega) (by omega)]
        have hn1 : n + (m.fs.length : Int) ≤ 2000 := by
          have h : ¬ IntKind.i64.wrap (n + ((m.fs.map eF).length : Int)) > 2000 := h
          rw [hwn] at h; omega
        have hnm : m.name.size ≤ 3000 := by have h1 : ¬ (m.name.size : Int) > 3000 := h1; omega
        refine a_loop hT [1, 3, 4, 22, 23, 53, 54] (fun j : Nat × Unit => [.d (.p (schD s)), .v (kI (n + m.fs.length)) 0, .v (kI i) 0, .v (kI s.ms.length) 0, .v (kI i) 0, .v (kI m.fs.length) 0, .v (kI j.1) 0]) (fun _ => []) (fun j => j.1 ≤ m.fs.length ∧ ∀ f ∈ m.fs.take j.1, f.name.size ≤ 3000) (fun j => m.fs.length - j.1) (0, ()) [] rfl rfl ⟨Nat.zero_le _, by simp⟩ ⟨rfl, by show Value.int .i64 (IntKind.i64.wrap (n + ((m.fs.map eF).length : Int))) = _; rw [lf, w64 (by omega) (by omega)]; rfl, rfl, rfl, rfl, by rw [← lf]; rfl, rfl, trivial⟩ rfl trivial ?_
        rintro ⟨j, _⟩ ⟨j1, j2⟩
        dsimp only at j1 j2
        have hwj := wN j (by omega)
        rcases Nat.lt_or_ge j m.fs.length with hjl | hjl
        · have hatj : (m.fs.map eF)[(j : Int).toNat]? = some (eF m.fs[j]) := by rw [Int.toNat_natCast, List.getElem?_map, List.getElem?_eq_getElem hjl]; rfl
          have htj : m.fs.take (j + 1) = m.fs.take j ++ [m.fs[j]] := List.take_succ_eq_append_getElem hjl
          generalize m.fs[j] = f at hatj htj
          refine a_t hT rfl rfl (decide_eq_true (by show (j : Int) < (m.fs.length : Int); omega)) ?_
          refine a_ix hT _ rfl rfl rfl rfl rfl rfl (by omega) hat ?_
          refine a_ix hT _ rfl rfl rfl rfl rfl rfl (by omega) hatj ?_
          refine a_if hT rfl rfl (fun h2 => ?_) (fun h2 => ?_)
          · refine a_ret hT [] rfl rfl rfl rfl rfl rfl ?_
            exact ⟨⟨false, rfl, fun h => by cases h⟩, rfl⟩
          · have h2 : ¬ (f.name.size : Int) > 3000 := of_decide_eq_false h2
            exact a_next hT (j + 1, ()) [] rfl rfl ⟨⟨by show j + 1 ≤ m.fs.length; omega, take_mem htj j2 (by omega)⟩, by show m.fs.length - (j + 1) < m.fs.length - j; omega⟩ ⟨rfl, rfl, rfl, rfl, rfl, rfl, by show Value.int .i64 _ = Value.int .i64 _; rw [hwj], trivial⟩ rfl trivial
        · refine a_f hT rfl rfl (decide_eq_false (by show ¬ (j : Int) < (m.fs.length : Int); omega)) ?_
          have hj : j = m.fs.length := by omega
          subst hj
          rw [List.take_length] at j2
          exact a_next hT (i + 1, n + m.fs.length) [] rfl rfl ⟨⟨by show i + 1 ≤ s.ms.length; omega, by dsimp only; omega, by dsimp only; omega, take_mem htk i4 ⟨by omega, hnm, j2⟩⟩, by show s.ms.length - (i + 1) < s.ms.length - i; omega⟩ ⟨rfl, rfl, rfl, by show Value.int .i64 _ = Value.int .i64 _; rw [hw], trivial⟩ rfl trivial
  · refine a_f hT rfl rfl (decide_eq_false (by show ¬ (i : Int) < (s.ms.length : Int); omega)) ?_
    have hi : i = s.ms.length := by omega
    subst hi
    rw [List.take_length] at i4
    refine a_loop hT [1, 3, 73, 74] (fun x : Nat × Int => [.d (.p (schD s)), .v (kI x.2) 0, .v (kI s.es.length) 0, .v (kI x.1) 0]) (fun _ => []) (fun x => x.1 ≤ s.es.length ∧ (s.ms.length : Int) + s.es.length + s.mts.length ≤ x.2 ∧ x.2 ≤ 3 * reachN + 2000 ∧ ∀ m ∈ s.es.take x.1, SmE m) (fun x => s.es.length - x.1) (0, n) [] rfl rfl ⟨Nat.zero_le _, i2, i3, by simp⟩ ⟨rfl, rfl, by rw [← l2]; rfl, rfl, trivial⟩ rfl trivial ?_
    rintro ⟨i, n⟩ ⟨i1, i2, i3, e4⟩
    dsimp only at i1 i2 i3 e4
    have hw := wN i (by omega)
    rcases Nat.lt_or_ge i s.es.length with hil | hil
    · have hat : (s.es.map eE)[(i : Int).toNat]? = some (eE s.es[i]) := by rw [Int.toNat_natCast, List.getElem?_map, List.getElem?_eq_getElem hil]; rfl
      have hmem := List.getElem_mem hil
      have htk : s.es.take (i + 1) = s.es.take i ++ [s.es[i]] := List.take_succ_eq_append_getElem hil
      generalize s.es[i] = m at hat hmem htk
      have hbm := hb.e m hmem
      have lf : (m.vs.map eVd).length = m.vs.length := List.length_map _
      refine a_t hT rfl rfl (decide_eq_true (by show (i : Int) < (s.es.length : Int); omega)) ?_
      refine a_ix hT _ rfl rfl rfl rfl rfl rfl (by first | omega | assumption) (by first | assumption | rfl) ?_
      refine a_g hT rfl rfl rfl (fun h => ?_) (fun h => ?_)
      · have h := of_decide_eq_true h
        refine a_t hT rfl rfl rfl ?_
        refine a_ret hT [] rfl rfl rfl rfl rfl rfl ?_
        exact ⟨⟨false, rfl, fun h => by cases h⟩, rfl⟩
      · have h := of_decide_eq_false h
        refine a_ix hT _ rfl rfl rfl rfl rfl rfl (by first | omega | assumption) (by first | assumption | rfl) ?_
        refine a_if hT rfl rfl (fun h1 => ?_) (fun h1 => ?_)
        · have h1 := of_decide_eq_true h1
          refine a_ret hT [] rfl rfl rfl rfl rfl rfl ?_
          exact ⟨⟨false, rfl, fun h => by cases h⟩, rfl⟩
        · have h1 := of_decide_eq_false h1
          refine a_ix hT _ rfl rfl rfl rfl rfl rfl (by first | omega | assumption) (by first | assumption | rfl) ?_
          have hwn : IntKind.i64.wrap (n + ((m.vs.map eVd).length : Int)) = n + m.vs.length := by rw [lf, w64 (by omega) (by omega)]
          have hn1 : n + (m.vs.length : Int) ≤ 2000 := by
            have h : ¬ IntKind.i64.wrap (n + ((m.vs.map eVd).length : Int)) > 2000 := h
            rw [hwn] at h; omega
          have hnm : m.name.size ≤ 3000 := by have h1 : ¬ (m.name.size : Int) > 3000 := h1; omega
          refine a_loop hT [1, 3, 6, 73, 74, 104, 105] (fun j : Nat × Unit => [.d (.p (schD s)), .v (kI (n + m.vs.length)) 0, .v (kI i) 0, .v (kI s.es.length) 0, .v (kI i) 0, .v (kI m.vs.length) 0, .v (kI j.1) 0]) (fun _ => []) (fun j => j.1 ≤ m.vs.length ∧ ∀ f ∈ m.vs.take j.1, f.name.size ≤ 3000) (fun j => m.vs.length - j.1) (0, ()) [] rfl rfl ⟨Nat.zero_le _, by simp⟩ ⟨rfl, by show Value.int .i64 (IntKind.i64.wrap (n + ((m.vs.map eVd).length : Int))) = _; rw [lf, w64 (by omega) (by omega)]; rfl, rfl, rfl, rfl, by rw [← lf]; rfl, rfl, trivial⟩ rfl trivial ?_
          rintro ⟨j, _⟩ ⟨j1, j2⟩
          dsimp only at j1 j2
          have hwj := wN j (by omega)
          rcases Nat.lt_or_ge j m.vs.length with hjl | hjl
          · have hatj : (m.vs.map eVd)[(j : Int).toNat]? = some (eVd m.vs[j]) := by rw [Int.toNat_natCast, List.getElem?_map, List.getElem?_eq_getElem hjl]; rfl
            have htj : m.vs.take (j + 1) = m.vs.take j ++ [m.vs[j]] := List.take_succ_eq_append_getElem hjl
            generalize m.vs[j] = f at hatj htj
            refine a_t hT rfl rfl (decide_eq_true (by show (j : Int) < (m.vs.length : Int); omega)) ?_
            refine a_ix hT _ rfl rfl rfl rfl rfl rfl (by omega) hat ?_
            refine a_ix hT _ rfl rfl rfl rfl rfl rfl (by omega) hatj ?_
            refine a_if hT rfl rfl (fun h2 => ?_) (fun h2 => ?_)
            · refine a_ret hT [] rfl rfl rfl rfl rfl rfl ?_
              exact ⟨⟨false, rfl, fun h => by cases h⟩, rfl⟩
            · have h2 : ¬ (f.name.size : Int) > 3000 := of_decide_eq_false h2
              exact a_next hT (j + 1, ()) [] rfl rfl ⟨⟨by show j + 1 ≤ m.vs.length; omega, take_mem htj j2 (by omega)⟩, by show m.vs.length - (j + 1) < m.vs.length - j; omega⟩ ⟨rfl, rfl, rfl, rfl, rfl, rfl, by show Value.int .i64 _ = Value.int .i64 _; rw [hwj], trivial⟩ rfl trivial
          · refine a_f hT rfl rfl (decide_eq_false (by show ¬ (j : Int) < (m.vs.length : Int); omega)) ?_
            have hj : j = m.vs.length := by omega
            subst hj
            rw [List.take_length] at j2
            exact a_next hT (i + 1, n + m.vs.length) [] rfl rfl ⟨⟨by show i + 1 ≤ s.es.length; omega, by dsimp only; omega, by dsimp only; omega, take_mem htk e4 ⟨by omega, hnm, j2⟩⟩, by show s.es.length - (i + 1) < s.es.length - i; omega⟩ ⟨rfl, rfl, rfl, by show Value.int .i64 _ = Value.int .i64 _; rw [hw], trivial⟩ rfl trivial
    · refine a_f hT rfl rfl (decide_eq_false (by show ¬ (i : Int) < (s.es.length : Int); omega)) ?_
      have hi : i = s.es.length := by omega
      subst hi
      rw [List.take_length] at e4
      refine a_loop hT [1, 3, 124, 125] (fun x : Nat × Unit => [.d (.p (schD s)), .v (kI n) 0, .v (kI s.mts.length) 0, .v (kI x.1) 0]) (fun _ => []) (fun x => x.1 ≤ s.mts.length ∧ ∀ m ∈ s.mts.take x.1, SmT m) (fun x => s.mts.length - x.1) (0, ()) [] rfl rfl ⟨Nat.zero_le _, by simp⟩ ⟨rfl, rfl, by rw [← l3]; rfl, rfl, trivial⟩ rfl trivial ?_
      rintro ⟨i, _⟩ ⟨i1, t4⟩
      dsimp only at i1 t4
      have hw := wN i (by omega)
      rcases Nat.lt_or_ge i s.mts.length with hil | hil
      · have hat : (s.mts.map eT)[(i : Int).toNat]? = some (eT s.mts[i]) := by rw [Int.toNat_natCast, List.getElem?_map, List.getElem?_eq_getElem hil]; rfl
        have htk : s.mts.take (i + 1) = s.mts.take i ++ [s.mts[i]] := List.take_succ_eq_append_getElem hil
        generalize s.mts[i] = m at hat htk
        refine a_t hT rfl rfl (decide_eq_true (by show (i : Int) < (s.mts.length : Int); omega)) ?_
        refine a_g hT rfl rfl rfl (fun h => ?_) (fun h => ?_)
        · have h := of_decide_eq_true h
          refine a_gt hT rfl rfl rfl rfl ?_
          refine a_t hT rfl rfl rfl ?_
          refine a_ret hT [] rfl rfl rfl rfl rfl rfl ?_
          exact ⟨⟨false, rfl, fun h => by cases h⟩, rfl⟩
        · have h := of_decide_eq_false h
          refine a_ix hT _ rfl rfl rfl rfl rfl rfl (by first | omega | assumption) (by first | assumption | rfl) ?_
          refine a_g hT rfl rfl rfl (fun h1 => ?_) (fun h1 => ?_)
          · have h1 := of_decide_eq_true h1
            refine a_t hT rfl rfl rfl ?_
            refine a_ret hT [] rfl rfl rfl rfl rfl rfl ?_
            exact ⟨⟨false, rfl, fun h => by cases h⟩, rfl⟩
          · have h1 := of_decide_eq_false h1
            refine a_ix hT _ rfl rfl rfl rfl rfl rfl (by first | omega | assumption) (by first | assumption | rfl) ?_
            refine a_if hT rfl rfl (fun h2 => ?_) (fun h2 => ?_)
            · have h2 := of_decide_eq_true h2
              refine a_ret hT [] rfl rfl rfl rfl rfl rfl ?_
              exact ⟨⟨false, rfl, fun h => by cases h⟩, rfl⟩
            · have h2 := of_decide_eq_false h2
              exact a_next hT (i + 1, ()) [] rfl rfl ⟨⟨by show i + 1 ≤ s.mts.length; omega, take_mem htk t4 ⟨by first | omega | (rename_i q1 q2; omega), by first | omega | (rename_i q1 q2; omega)⟩⟩, by show s.mts.length - (i + 1) < s.mts.length - i; omega⟩ ⟨rfl, rfl, rfl, by show Value.int .i64 _ = Value.int .i64 _; rw [hw], trivial⟩ rfl trivial
      · refine a_f hT rfl rfl (decide_eq_false (by show ¬ (i : Int) < (s.mts.length : Int); omega)) ?_
        have hi : i = s.mts.length := by omega
        subst hi
        rw [List.take_length] at t4
        refine a_ret hT [] rfl rfl rfl rfl rfl rfl ?_
        exact ⟨⟨decide (n ≤ 2000), rfl, fun h => by
          have h := of_decide_eq_true h
          exact ⟨by omega, by omega, by omega, fun m hm => (i4 m hm).fl, fun e he => (e4 e he).vl, fun m hm => by have := (i4 m hm).nm; omega, fun e he => by have := (e4 e he).nm; omega, fun m hm f hf => by have := (i4 m hm).fn f hf; omega, fun e he v hv => by have := (e4 e he).vn v hv; omega, fun t ht => by have := t4 t ht; unfold SmT at this; omega⟩⟩, rfl⟩
end Go.Proofs.YtjcolfogmmjaoaaGreatDoor
end

section
set_option linter.unusedVariables false
set_option linter.unusedSimpArgs false
set_option maxRecDepth 100000
set_option maxHeartbeats 1000000
namespace Go.Proofs.YtjcolfogmmjaoaaGreatDoor
open V A
def fX : FDP := ⟨1, mkS [120], 1, false, 0⟩
def mX : MDP := ⟨mkS [65], [fX]⟩
def sX : List MDP := [mX]
theorem plain_sX : Plain0 ⟨sX, [], []⟩ := ⟨rfl, rfl, by decide, by decide, by decide, by decide, by decide⟩
theorem formed_sX : formedS sX = true := by kernel_rfl
theorem flat_mX : FlatM mX := ⟨by decide, by decide, by decide, by decide⟩
def vX : VL := .msg 0 [.mk 1 [.int 2]] (mkS [])
theorem msg_X : msgP mX ((0 : Nat) : Int) [8, 1, 8, 2] = some vX := by rfl
theorem okV_X : OkV vX := .msg (by decide) (fun num vs h => by simp at h; obtain ⟨rfl, rfl⟩ := h; decide) (fun num vs x h hx => by simp at h; obtain ⟨rfl, rfl⟩ := h; simp at hx; subst hx; exact .int 2)
def zX : ND := .mk 7 0 0 false .empty 0 [.mk 1 [.mk 1 2 0 false .empty 0 []]]
theorem ours_X : oursP vX = zX := by rfl
theorem bd_zX : BdN zX := .mk (by decide) (by decide) (fun num vs h => by simp at h; obtain ⟨rfl, rfl⟩ := h; decide) (fun num vs x h hx => by simp at h; obtain ⟨rfl, rfl⟩ := h; simp at hx; subst hx; exact bdLeaf (by decide))
theorem awake11_spec : FSpec Tryz.prog 13 [] [] fun a cs => a = bA true ∧ cs = [] := by
  have hD := Decode_spec (d := mX) (t := 0) (bs := [8, 1, 8, 2]) plain_sX formed_sX rfl flat_mX (by decide)
  rw [msg_X] at hD
  have hO := (Ours_spec okV_X).ofNd
  rw [ours_X] at hO
  have hSm := Same_refl_spec bd_zX
  refine a_enter hT [] [] Tryz.func13 rfl rfl rfl trivial fun c' => ?_
  refine a_build hT hZ [.v (kI 1) 0, .v (.string (mkS [120])) 0, .v (kI 1) 0, .v (.bool false) 0, .v (kI 0) 0] rfl rfl rfl rfl rfl rfl ?_
  refine a_lit hT 20 rfl rfl rfl rfl (by kernel_rfl) rfl rfl rfl rfl fun x20 => ?_
  refine a_freeze 5 20 rfl rfl rfl rfl ?_
  refine a_build hT hZ [.v (.string (mkS [65])) 0, .d (.sl 5 [eF fX])] rfl rfl rfl rfl rfl rfl ?_
  refine a_lit hT 21 rfl rfl rfl rfl (by kernel_rfl) rfl rfl rfl rfl fun x21 => ?_
  refine a_freeze 7 21 rfl rfl rfl rfl ?_
  refine a_build hT hZ [.d (.sl 2 [eM mX]), .v (.slice none 0 0) 0, .v (.slice none 0 0) 0] rfl rfl rfl rfl rfl rfl ?_
  refine a_new hT hZ 22 rfl rfl rfl rfl fun g => ?_
  refine a_run hT 1 rfl rfl ?_
  refine a_cellL 22 1 (b := .d (.sl 2 [])) rfl rfl rfl le_nil ?_
  refine a_cellL 22 2 (b := .d (.sl 5 [])) rfl rfl rfl le_nil ?_
  refine a_lit hT 23 rfl rfl rfl rfl (by kernel_rfl) rfl rfl rfl rfl fun x23 => ?_
  refine a_mark hT rfl rfl rfl rfl rfl rfl rfl rfl (fun h => by cases h) ?_
  refine a_call hT rfl rfl rfl (by kernel_rfl) hD [] [] rfl rfl ?_
  rintro _ _ ⟨rfl, rfl⟩
  refine a_gt hT rfl rfl rfl rfl ?_
  refine a_call hT rfl rfl rfl (by kernel_rfl) hO [] [] rfl rfl ?_
  rintro _ _ ⟨rfl, rfl⟩
  refine a_build hT hZ [.v (Value.int IntKind.i64 1) 0, .v (Value.int IntKind.i64 2) 0, .v (Value.int IntKind.u64 0) 0, .v (Value.bool false) 0, .v (Value.string ByteArray.empty) 0, .v (Value.int IntKind.i64 0) 0, .v (Value.slice none 0 0) 0] rfl rfl rfl rfl rfl rfl ?_
  refine a_lit hT 23 rfl rfl rfl rfl (by kernel_rfl) rfl rfl rfl rfl fun x23 => ?_
  refine a_freeze 22 23 rfl rfl rfl rfl ?_
  refine a_build hT hZ [.v (kI 1) 0, .d (.sl 7 [[.v (kI 1), .v (kI 2), .v (kU 0), .v (.bool false), .v (.string .empty), .v (kI 0), .v (.slice none 0 0)]])] rfl rfl rfl rfl rfl rfl ?_
  refine a_lit hT 24 rfl rfl rfl rfl (by kernel_rfl) rfl rfl rfl rfl fun x24 => ?_
  refine a_freeze 24 24 rfl rfl rfl rfl ?_
  refine a_build hT hZ [.v (kI 7) 0, .v (kI 0) 0, .v (kU 0) 0, .v (.bool false) 0, .v (.string .empty) 0, .v (kI 0) 0, .d (.sl 2 [[.v (kI 1), .sl 7 [[.v (kI 1), .v (kI 2), .v (kU 0), .v (.bool false), .v (.string .empty), .v (kI 0), .v (.slice none 0 0)]]]])] rfl rfl rfl rfl rfl rfl ?_
  refine a_asL 25 (b := ndA zX) rfl (Le.agg (.cons (Le.refl _) (.cons (Le.refl _) (.cons (Le.refl _) (.cons (Le.refl _) (.cons (Le.refl _) (.cons (Le.refl _) (.cons (DLe.le (DLe.sl (.cons (.cons (DLe.refl _) (.cons (DLe.sl (.cons (.cons (DLe.refl _) (.cons (DLe.refl _) (.cons (DLe.refl _) (.cons (DLe.refl _) (.cons (DLe.refl _) (.cons (DLe.refl _) (.cons (DLe.nil 2) .nil))))))) .nil)) .nil)) .nil))) .nil)))))))) ?_
  refine a_call hT rfl rfl rfl (by kernel_rfl) hSm [] [] rfl rfl ?_
  rintro _ _ ⟨rfl, rfl⟩
  refine a_ret hT [] rfl rfl rfl rfl rfl rfl ?_
  first | exact ⟨rfl, rfl⟩ | rfl
end Go.Proofs.YtjcolfogmmjaoaaGreatDoor
end

section
set_option linter.unusedVariables false
set_option linter.unusedSimpArgs false
set_option maxRecDepth 100000
set_option maxHeartbeats 2000000
namespace Go.Proofs.YtjcolfogmmjaoaaGreatDoor
open V A
theorem Few_spec {s : SchP} {x : ND} (hb : BdS s) (hx : BdN x) : FSpec Tryz.prog 20 [schA s, ndA x] [] fun a cs => (∃ b, a = bA b ∧ (b = true → SzS s ∧ 0 ≤ smallP x 0 400)) ∧ cs = [] := by
  have h1 := SmallS_spec hb
  have h2 := Small_spec hx
  obtain ⟨xk, xn, xu, xb, xs, xt, xf⟩ := x
  refine a_enter hT [schA s, ndA (.mk xk xn xu xb xs xt xf)] [] Tryz.func20 rfl rfl rfl ⟨Fit.refl _, Fit.refl _, trivial⟩ fun c' => ?_
  refine a_box hT 20 rfl rfl rfl rfl fun g1 => ?_
  refine a_box hT 21 rfl rfl rfl rfl fun g2 => ?_
  refine a_call hT rfl rfl rfl (by kernel_rfl) h1 [] [] rfl rfl ?_
  rintro _ _ ⟨⟨b, rfl, hbb⟩, rfl⟩
  cases b with
  | false =>
    refine a_gf hT rfl rfl rfl rfl ?_
    refine a_ret hT [] rfl rfl rfl rfl rfl rfl ?_
    exact ⟨⟨false, rfl, fun h => by cases h⟩, rfl⟩
  | true =>
    refine a_gt hT rfl rfl rfl rfl ?_
    refine a_call hT rfl rfl rfl (by kernel_rfl) h2 [] [] rfl rfl ?_
    rintro _ _ ⟨rfl, rfl⟩
    refine a_ret hT [] rfl rfl rfl rfl rfl rfl ?_
    exact ⟨⟨_, rfl, fun h => ⟨hbb rfl, of_decide_eq_true h⟩⟩, rfl⟩
end Go.Proofs.YtjcolfogmmjaoaaGreatDoor
end

section
set_option linter.unusedVariables false
set_option linter.unusedSimpArgs false
set_option maxRecDepth 100000
set_option maxHeartbeats 2000000
namespace Go.Proofs.YtjcolfogmmjaoaaGreatDoor
open V A
inductive NG : VL → Prop
  | int (n : Int) : NG (.int n)
  | uint (n : Int) : NG (.uint n)
  | bool (b : Bool) : NG (.bool b)
  | enum (n : Int) : NG (.enum n)
  | text (b : ByteArray) : NG (.text b)
  | bytes (b : ByteArray) : NG (.bytes b)
  | msg {t : Int} {fs : List VF} {s : ByteArray} : fs.length ≤ 100000 → (∀ num vs, VF.mk num vs ∈ fs → vs.length ≤ 100000000) → (∀ num vs x, VF.mk num vs ∈ fs → x ∈ vs → NG x) → NG (.msg t fs s)
theorem ba_refl (n : ByteArray) : (n == n) = true := by first | exact beq_self_eq_true n | (cases n; rename_i d; show (d == d) = true; exact beq_self_eq_true d) | (show decide (n = n) = true; simp)
theorem VSameG_spec : ∀ {v : VL}, NG v → FSpec Tryz.prog 35 [nd (vlD v), nd (vlD v)] [] fun a cs => a = bA true ∧ cs = [] := by
  intro v hv
  induction hv with
  | @msg t fs s hl hvl hv ih =>
    have hE := FEqual_spec (l := fs) (f := 56) (cap := []) (by omega) (by kernel_rfl) (fun x hx => by
      obtain ⟨num, vs⟩ := x
      exact Same1_spec (by have := hvl num vs hx; omega) fun y hy => ih num vs y hx hy)
    refine a_enter hT [nd (vlD (.msg t fs s)), nd (vlD (.msg t fs s))] [] Tryz.func35 rfl rfl rfl ⟨Fit.refl _, Fit.refl _, trivial⟩ fun c' => ?_
    refine a_new hT hZ 20 rfl rfl rfl rfl fun g => ?_
    refine a_new hT hZ 21 rfl rfl rfl rfl fun g1 => ?_
    refine a_gf hT rfl rfl rfl rfl ?_
    refine a_f hT rfl rfl rfl ?_
    refine a_g hT rfl rfl rfl (fun h => ?_) (fun h => ?_)
    · have h := eq_of_beq h
      refine a_g hT rfl rfl rfl (fun h1 => ?_) (fun h1 => ?_)
      · have h1 := eq_of_beq h1
        refine a_call hT rfl rfl rfl (by kernel_rfl) hE [] [] rfl rfl ?_
        rintro _ _ ⟨rfl, rfl⟩
        refine a_ret hT [] rfl rfl rfl rfl rfl rfl ?_
        first | exact ⟨rfl, rfl⟩ | rfl
      · have h1 := ne_of_beq_false h1
        (exfalso; first | omega | contradiction)
    · have h := ne_of_beq_false h
      (exfalso; first | omega | contradiction)
  | int n =>
    refine a_enter hT [nd (vlD (.int n)), nd (vlD (.int n))] [] Tryz.func35 rfl rfl rfl ⟨Fit.refl _, Fit.refl _, trivial⟩ fun c' => ?_
    refine a_assertN hT (.agg #[.int .i64 0, .slice none 0 0, .string ByteArray.empty]) rfl rfl rfl rfl rfl (by kernel_rfl) rfl ?_
    refine a_new hT hZ 20 rfl rfl rfl rfl fun g => ?_
    refine a_assertN hT (.agg #[.int .i64 0, .slice none 0 0, .string ByteArray.empty]) rfl rfl rfl rfl rfl (by kernel_rfl) rfl ?_
    refine a_new hT hZ 21 rfl rfl rfl rfl fun g1 => ?_
    refine a_gt hT rfl rfl rfl rfl ?_
    refine a_t hT rfl rfl rfl ?_
    refine a_gt hT rfl rfl rfl rfl ?_
    refine a_ieq hT true rfl rfl rfl rfl rfl (by kernel_rfl) (by kernel_rfl) (by show some (n == n) = some true; simp) ?_
    refine a_ret hT [] rfl rfl rfl rfl rfl rfl ?_
    first | exact ⟨rfl, rfl⟩ | rfl
  | uint n =>
    refine a_enter hT [nd (vlD (.uint n)), nd (vlD (.uint n))] [] Tryz.func35 rfl rfl rfl ⟨Fit.refl _, Fit.refl _, trivial⟩ fun c' => ?_
    refine a_assertN hT (.agg #[.int .i64 0, .slice none 0 0, .string ByteArray.empty]) rfl rfl rfl rfl rfl (by kernel_rfl) rfl ?_
    refine a_new hT hZ 20 rfl rfl rfl rfl fun g => ?_
    refine a_assertN hT (.agg #[.int .i64 0, .slice none 0 0, .string ByteArray.empty]) rfl rfl rfl rfl rfl (by kernel_rfl) rfl ?_
    refine a_new hT hZ 21 rfl rfl rfl rfl fun g1 => ?_
    refine a_gt hT rfl rfl rfl rfl ?_
    refine a_t hT rfl rfl rfl ?_
    refine a_gt hT rfl rfl rfl rfl ?_
    refine a_ieq hT true rfl rfl rfl rfl rfl (by kernel_rfl) (by kernel_rfl) (by show some (n == n) = some true; simp) ?_
    refine a_ret hT [] rfl rfl rfl rfl rfl rfl ?_
    first | exact ⟨rfl, rfl⟩ | rfl
  | bool b =>
    refine a_enter hT [nd (vlD (.bool b)), nd (vlD (.bool b))] [] Tryz.func35 rfl rfl rfl ⟨Fit.refl _, Fit.refl _, trivial⟩ fun c' => ?_
    refine a_assertN hT (.agg #[.int .i64 0, .slice none 0 0, .string ByteArray.empty]) rfl rfl rfl rfl rfl (by kernel_rfl) rfl ?_
    refine a_new hT hZ 20 rfl rfl rfl rfl fun g => ?_
    refine a_assertN hT (.agg #[.int .i64 0, .slice none 0 0, .string ByteArray.empty]) rfl rfl rfl rfl rfl (by kernel_rfl) rfl ?_
    refine a_new hT hZ 21 rfl rfl rfl rfl fun g1 => ?_
    refine a_gt hT rfl rfl rfl rfl ?_
    refine a_t hT rfl rfl rfl ?_
    refine a_gt hT rfl rfl rfl rfl ?_
    refine a_ieq hT true rfl rfl rfl rfl rfl (by kernel_rfl) (by kernel_rfl) (by show some (b == b) = some true; simp) ?_
    refine a_ret hT [] rfl rfl rfl rfl rfl rfl ?_
    first | exact ⟨rfl, rfl⟩ | rfl
  | enum n =>
    refine a_enter hT [nd (vlD (.enum n)), nd (vlD (.enum n))] [] Tryz.func35 rfl rfl rfl ⟨Fit.refl _, Fit.refl _, trivial⟩ fun c' => ?_
    refine a_assertN hT (.agg #[.int .i64 0, .slice none 0 0, .string ByteArray.empty]) rfl rfl rfl rfl rfl (by kernel_rfl) rfl ?_
    refine a_new hT hZ 20 rfl rfl rfl rfl fun g => ?_
    refine a_assertN hT (.agg #[.int .i64 0, .slice none 0 0, .string ByteArray.empty]) rfl rfl rfl rfl rfl (by kernel_rfl) rfl ?_
    refine a_new hT hZ 21 rfl rfl rfl rfl fun g1 => ?_
    refine a_gt hT rfl rfl rfl rfl ?_
    refine a_t hT rfl rfl rfl ?_
    refine a_gt hT rfl rfl rfl rfl ?_
    refine a_ieq hT true rfl rfl rfl rfl rfl (by kernel_rfl) (by kernel_rfl) (by show some (n == n) = some true; simp) ?_
    refine a_ret hT [] rfl rfl rfl rfl rfl rfl ?_
    first | exact ⟨rfl, rfl⟩ | rfl
  | text n =>
    refine a_enter hT [nd (vlD (.text n)), nd (vlD (.text n))] [] Tryz.func35 rfl rfl rfl ⟨Fit.refl _, Fit.refl _, trivial⟩ fun c' => ?_
    refine a_assertN hT (.agg #[.int .i64 0, .slice none 0 0, .string ByteArray.empty]) rfl rfl rfl rfl rfl (by kernel_rfl) rfl ?_
    refine a_new hT hZ 20 rfl rfl rfl rfl fun g => ?_
    refine a_assertN hT (.agg #[.int .i64 0, .slice none 0 0, .string ByteArray.empty]) rfl rfl rfl rfl rfl (by kernel_rfl) rfl ?_
    refine a_new hT hZ 21 rfl rfl rfl rfl fun g1 => ?_
    refine a_gt hT rfl rfl rfl rfl ?_
    refine a_t hT rfl rfl rfl ?_
    refine a_gt hT rfl rfl rfl rfl ?_
    refine a_ieq hT true rfl rfl rfl rfl rfl (by kernel_rfl) (by kernel_rfl) (congrArg some (ba_refl n)) ?_
    refine a_ret hT [] rfl rfl rfl rfl rfl rfl ?_
    first | exact ⟨rfl, rfl⟩ | rfl
  | bytes n =>
    refine a_enter hT [nd (vlD (.bytes n)), nd (vlD (.bytes n))] [] Tryz.func35 rfl rfl rfl ⟨Fit.refl _, Fit.refl _, trivial⟩ fun c' => ?_
    refine a_assertN hT (.agg #[.int .i64 0, .slice none 0 0, .string ByteArray.empty]) rfl rfl rfl rfl rfl (by kernel_rfl) rfl ?_
    refine a_new hT hZ 20 rfl rfl rfl rfl fun g => ?_
    refine a_assertN hT (.agg #[.int .i64 0, .slice none 0 0, .string ByteArray.empty]) rfl rfl rfl rfl rfl (by kernel_rfl) rfl ?_
    refine a_new hT hZ 21 rfl rfl rfl rfl fun g1 => ?_
    refine a_gt hT rfl rfl rfl rfl ?_
    refine a_t hT rfl rfl rfl ?_
    refine a_gt hT rfl rfl rfl rfl ?_
    refine a_ieq hT true rfl rfl rfl rfl rfl (by kernel_rfl) (by kernel_rfl) (congrArg some (ba_refl n)) ?_
    refine a_ret hT [] rfl rfl rfl rfl rfl rfl ?_
    first | exact ⟨rfl, rfl⟩ | rfl
theorem ng_fits {s : SchP} : ∀ {v : VL}, WfV v → ∀ (t dep : Int), fitsP s v t dep = true → NG v := by
  intro v hv
  induction hv with
  | msg h1 h2 h3 h4 h5 ih =>
    rename_i ty fs u
    intro t dep hf
    unfold fitsP at hf
    rw [Bool.and_eq_true, Bool.and_eq_true] at hf
    obtain ⟨_, f3⟩ := hf
    cases hm : s.ms[t.toNat]? with
    | none => rw [hm] at f3; cases f3
    | some d =>
      rw [hm] at f3
      dsimp only at f3
      rw [Bool.and_eq_true] at f3
      refine .msg h1 (fun num vs hm => by have := h2 num vs hm; omega) (fun num vs x hmm hx => ?_)
      obtain ⟨_, f, hff, hne, hrl, hv⟩ := fitsFs_mem f3.2 num vs hmm
      have hone := fitsVs_mem hv x hx
      have ihx := ih num vs x hmm hx
      cases x with
      | none => cases hone
      | int n => exact .int n
      | uint n => exact .uint n
      | bool n => exact .bool n
      | enum n => exact .enum n
      | text n => exact .text n
      | bytes n => exact .bytes n
      | msg a b c =>
        rw [show ∀ r, oneK f r (.msg a b c) = (decide (f.kind = 10) && r) from fun _ => rfl, Bool.and_eq_true] at hone
        exact ihx f.ty (dep + 1) hone.2
  | _ =>
    intro t dep hf
    unfold fitsP at hf
    cases hf
theorem Decode_specG {s : SchP} (hz : SzS s) {t : Int} {bs : List UInt8} (hl : bs.length ≤ 1000000000) : FSpec Tryz.prog 15 [schA s, .v (kI t) 0, .d (A.bytesD bs)] [u8C] fun a cs => a = decE (decTop s t bs) ∧ cs = [u8C] := by
  have hF := Formed_spec hz
  have hlm : (s.ms.map eM).length = s.ms.length := List.length_map _
  have hbl := bytesD_len bs
  unfold decTop
  refine a_enter hT [schA s, .v (kI t) 0, .d (A.bytesD bs)] [60] Tryz.func15 rfl rfl rfl ⟨Fit.refl _, rfl, Fit.refl _, trivial⟩ fun c' => ?_
  refine a_box hT 61 rfl rfl rfl rfl fun g => ?_
  refine a_call hT rfl rfl rfl (by kernel_rfl) hF [] [] rfl rfl ?_
  rintro _ _ ⟨rfl, rfl⟩
  cases hfo : formedP s with
  | false =>
    refine a_gt hT rfl rfl rfl rfl ?_
    refine a_gt hT rfl rfl rfl rfl ?_
    refine a_t hT rfl rfl rfl ?_
    refine a_ret hT [60] rfl rfl rfl rfl rfl rfl ?_
    exact ⟨rfl, rfl⟩
  | true =>
    refine a_gf hT rfl rfl rfl rfl ?_
    refine a_g hT rfl rfl rfl (fun h => ?_) (fun h => ?_)
    · have h : t < 0 := of_decide_eq_true h
      rw [if_pos (by rw [decide_eq_true h]; rfl)]
      refine a_t hT rfl rfl rfl ?_
      refine a_ret hT [60] rfl rfl rfl rfl rfl rfl ?_
      exact ⟨rfl, rfl⟩
    · have h : ¬ t < 0 := of_decide_eq_false h
      refine a_if hT rfl rfl (fun h1 => ?_) (fun h1 => ?_)
      · have h1 : t ≥ ((s.ms.map eM).length : Int) := of_decide_eq_true h1
        rw [hlm] at h1
        rw [if_pos (by rw [decide_eq_false h, decide_eq_true h1]; rfl)]
        refine a_ret hT [60] rfl rfl rfl rfl rfl rfl ?_
        exact ⟨rfl, rfl⟩
      · have h1 : ¬ t ≥ ((s.ms.map eM).length : Int) := of_decide_eq_false h1
        rw [hlm] at h1
        rw [if_neg (by rw [decide_eq_false h, decide_eq_false h1]; decide)]
        refine a_if hT rfl rfl (fun h2 => ?_) (fun h2 => ?_)
        · have h2 : ((bs.map eB).length : Int) > 4096 := of_decide_eq_true h2
          rw [if_pos (by omega)]
          refine a_ret hT [60] rfl rfl rfl rfl rfl rfl ?_
          exact ⟨rfl, rfl⟩
        · have h2 : ¬ ((bs.map eB).length : Int) > 4096 := of_decide_eq_false h2
          rw [if_neg (by omega)]
          obtain ⟨k, rfl⟩ : ∃ k : Nat, t = (k : Int) := ⟨t.toNat, by omega⟩
          have hM := dmsgG_spec (schOk hfo) 16 (Nat.le_refl _) (t := k) (bs := bs) (by omega) (by omega)
          rw [show (17 : Int) - ((16 : Nat) : Int) = 1 by decide] at hM
          generalize decM s 16 k bs = M at hM
          refine a_call hT rfl rfl rfl (by kernel_rfl) hM [60] [60] rfl rfl ?_
          rintro _ _ ⟨rfl, rfl⟩
          cases M with
          | error e =>
            refine a_ret hT [60] rfl rfl rfl rfl rfl rfl ?_
            exact ⟨rfl, rfl⟩
          | ok v =>
            refine a_ret hT [60] rfl rfl rfl rfl rfl rfl ?_
            exact ⟨rfl, rfl⟩
theorem dec_top {s : SchP} {v : VL} {t : Int} (hv : WfV v) (hw : wtV v ≤ 100000000) (hf : fitsTop s v t = true) (hl : (encM s (normP s v)).length ≤ 4096) : decTop s t (encM s (normP s v)) = .ok (normP s v) := by
  have hnf := norm_top hf
  have hnw := norm_wf s v hv
  have hnt := norm_wt s v
  have hid := norm_idem s v
  generalize normP s v = w at hnf hnw hnt hid hl ⊢
  obtain ⟨fs, u, rfl, hform, ht0, ht1, hft⟩ := fits_msg hnf
  unfold decTop
  rw [if_neg (by rw [hform, decide_eq_false (by omega), decide_eq_false (by omega)]; decide), if_neg (by omega)]
  exact dec_enc (schOk hform) hnw (by omega) hid 16 t (Nat.le_refl _) ht0 (by rw [show (17 : Int) - ((16 : Nat) : Int) = 1 by decide]; exact hft)
end Go.Proofs.YtjcolfogmmjaoaaGreatDoor
end

section
set_option linter.unusedVariables false
set_option linter.unusedSimpArgs false
namespace Go.Proofs.YtjcolfogmmjaoaaGreatDoor.A
open V
open Go.ChangeShapes Go.RowKit
section
variable {H : Type} {enc : TypeId × Value → H} {P : Program}
theorem law_postW {s : ChangeSpec} {fn : Func} {f : FuncId} {b : TypeId} (tl : List TypeId) (hl : laidOutB P = true) (hp : fn.params.toList.all (fun t => P.readableRec t && decide (t < P.types.size)) = true)
    (hlay : layOk P tl = true) (hin : fn.params.toList.all tl.contains = true) (hb : fn.resultTypes = #[b]) (hub : P.underlying b = some .bool) (hvars : s.vars = [])
    (hfn : ∀ ds : List (DataW H), ds.length = fn.params.toList.length → (s.fn H ds).results = [.lit (.bool true)] ∧ (s.fn H ds).args = ds ∧ (s.fn H ds).vars = [])
    (W : World) (base : Nat) (args : Array Value) (ds gs : List (DataW H)) (before : List MemPlace) (hval : ∀ (j : Nat) t v, fn.params[j]? = some t → args[j]? = some v → Value.okWide P W .any base t v)
    (hW : DataW.Whole enc P fn.params.toList s.vars false W args.toList ds gs before)
    (hsz : (DataW.weightsEach P (fn.params.toList ++ s.plain.varTypes P) (ds ++ gs)).all (· ≤ reachBytes) = true) (hvt : s.plain.varTypes P = []) (walk : ArgsT P W fn.params.toList args.toList → Calls P f args W (LawR W)) :
    Calls P f args W fun e W' => ∃ v, e = .returned v ∧ s.post enc P fn false true false false W args v W' := by
  have hW' := hW
  obtain ⟨p, q, hA, hV, rfl, hfz, hnd⟩ := hW
  rw [hvars] at hV
  obtain ⟨rfl, rfl⟩ := trodVars_none hV
  obtain ⟨hargs, hn, hd⟩ := args_okT hlay hA hin (by simpa [hvt] using hsz) fun j t v hj hv => hval j t v (by simpa using hj) (by simpa using hv)
  refine (walk hargs).mono fun e W' ⟨he, hev⟩ => ?_
  subst he
  obtain ⟨r1, r2, r3⟩ := hfn (ds ++ []) (by simpa using hd)
  refine ⟨_, rfl, ds, [], p ++ [], [], p, [], hW', ?_, ?_, ?_, hev.below.frame _, fun h => by cases h⟩
  · rw [r1, hb]
    exact trodAll_mk1 (shut_bool hub _)
  · rw [r2]
    simpa using args_same hl hev.below hp hA (DataW.TrodAll.lt hA)
  · rw [hvars, r3]
    unfold DataW.TrodVars; rfl
end
end Go.Proofs.YtjcolfogmmjaoaaGreatDoor.A
namespace Go.Proofs.YtjcolfogmmjaoaaGreatDoor
open V A
open Go.Shelf
theorem u8_extra : U8Extra Tryz.prog u8Ren := ⟨by kernel_rfl, by kernel_rfl, by kernel_rfl, by kernel_rfl, by kernel_rfl, by kernel_rfl, by kernel_rfl⟩
theorem u8_tabs {w : World} {l : List (String × DataW Unit)} (h : laidMet Tryz.prog l w) (h3 : ("unicode/utf8.first", Go.Lib.firstData) ∈ l) (h4 : ("unicode/utf8.acceptRanges", Go.Lib.acceptData) ∈ l) : Lib.Utf8Tabs (u8g 3) (u8g 4) w :=
  utf8Tabs_of_readsT (U8Types.of196 u8Lay) u8_extra (Lib.laidMet.reads h h3) (Lib.laidMet.reads h h4)
theorem law_ofU {f : FuncId} {W : World} {args : Array Value} {xs : List AV} (ht : Lib.Utf8Tabs (u8g 3) (u8g 4) W) (spec : FSpec Tryz.prog f xs [u8C] fun a cs => a = .v (.bool true) 0 ∧ cs = [u8C]) (hr : Reps no W xs args.toList) : Calls Tryz.prog f args W (LawR W) := by
  have hh : HoldsL (or2 no no) W [u8C] no := ⟨no, no, fun b => ⟨.inl, fun h => h.elim id id⟩, fun _ h => h.elim, ⟨fun _ h => h, ht, fun h => h.elim id id, fun h => h.elim id id⟩, fun _ h => h⟩
  have := spec.out no no W args.toList (fun b h => h.elim) (fun b h => h.elim) hh (hr.of fun b _ h => h.elim id id)
  simp only [Array.toArray_toList] at this
  refine this.mono fun e w' ⟨v, a, cs, S', he, ha, hrep, _, hev, _⟩ => ?_
  rw [ha.1] at hrep
  rw [he, rep_v hrep]
  exact ⟨rfl, hev⟩
end Go.Proofs.YtjcolfogmmjaoaaGreatDoor
end

section
set_option linter.unusedVariables false
set_option linter.unusedSimpArgs false
set_option maxRecDepth 100000
set_option maxHeartbeats 2000000
namespace Go.Proofs.YtjcolfogmmjaoaaGreatDoor
open V A
theorem DecodeBack_spec {s : SchP} {t : Int} {x : ND} (hb : BdS s) (hx : BdN x) (hrg : RgN x) : FSpec Tryz.prog 12 [schA s, .v (kI t) 0, ndA x] [u8C] fun a cs => a = bA true ∧ cs = [u8C] := by
  have hA := awake11_spec
  have hF := Few_spec hb hx
  by_cases hs : SzS s ∧ 0 ≤ smallP x 0 400
  · have hok := ok_small x 0 400 (by decide) hs.2
    have hwt : wtV (theirsP x) ≤ 80000 := by have := wt_small x 0 400 hs.2; omega
    have hwf := wf_theirs x hrg hok (by omega)
    have hTh := Theirs_spec hok
    have hwn := norm_wt s (theirsP x)
    have hN := (Normal_spec hs.1 hwf (t := t)).les (.cons (Le.refl _) (.cons (Le.refl _) (.cons nd_of .nil)))
    have hE := (Encode_spec hs.1 hwf (by omega) (t := t)).les (.cons (Le.refl _) (.cons (Le.refl _) (.cons nd_of .nil)))
    have hdt := dec_top (s := s) (t := t) hwf (by omega)
    have hng : fitsTop s (theirsP x) t = true → NG (normP s (theirsP x)) := fun h => by
      obtain ⟨fs, u, e, _, _, _, hft⟩ := fits_msg (norm_top h)
      exact ng_fits (norm_wf s _ hwf) t 1 hft
    unfold normA at hN
    unfold encTop at hE
    generalize normP s (theirsP x) = w at hN hE hdt hng
    generalize theirsP x = v at hTh hN hE hdt hng
    obtain ⟨xk, xn, xu, xb, xs, xt, xf⟩ := x
    have hF : FSpec Tryz.prog 20 [schA s, ndA (.mk xk xn xu xb xs xt xf)] [] fun a cs => (∃ b, a = bA b) ∧ cs = [] := hF.mono fun a cs h => ⟨⟨_, h.1.choose_spec.1⟩, h.2⟩
    refine a_enter hT [schA s, .v (kI t) 0, ndA (.mk xk xn xu xb xs xt xf)] [60] Tryz.func12 rfl rfl rfl ⟨Fit.refl _, rfl, Fit.refl _, trivial⟩ fun c' => ?_
    refine a_box hT 61 rfl rfl rfl rfl fun g1 => ?_
    refine a_box hT 62 rfl rfl rfl rfl fun g2 => ?_
    refine a_freezeK 3 61 rfl rfl rfl rfl rfl ?_
    refine a_freezeK 5 62 rfl rfl rfl rfl rfl ?_
    refine a_call hT rfl rfl rfl (by kernel_rfl) hA [] [] rfl rfl ?_
    rintro _ _ ⟨rfl, rfl⟩
    refine a_gf hT rfl rfl rfl rfl ?_
    refine a_call hT rfl rfl rfl (by kernel_rfl) hF [] [] rfl rfl ?_
    rintro _ _ ⟨⟨b, rfl⟩, rfl⟩
    cases b with
    | false =>
      refine a_t hT rfl rfl rfl ?_
      refine a_call hT rfl rfl rfl (by kernel_rfl) hA [] [] rfl rfl ?_
      rintro _ _ ⟨rfl, rfl⟩
      refine a_ret hT [60] rfl rfl rfl rfl rfl rfl ?_
      first | exact ⟨rfl, rfl⟩ | rfl
    | true =>
      refine a_f hT rfl rfl rfl ?_
      cases hfo : fitsTop s v t with
      | false =>
        rw [hfo, if_neg (by decide)] at hE
        refine a_draw hT [60] false [(0, false), (1, false), (2, false), (3, true), (4, true), (5, true), (6, false), (7, false), (8, true), (9, true)] rfl rfl (by kernel_rfl) (by kernel_rfl) rfl ?_
        refine a_call hT rfl rfl rfl (by kernel_rfl) hTh [] [] rfl rfl ?_
        rintro _ _ ⟨rfl, rfl⟩
        refine a_call hT rfl rfl rfl (by kernel_rfl) hE [60] [60] rfl rfl ?_
        rintro _ _ ⟨rfl, rfl⟩
        refine a_t hT rfl rfl rfl ?_
        refine a_ret hT [60] rfl rfl rfl rfl rfl rfl ?_
        first | exact ⟨rfl, rfl⟩ | rfl
      | true =>
        rw [hfo, if_pos rfl] at hN hE
        by_cases hl : (encM s w).length > 4096
        · rw [if_pos hl] at hE
          refine a_draw hT [60] false [(0, false), (1, false), (2, false), (3, true), (4, true), (5, true), (6, false), (7, false), (8, true), (9, true)] rfl rfl (by kernel_rfl) (by kernel_rfl) rfl ?_
          refine a_call hT rfl rfl rfl (by kernel_rfl) hTh [] [] rfl rfl ?_
          rintro _ _ ⟨rfl, rfl⟩
          refine a_call hT rfl rfl rfl (by kernel_rfl) hE [60] [60] rfl rfl ?_
          rintro _ _ ⟨rfl, rfl⟩
          refine a_t hT rfl rfl rfl ?_
          refine a_ret hT [60] rfl rfl rfl rfl rfl rfl ?_
          first | exact ⟨rfl, rfl⟩ | rfl
        · rw [if_neg hl] at hE
          have hD := Decode_specG hs.1 (t := t) (bs := encM s w) (by omega)
          rw [hdt hfo (by omega)] at hD
          have hSm := (VSameG_spec (hng hfo)).les (.cons nd_of (.cons nd_of .nil))
          generalize encM s w = bs at hE hD
          refine a_draw hT [60] false [(0, false), (1, false), (2, false), (3, true), (4, true), (5, true), (6, false), (7, false), (8, true), (9, true)] rfl rfl (by kernel_rfl) (by kernel_rfl) rfl ?_
          refine a_call hT rfl rfl rfl (by kernel_rfl) hTh [] [] rfl rfl ?_
          rintro _ _ ⟨rfl, rfl⟩
          refine a_call hT rfl rfl rfl (by kernel_rfl) hE [60] [60] rfl rfl ?_
          rintro _ _ ⟨rfl, rfl⟩
          refine a_f hT rfl rfl rfl ?_
          refine a_draw hT [60] false [(0, false), (1, false), (2, false), (3, true), (4, true), (5, true), (6, false), (7, false), (8, true), (9, true)] rfl rfl (by kernel_rfl) (by kernel_rfl) rfl ?_
          refine a_call hT rfl rfl rfl (by kernel_rfl) hTh [] [] rfl rfl ?_
          rintro _ _ ⟨rfl, rfl⟩
          refine a_call hT rfl rfl rfl (by kernel_rfl) hN [60] [60] rfl rfl ?_
          rintro _ _ ⟨rfl, rfl⟩
          refine a_call hT rfl rfl rfl (by kernel_rfl) hD [60] [60] rfl rfl ?_
          rintro _ _ ⟨rfl, rfl⟩
          refine a_gt hT rfl rfl rfl rfl ?_
          refine a_gt hT rfl rfl rfl rfl ?_
          refine a_call hT rfl rfl rfl (by kernel_rfl) hSm [] [] rfl rfl ?_
          rintro _ _ ⟨rfl, rfl⟩
          refine a_ret hT [60] rfl rfl rfl rfl rfl rfl ?_
          first | exact ⟨rfl, rfl⟩ | rfl
  · obtain ⟨xk, xn, xu, xb, xs, xt, xf⟩ := x
    have hF : FSpec Tryz.prog 20 [schA s, ndA (.mk xk xn xu xb xs xt xf)] [] fun a cs => a = bA false ∧ cs = [] := hF.mono fun a cs h => by
      obtain ⟨⟨b, rfl, hb⟩, rfl⟩ := h
      cases b with
      | false => exact ⟨rfl, rfl⟩
      | true => exact absurd (hb rfl) hs
    refine a_enter hT [schA s, .v (kI t) 0, ndA (.mk xk xn xu xb xs xt xf)] [60] Tryz.func12 rfl rfl rfl ⟨Fit.refl _, rfl, Fit.refl _, trivial⟩ fun c' => ?_
    refine a_box hT 61 rfl rfl rfl rfl fun g => ?_
    refine a_box hT 62 rfl rfl rfl rfl fun g1 => ?_
    refine a_call hT rfl rfl rfl (by kernel_rfl) hA [] [] rfl rfl ?_
    rintro _ _ ⟨rfl, rfl⟩
    refine a_gf hT rfl rfl rfl rfl ?_
    refine a_call hT rfl rfl rfl (by kernel_rfl) hF [] [] rfl rfl ?_
    rintro _ _ ⟨rfl, rfl⟩
    refine a_t hT rfl rfl rfl ?_
    refine a_call hT rfl rfl rfl (by kernel_rfl) hA [] [] rfl rfl ?_
    rintro _ _ ⟨rfl, rfl⟩
    refine a_ret hT [60] rfl rfl rfl rfl rfl rfl ?_
    first | exact ⟨rfl, rfl⟩ | rfl
theorem decodeBack_row (W : World) (args : Array Value) (htab : Lib.Utf8Tabs (u8g 3) (u8g 4) W) (ha : ArgsT Tryz.prog W Tryz.f12.params.toList args.toList) : Calls Tryz.prog 12 args W (LawR W) := by
  obtain ⟨v1, r, e, h1, ha⟩ := argsT_cons ha
  obtain ⟨v2, r, rfl, h2, ha⟩ := argsT_cons ha
  obtain ⟨v3, r, rfl, h3, ha⟩ := argsT_cons ha
  obtain rfl := argsT_nil ha
  have e : args = #[v1, v2, v3] := Array.ext' e
  subst e
  obtain ⟨s, hr1, hs⟩ := argT_sch h1
  obtain ⟨t, rfl, _⟩ := argT_int Tryz.underlying3 (by kernel_rfl) h2
  obtain ⟨x, hr3, hx, hxr⟩ := argT_ndR h3
  exact law_ofU htab (DecodeBack_spec hs hx hxr) (Reps.cons hr1 (Reps.cons mk_v (Reps.cons hr3 Reps.nil)))
end Go.Proofs.YtjcolfogmmjaoaaGreatDoor
end
