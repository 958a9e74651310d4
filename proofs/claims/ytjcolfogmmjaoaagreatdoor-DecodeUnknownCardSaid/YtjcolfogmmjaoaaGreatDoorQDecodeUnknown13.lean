import Derived.Test.YtjcolfogmmjaoaaGreatDoorQDecodeUnknown6
import Derived.Lib.AppendStr
import Derived.Test.YtjcolfogmmjaoaaGreatDoorQDecodeUnknown12
import Derived.Test.YtjcolfogmmjaoaaGreatDoorQDecodeUnknown10
import Derived.Test.YtjcolfogmmjaoaaGreatDoorQDecodeUnknown7
import Derived.Test.YtjcolfogmmjaoaaGreatDoorQDecodeUnknown11
import Derived.Test.YtjcolfogmmjaoaaGreatDoorQDecodeUnknown9
import Derived.Lib.LaidU8T
section
set_option linter.unusedVariables false
set_option linter.unusedSimpArgs false
set_option maxRecDepth 100000
namespace Go.Proofs.YtjcolfogmmjaoaaGreatDoor.A
open V
theorem vrep_bytes {M : Nat → Prop} {w : World} : ∀ l : List UInt8, VRep M w (l.map fun b => .v (byV b)) (l.map byV)
  | [] => by simp; unfold VRep; rfl
  | b :: l => by
    simp only [List.map_cons]
    unfold VRep
    exact ⟨_, _, rfl, by unfold DRep; exact ⟨rfl, rfl⟩, vrep_bytes l⟩
theorem run_appS {P : Program} {w : World} {base : Nat} {t u ty e : TypeId} {i : TypeInfo} (ht : P.underlying t = some (.slice e)) (hu : P.underlying u = some .string) (hi : P.info? e = some i) (hz : i.zero = some (.int .u8 0)) (hsize : i.size = 1) (hby : i.bytes = 1)
    {v : Value} {n : Nat} {xs : List Value} (hown : w.ownsRow base e 1 v n xs) (s : ByteArray) (hl : n + s.size ≤ lim) (hbase : base ≤ w.heap.size) :
    ∃ v' w', (Builtin.append_ #[t, u] ty #[v, .string s]).run P w = .ok v' w' ∧ w'.ownsRow base e 1 v' (n + s.size) (xs ++ Lib.strCells s) ∧ Ev (V.ob v) w w' ∧ (∀ b, V.ob v' b → V.ob v b ∨ w.heap.size ≤ b) := by
  have hlim : lim = 4294967296 := rfl
  have h63 : n + s.size ≤ maxLen := by unfold maxLen; omega
  obtain ⟨v', w', hrun, h1, h2, _⟩ := Lib.run_append_own_string (P := P) w base t u ty e i ht hu hi hz hsize hby v n xs hown s h63 (by omega) hbase
  have hxl : xs.length = n := by simpa using hown.1
  refine ⟨v', w', hrun, h1, Ev.grown h2 fun k hk => hk, fun b hb => ?_⟩
  unfold V.ob at hb ⊢
  rcases hown.2 with ⟨rfl, rfl⟩ | ⟨g, cap, cur, rfl, hbg, hg, hnc, hcm, hcs, htake⟩
  · have hx : xs = [] := List.eq_nil_of_length_eq_zero hxl
    subst hx
    obtain ⟨v2, w2, hrun2, h3, _, _⟩ := Lib.run_append_own_string (P := P) w w.heap.size t u ty e i ht hu hi hz hsize hby (.slice none 0 0) 0 [] (World.ownsRow_nil w w.heap.size e 1) s h63 (by omega) (Nat.le_refl _)
    rw [hrun] at hrun2
    injection hrun2 with e1 e2
    subst e1 e2
    right
    rcases h3.2 with ⟨rfl, _⟩ | ⟨g, cap, cur, rfl, hbg, _⟩
    · cases hb
    · simp [Value.ownBlock] at hb
      omega
  · by_cases hroom : n + s.size ≤ cap
    · have hcs' : cur.size = cap := by simpa using hcs
      have hr := Lib.run_append_room_string (P := P) w t u ty e i ht hu hi hsize g n cap cur hg s hroom (by omega)
      rw [hrun] at hr
      injection hr with e1 e2
      subst e1
      exact .inl hb
    · have holds : ∀ j u, xs[j]? = some u → w.cell? ((⟨g, 0, none⟩ : Addr).add j) = some u := hown.cells (g := g) rfl
      have hr := Lib.run_append_grow_string (P := P) w t u ty e i (.int .u8 0) ht hu hi hz ⟨g, 0, none⟩ n cap xs (by rw [hsize]; simpa using hxl) holds s (by omega) (by omega) (by rw [hby]; exact growslice_fits (by omega) (by omega))
      rw [hrun] at hr
      injection hr with e1 e2
      subst e1
      simp [Value.ownBlock] at hb
      omega
section
variable {P : Program} {L : List TD} {Z : List (List Value)} {n : Nat} {Q : Exit → Act → World → Prop} {c : Ctx}
variable {s : AMS} {f f' : AEnv} {σ σ' : Store} {κ : List Kt} {all : Array Oper} {dec : List Nat} {rest : List (Oper × Bool)} {m : Mode} {o : Oper} {al : Bool} {ob : Obs}
def byteInfo (P : Program) (e : TypeId) : Bool := match P.info? e with
  | some i => i.size == 1 && i.bytes == 1 && (match i.zero with | some (.int .u8 0) => true | _ => false)
  | none => false
theorem byteInfo_spec {e : TypeId} (h : byteInfo P e = true) : ∃ i, P.info? e = some i ∧ i.zero = some (.int .u8 0) ∧ i.size = 1 ∧ i.bytes = 1 := by
  unfold byteInfo at h
  split at h
  · rename_i i hi
    rw [Bool.and_eq_true, Bool.and_eq_true] at h
    refine ⟨i, hi, ?_, by simpa using h.1.1, by simpa using h.1.2⟩
    have h2 := h.2
    split at h2
    · assumption
    · cases h2
  · cases h
theorem a_appS (hT : TOk P L) (kn : Nat) {t u e : TypeId} {k0 hh0 : Nat} {x y : Operand} {v v' : Value} {es : List (List Dat)} {b : ByteArray} (es' : List (List Dat)) (h : machA L n fuel s f σ [] = ⟨.op m κ all dec o true rest, f', σ', ob⟩) (hob : ob.map (·.1) = ob.map (·.2)) (ho : o.op = .call ⟨.builtin .append, #[x, y], #[t, u]⟩) (ht : tl L t = .sl e 1) (hu : tl L u = .str) (hel : byteInfo P e = true)
    (hx : evA n f' x = .row v k0) (hl : look σ' k0 = some (.row v' e 1 es)) (hvv : v = v') (hy : evN n f' y = .v (.string b) hh0) (hes : es ++ b.data.toList.map eB = es') (hlim : es.length + b.size ≤ lim)
    (hk : ∀ x, DenA c P n Q (.ops (m.hap true) κ all dec rest) (putA f' o.dst (.row x kn)) ((kn, .row x e 1 es') :: del σ' k0)) : DenA c P n Q s f σ := by
  subst hvv
  subst hes
  refine a_eff hT (fun a σ1 => ∃ x, a = .row x kn ∧ σ1 = (kn, .row x e 1 (es ++ b.data.toList.map eB)) :: del σ' k0) h hob (fun Y Su w fc hd hY hh he => ?_) (fun a σ1 ⟨g, ha, hs⟩ => by subst ha; subst hs; exact hk g)
  obtain ⟨S1, S2, hS, hdis, hc, hrest⟩ := hh.take hl
  obtain ⟨hS1, hkl, xs, hown, hv⟩ := hc
  have hxv := he.eval (n := n) x
  rw [hx] at hxv
  unfold Rep at hxv
  have hyv := he.evalN (n := n) y
  rw [hy] at hyv
  have hyv := rep_v hyv
  obtain ⟨i, hi, hz, hsz, hby⟩ := byteInfo_spec hel
  obtain ⟨v', w', hrun, h1, h2, h3⟩ := run_appS (P := P) (ty := o.type) (sl_tl hT ht).1 (str_tl hT hu) hi hz hsz hby hown b hlim (Nat.zero_le _)
  have hcells : Lib.strCells b = b.data.toList.map byV := rfl
  rw [hcells] at h1
  have hrun' : (execOp (ev n fc) o).run P w = .ok (.value v') w' := by
    unfold execOp
    simp only [ho, resolve, invoke, builtin, Sem.run_bind, Sem.run_pure, Result.andThen_ok, List.map_toArray, List.map_cons, List.map_nil, hxv.1, hyv, hrun]
  rw [hrun']
  have hev : Ev Su w w' := h2.mono fun b _ hb => (hS b).2 (.inl ((hS1 b).2 hb))
  have hsub : ∀ b, or2 (V.ob v') S2 b → Su b ∨ w.heap.size ≤ b := fun b h => by
    rcases h with h | h
    · exact (h3 b h).imp (fun h => (hS b).2 (.inl ((hS1 b).2 h))) id
    · exact .inl ((hS b).2 (.inr h))
  have hm : ∀ b, b < w.heap.size → V.ob v b ∨ or2 (or2 (V.ob v') S2) Y b → or2 Su Y b := fun b hb h => by
    rcases h with h | h | h
    · exact .inl ((hS b).2 (.inl ((hS1 b).2 h)))
    · rcases hsub b h with h | h
      · exact .inl h
      · omega
    · exact .inr h
  have hbl : (b.data.toList.map eB).length = b.size := by rw [List.length_map]; rfl
  refine ⟨_, _, or2 (V.ob v') S2, ⟨v', rfl, rfl⟩, ?_, ⟨V.ob v', S2, fun b => Iff.rfl, fun b hb h => ?_, ⟨fun b => Iff.rfl, ?_, _, by rw [List.length_append, hbl]; exact h1, ?_⟩, hrest.ev h2 hm fun b hb h => hdis b ((hS1 b).2 h) hb⟩, hev, hsub⟩
  · unfold Rep
    refine ⟨rfl, ?_⟩
    rcases h1.2 with ⟨rfl, _⟩ | ⟨g, cap, cur, rfl, _⟩ <;> rfl
  · rcases h3 b hb with h' | h'
    · exact hdis b ((hS1 b).2 h') h
    · have := hrest.lt b h; omega
  · intro e' he'
    rcases List.mem_append.1 he' with he' | he'
    · exact hkl e' he'
    · obtain ⟨q, _, rfl⟩ := List.mem_map.1 he'
      rfl
  · rw [List.flatten_append, flat_eB]
    exact (hv.app (vrep_bytes _)).ev h2 hm
end
end Go.Proofs.YtjcolfogmmjaoaaGreatDoor.A
end

section
set_option linter.unusedVariables false
set_option linter.unusedSimpArgs false
set_option maxRecDepth 100000
set_option maxHeartbeats 2000000
namespace Go.Proofs.YtjcolfogmmjaoaaGreatDoor
open V A
theorem encFs_app (s : SchP) (d : MDP) : ∀ (a b : List VF), encFs s d (a ++ b) = encFs s d a ++ encFs s d b
  | [], b => by conv => rhs; arg 1; unfold encFs
                rfl
  | f :: a, b => by rw [List.cons_append, encFs_cons, encFs_cons, encFs_app s d a b, List.append_assoc]
theorem encVs_app (s : SchP) (f : FDP) : ∀ (a b : List VL), encVs s f (a ++ b) = encVs s f a ++ encVs s f b
  | [], b => by conv => rhs; arg 1; unfold encVs
                rfl
  | v :: a, b => by rw [List.cons_append, encVs_cons, encVs_cons, encVs_app s f a b, List.append_assoc]
theorem packVs_app (s : SchP) (f : FDP) : ∀ (a b : List VL), packVs s f (a ++ b) = packVs s f a ++ packVs s f b
  | [], b => by conv => rhs; arg 1; unfold packVs
                rfl
  | v :: a, b => by rw [List.cons_append, packVs_cons, packVs_cons, packVs_app s f a b, List.append_assoc]
theorem encFs_nil (s : SchP) (d : MDP) : encFs s d [] = [] := by unfold encFs; rfl
theorem encVs_nil (s : SchP) (f : FDP) : encVs s f [] = [] := by unfold encVs; rfl
theorem packVs_nil (s : SchP) (f : FDP) : packVs s f [] = [] := by unfold packVs; rfl
theorem wtFs_app : ∀ (a b : List VF), wtFs (a ++ b) = wtFs a + wtFs b
  | [], b => by conv => rhs; arg 1; unfold wtFs
                simp
  | f :: a, b => by rw [List.cons_append, wtFs_cons, wtFs_cons, wtFs_app a b, Nat.add_assoc]
theorem wtVs_app : ∀ (a b : List VL), wtVs (a ++ b) = wtVs a + wtVs b
  | [], b => by conv => rhs; arg 1; unfold wtVs
                simp
  | v :: a, b => by rw [List.cons_append, wtVs_cons, wtVs_cons, wtVs_app a b, Nat.add_assoc]
theorem wtFs_take (fs : List VF) (i : Nat) : wtFs (fs.take i) ≤ wtFs fs := by
  have := wtFs_app (fs.take i) (fs.drop i)
  rw [List.take_append_drop] at this
  omega
theorem wtVs_take (vs : List VL) (i : Nat) : wtVs (vs.take i) ≤ wtVs vs := by
  have := wtVs_app (vs.take i) (vs.drop i)
  rw [List.take_append_drop] at this
  omega
def addC (g : Nat) (v : Value) (l : List UInt8) : List Chunk := [.blk g 27 [.row v 31], .row v 5 1 (l.map eB)]
theorem add_spec {x : FW} {g : Nat} {v : Value} {l : List UInt8} (hd : x.data.length ≤ 800000) (hn : x.n < 18446744073709551616) (hl : l.length ≤ 3000000) : FSpec Tryz.prog 87 [fwA x, .v (.pointer (some ⟨g, 0, none⟩)) 30] (addC g v l) fun a cs => ∃ v', a = .tup [] ∧ cs = addC g v' (l ++ appW x) := by
  have hA := (wireAppend_spec hd hn).les (.cons (le_nil (h := 0)) (.cons (Le.refl _) .nil))
  have hal := appW_len x
  refine a_enter hT [fwA x, .v (.pointer (some ⟨g, 0, none⟩)) 30] [30, 31] Tryz.func87 rfl rfl rfl ⟨Fit.refl _, Fit.refl _, trivial⟩ fun c' => ?_
  refine a_box hT 32 rfl rfl rfl rfl fun g1 => ?_
  refine a_call hT rfl rfl rfl (by kernel_rfl) hA [] [] rfl rfl ?_
  rintro _ _ ⟨rfl, rfl⟩
  refine a_app hT 31 _ rfl rfl rfl rfl (by kernel_rfl) rfl rfl rfl rfl rfl rfl (by first | (simp; done) | (simp; omega) | (simp; unfold lim; omega) | (simp; assumption)) fun v1 => ?_
  refine a_end hT [30, 31] rfl rfl rfl rfl rfl rfl ?_
  exact ⟨v1, rfl, by unfold addC; rw [List.map_append]⟩
def EncS (s : SchP) : VL → Prop
  | .msg ty fs u => ∀ dep : Int, 0 ≤ ty → fitsP s (.msg ty fs u) ty dep = true → wtV (.msg ty fs u) ≤ 700000 → FSpec Tryz.prog 43 [schA s, msgA ty fs u] [] fun a cs => a = .d (A.bytesD (encM s (.msg ty fs u))) ∧ cs = []
  | .none | .int _ | .uint _ | .bool _ | .text _ | .bytes _ | .enum _ => True
theorem message_ind {s : SchP} (hs : SchOk s) : ∀ {v : VL}, WfV v → EncS s v := by
  intro v hv
  induction hv with
  | msg h1 h2 h3 h4 h5 ih =>
    rename_i ty fs unk
    intro dep ht0 hfit hwt
    unfold fitsP at hfit
    rw [Bool.and_eq_true, Bool.and_eq_true] at hfit
    obtain ⟨_, hf⟩ := hfit
    cases hm : s.ms[ty.toNat]? with
    | none => rw [hm] at hf; cases hf
    | some d =>
    rw [hm] at hf
    dsimp only at hf
    rw [Bool.and_eq_true] at hf
    have hf := hf.2
    have hdm : d ∈ s.ms := List.mem_of_getElem? hm
    have hd : dAt s ty = d := by unfold dAt; rw [hm]; rfl
    have hfo := hs.fs d hdm
    rw [encM_msg, hd]
    rw [wtV_msg] at hwt
    have hat0 : (s.ms.map eM)[ty.toNat]? = some (eM d) := by rw [List.getElem?_map, hm]; rfl
    have hlen : (vfsD fs).length = fs.length := vfsD_len fs
    refine FSpec.freeze (hh := 31) (e := 5) (k := 1) ?_
    refine a_enter hT [schA s, msgA ty fs unk] [] Tryz.func43 rfl rfl rfl ⟨Fit.refl _, Fit.refl _, trivial⟩ fun c' => ?_
    refine a_box hT 20 rfl rfl rfl rfl fun g1 => ?_
    refine a_box hT 21 rfl rfl rfl rfl fun g2 => ?_
    refine a_freezeK 2 20 rfl rfl rfl rfl rfl ?_
    refine a_freezeK 3 21 rfl rfl rfl rfl rfl ?_
    refine a_new hT hZ 30 rfl rfl rfl rfl fun g => ?_
    refine a_nilrowB 30 0 31 5 1 rfl rfl rfl ?_
    refine a_loop hT [2, 3, 5, 6, 18, 19, 20] (fun x : Nat × Value => [.d (.p (schD s)), .d (.p (msgD ty fs unk)), .v (.pointer (some ⟨g, 0, none⟩)) 30, .fn 87 [.v (.pointer (some ⟨g, 0, none⟩)) 30], .d (.sl 2 (vfsD fs)), .v (kI fs.length) 0, .v (kI x.1) 0]) (fun x => [(30, .blk g 27 [.row x.2 31]), (31, .row x.2 5 1 ((encFs s d (fs.take x.1)).map eB))]) (fun x => x.1 ≤ fs.length) (fun x => fs.length - x.1) (0, .slice none 0 0) [30, 31] rfl rfl (Nat.zero_le _) ⟨rfl, rfl, rfl, Fit.refl _, rfl, by rw [← hlen]; rfl, rfl, trivial⟩ rfl ⟨⟨rfl, rfl, rfl, trivial⟩, ⟨rfl, rfl, rfl, by rw [List.take_zero, encFs_nil]; rfl⟩, trivial⟩ ?_
    rintro ⟨i, w⟩ i2
    dsimp only at i2
    have hw := wN i (by omega)
    have hel := encFs_len s d (fs.take i)
    have hwl := wtFs_take fs i
    rcases Nat.lt_or_ge i fs.length with hil | hil
    · have hat : (vfsD fs)[(i : Int).toNat]? = some (vfD fs[i]) := by rw [vfsD_map, Int.toNat_natCast, List.getElem?_map, List.getElem?_eq_getElem hil]; rfl
      have hmem := List.getElem_mem hil
      have htk : fs.take (i + 1) = fs.take i ++ [fs[i]] := List.take_succ_eq_append_getElem hil
      generalize fs[i] = x at hat hmem htk
      obtain ⟨num, vs⟩ := x
      have hnum := h3 num vs hmem
      have hvl := h2 num vs hmem
      obtain ⟨_, f, hff, hne, hrl, hfv⟩ := fitsFs_mem hf num vs hmem
      have hFi := Find_spec (d := d) (num := num) hfo hnum
      rw [hff] at hFi
      have hlv : (vlsD vs).length = vs.length := by rw [vlsD_map, List.length_map]
      have hwm := wtFs_mem hmem
      rw [wtF_mk] at hwm
      have hfn := hfo.rng f (findF_num hff).2
      have hat2 : fAt d num = f := by unfold fAt; rw [hff]; rfl
      have henc : encFs s d (fs.take (i + 1)) = encFs s d (fs.take i) ++ (if f.rep && packedK f.kind then appW ⟨f.num.toNat, 2, 0, packVs s f vs⟩ else encVs s f vs) := by
        rw [htk, encFs_app, encFs_cons, encF_mk, hat2, encFs_nil, List.append_nil]
      refine a_t hT rfl rfl (decide_eq_true (by show (i : Int) < (fs.length : Int); omega)) ?_
      refine a_ix hT _ rfl rfl rfl rfl rfl rfl (by omega) hat ?_
      refine a_new hT hZ 41 rfl rfl rfl rfl fun g4 => ?_
      refine a_run hT 1 rfl rfl ?_
      refine a_freezeK 8 41 rfl rfl rfl rfl rfl ?_
      refine a_treeN hT [2, 3, 5, 6, 8, 9, 18, 19, 20] (fun h : Nat => [.d (.p (schD s)), .d (.p (msgD ty fs unk)), .v (.pointer (some ⟨g, 0, none⟩)) 30, .fn 87 [.v (.pointer (some ⟨g, 0, none⟩)) 30], .d (.p (vfD (.mk num vs))), .v (.pointer (some ⟨h, 0, none⟩)) 42, .d (.sl 2 (vfsD fs)), .v (kI fs.length) 0, .v (kI i) 0]) (fun h => [(30, .blk g 27 [.row w 31]), (31, .row w 5 1 ((encFs s d (fs.take i)).map eB)), (42, .blk h 68 ((eF f).map nd))]) (fun _ => True) [] 15 [(0, false), (2, false), (6, false), (1, false), (3, false), (7, false), (4, false), (5, false)] rfl rfl (by kernel_rfl) (by kernel_rfl) rfl ?_ ?_
      · refine a_ix hT _ rfl rfl rfl rfl rfl rfl (by first | omega | assumption) (by first | assumption | rfl) ?_
        refine a_alt hT [([(8, true), (9, false), (10, false), (11, false), (12, true), (13, true), (14, true)], true), ([(12, true), (8, true), (9, true), (10, false), (11, false), (13, true), (14, true)], true)] rfl rfl (by kernel_rfl) ⟨?_, ?_, trivial⟩
        · refine a_call hT rfl rfl rfl (by kernel_rfl) hFi [] [] rfl rfl ?_
          rintro _ _ ⟨rfl, rfl⟩
          refine a_new hT hZ 32 rfl rfl rfl rfl fun g3 => ?_
          exact a_next hT g3 [30, 31, 32] rfl rfl trivial ⟨rfl, rfl, rfl, Fit.refl _, rfl, rfl, rfl, rfl, rfl, trivial⟩ rfl ⟨⟨rfl, rfl, rfl, trivial⟩, ⟨rfl, rfl, rfl, rfl⟩, ⟨rfl, rfl, rfl, rfl, rfl, rfl, rfl, trivial⟩, trivial⟩
        · refine a_new hT hZ 32 rfl rfl rfl rfl fun g3 => ?_
          refine a_call hT rfl rfl rfl (by kernel_rfl) hFi [] [] rfl rfl ?_
          rintro _ _ ⟨rfl, rfl⟩
          exact a_next hT g3 [30, 31, 32] rfl rfl trivial ⟨rfl, rfl, rfl, Fit.refl _, rfl, rfl, rfl, rfl, rfl, trivial⟩ rfl ⟨⟨rfl, rfl, rfl, trivial⟩, ⟨rfl, rfl, rfl, rfl⟩, ⟨rfl, rfl, rfl, rfl, rfl, rfl, rfl, trivial⟩, trivial⟩
      rintro g5 _
      refine a_freezeK 9 42 rfl rfl rfl rfl rfl ?_
      have hPk := Packed_spec (k := f.kind)
      obtain ⟨fnum, fname, fkind, frep, fty⟩ := f
      dsimp only at hPk henc hfn
      cases frep with
      | false =>
        refine a_gt hT rfl rfl rfl rfl ?_
        refine a_t hT rfl rfl rfl ?_
        refine a_loop hT [2, 3, 5, 6, 8, 9, 18, 19, 20, 46, 47, 48] (fun x : Nat × Value => [.d (.p (schD s)), .d (.p (msgD ty fs unk)), .v (.pointer (some ⟨g, 0, none⟩)) 30, .fn 87 [.v (.pointer (some ⟨g, 0, none⟩)) 30], .d (.p (vfD (.mk num vs))), .d (.p (eF ⟨fnum, fname, fkind, false, fty⟩)), .d (.sl 2 (vfsD fs)), .v (kI fs.length) 0, .v (kI i) 0, .d (.sl 1 (vlsD vs)), .v (kI vs.length) 0, .v (kI x.1) 0]) (fun x => [(30, .blk g 27 [.row x.2 31]), (31, .row x.2 5 1 ((encFs s d (fs.take i) ++ encVs s ⟨fnum, fname, fkind, false, fty⟩ (vs.take x.1)).map eB))]) (fun x => x.1 ≤ vs.length) (fun x => vs.length - x.1) (0, w) [30, 31] rfl rfl (Nat.zero_le _) ⟨rfl, rfl, rfl, Fit.refl _, rfl, rfl, rfl, rfl, rfl, rfl, by rw [← hlv]; rfl, rfl, trivial⟩ rfl ⟨⟨rfl, rfl, rfl, trivial⟩, ⟨rfl, rfl, rfl, by rw [List.take_zero, encVs_nil, List.append_nil]⟩, trivial⟩ ?_
        rintro ⟨j, w1⟩ j2
        dsimp only at j2
        have hwj := wN j (by omega)
        have hvl2 := encVs_len s ⟨fnum, fname, fkind, false, fty⟩ (vs.take j)
        have hwt2 := wtVs_take vs j
        rcases Nat.lt_or_ge j vs.length with hjl | hjl
        · have hatj : (vlsD vs)[(j : Int).toNat]? = some [vlD vs[j]] := by rw [vlsD_map, Int.toNat_natCast, List.getElem?_map, List.getElem?_eq_getElem hjl]; rfl
          have hmv := List.getElem_mem hjl
          have htj : vs.take (j + 1) = vs.take j ++ [vs[j]] := List.take_succ_eq_append_getElem hjl
          have hone := fitsVs_mem hfv _ hmv
          have hih := ih num vs _ hmem hmv
          have hwv := h5 num vs _ hmem hmv
          have hwtv := wtVs_mem hmv
          generalize vs[j] = v at hatj hmv htj hone hih hwv hwtv
          have hE : encVs s ⟨fnum, fname, fkind, false, fty⟩ (vs.take (j + 1)) = encVs s ⟨fnum, fname, fkind, false, fty⟩ (vs.take j) ++ appW (mkW ⟨fnum, fname, fkind, false, fty⟩ v (encM s v)) := by rw [htj, encVs_app, encVs_cons, encVs_nil, List.append_nil]
          have hM : ∀ ty fs u, v = .msg ty fs u → FSpec Tryz.prog 43 [schA s, msgA ty fs u] [] fun a cs => a = .d (A.bytesD (encM s v)) ∧ cs = [] := by
            rintro ty2 fs2 u2 rfl
            rw [show ∀ r, oneK ⟨fnum, fname, fkind, false, fty⟩ r (.msg ty2 fs2 u2) = (decide (fkind = 10) && r) from fun _ => rfl, Bool.and_eq_true] at hone
            have hk10 := of_decide_eq_true hone.1
            have hty := hs.ty d hdm _ (findF_num hff).2 hk10
            dsimp only at hty
            have hfv2 := hone.2
            have hte : ty2 = fty := by
              unfold fitsP at hfv2
              rw [Bool.and_eq_true, Bool.and_eq_true] at hfv2
              exact of_decide_eq_true hfv2.1.1
            subst hte
            exact hih (dep + 1) hty.1 hfv2 (by omega)
          have hFl := field_spec (s := s) (f := ⟨fnum, fname, fkind, false, fty⟩) (m := encM s v) (by show 0 ≤ fnum; omega) hwv hM
          have hlen2 := encM_len s v
          have hAd := add_spec (x := mkW ⟨fnum, fname, fkind, false, fty⟩ v (encM s v)) (g := g) (v := w1) (l := encFs s d (fs.take i) ++ encVs s ⟨fnum, fname, fkind, false, fty⟩ (vs.take j)) (by show (dataW (encM s v) v).length ≤ _; omega) (numW_lt hwv) (by rw [List.length_append]; omega)
          refine a_t hT rfl rfl (decide_eq_true (by show (j : Int) < (vs.length : Int); omega)) ?_
          refine a_ix hT _ rfl rfl rfl rfl rfl rfl (by omega) hatj ?_
          refine a_call hT rfl rfl rfl (by kernel_rfl) hFl [] [] rfl rfl ?_
          rintro _ _ ⟨rfl, rfl⟩
          refine a_callv hT rfl rfl rfl rfl (by kernel_rfl) hAd [30, 31] [30, 31] rfl rfl ?_
          rintro _ _ ⟨w2, rfl, rfl⟩
          exact a_next hT (j + 1, w2) [30, 31] rfl rfl ⟨by show j + 1 ≤ vs.length; omega, by show vs.length - (j + 1) < vs.length - j; omega⟩ ⟨rfl, rfl, rfl, Fit.refl _, rfl, rfl, rfl, rfl, rfl, rfl, rfl, by show Value.int .i64 _ = Value.int .i64 _; rw [hwj], trivial⟩ rfl ⟨⟨rfl, rfl, rfl, trivial⟩, ⟨rfl, rfl, rfl, by show _ = (encFs s d (fs.take i) ++ encVs s ⟨fnum, fname, fkind, false, fty⟩ (vs.take (j + 1))).map eB; rw [hE, List.append_assoc]⟩, trivial⟩
        · refine a_f hT rfl rfl (decide_eq_false (by show ¬ (j : Int) < (vs.length : Int); omega)) ?_
          have hj : j = vs.length := by omega
          subst hj
          exact a_next hT (i + 1, w1) [30, 31] rfl rfl ⟨by show i + 1 ≤ fs.length; omega, by show fs.length - (i + 1) < fs.length - i; omega⟩ ⟨rfl, rfl, rfl, Fit.refl _, rfl, rfl, by show Value.int .i64 _ = Value.int .i64 _; rw [hw], trivial⟩ rfl ⟨⟨rfl, rfl, rfl, trivial⟩, ⟨rfl, rfl, rfl, by show (encFs s d (fs.take i) ++ encVs s ⟨fnum, fname, fkind, false, fty⟩ (vs.take vs.length)).map eB = (encFs s d (fs.take (i + 1))).map eB; rw [henc, List.take_length, if_neg (by simp)]⟩, trivial⟩
      | true =>
        cases hpk : packedK fkind with
        | false =>
          rw [hpk] at hPk
          refine a_gf hT rfl rfl rfl rfl ?_
          refine a_call hT rfl rfl rfl (by kernel_rfl) hPk [] [] rfl rfl ?_
          rintro _ _ ⟨rfl, rfl⟩
          refine a_t hT rfl rfl rfl ?_
          refine a_loop hT [2, 3, 5, 6, 8, 9, 18, 19, 20, 46, 47, 48] (fun x : Nat × Value => [.d (.p (schD s)), .d (.p (msgD ty fs unk)), .v (.pointer (some ⟨g, 0, none⟩)) 30, .fn 87 [.v (.pointer (some ⟨g, 0, none⟩)) 30], .d (.p (vfD (.mk num vs))), .d (.p (eF ⟨fnum, fname, fkind, true, fty⟩)), .d (.sl 2 (vfsD fs)), .v (kI fs.length) 0, .v (kI i) 0, .d (.sl 1 (vlsD vs)), .v (kI vs.length) 0, .v (kI x.1) 0]) (fun x => [(30, .blk g 27 [.row x.2 31]), (31, .row x.2 5 1 ((encFs s d (fs.take i) ++ encVs s ⟨fnum, fname, fkind, true, fty⟩ (vs.take x.1)).map eB))]) (fun x => x.1 ≤ vs.length) (fun x => vs.length - x.1) (0, w) [30, 31] rfl rfl (Nat.zero_le _) ⟨rfl, rfl, rfl, Fit.refl _, rfl, rfl, rfl, rfl, rfl, rfl, by rw [← hlv]; rfl, rfl, trivial⟩ rfl ⟨⟨rfl, rfl, rfl, trivial⟩, ⟨rfl, rfl, rfl, by rw [List.take_zero, encVs_nil, List.append_nil]⟩, trivial⟩ ?_
          rintro ⟨j, w1⟩ j2
          dsimp only at j2
          have hwj := wN j (by omega)
          have hvl2 := encVs_len s ⟨fnum, fname, fkind, true, fty⟩ (vs.take j)
          have hwt2 := wtVs_take vs j
          rcases Nat.lt_or_ge j vs.length with hjl | hjl
          · have hatj : (vlsD vs)[(j : Int).toNat]? = some [vlD vs[j]] := by rw [vlsD_map, Int.toNat_natCast, List.getElem?_map, List.getElem?_eq_getElem hjl]; rfl
            have hmv := List.getElem_mem hjl
            have htj : vs.take (j + 1) = vs.take j ++ [vs[j]] := List.take_succ_eq_append_getElem hjl
            have hone := fitsVs_mem hfv _ hmv
            have hih := ih num vs _ hmem hmv
            have hwv := h5 num vs _ hmem hmv
            have hwtv := wtVs_mem hmv
            generalize vs[j] = v at hatj hmv htj hone hih hwv hwtv
            have hE : encVs s ⟨fnum, fname, fkind, true, fty⟩ (vs.take (j + 1)) = encVs s ⟨fnum, fname, fkind, true, fty⟩ (vs.take j) ++ appW (mkW ⟨fnum, fname, fkind, true, fty⟩ v (encM s v)) := by rw [htj, encVs_app, encVs_cons, encVs_nil, List.append_nil]
            have hM : ∀ ty fs u, v = .msg ty fs u → FSpec Tryz.prog 43 [schA s, msgA ty fs u] [] fun a cs => a = .d (A.bytesD (encM s v)) ∧ cs = [] := by
              rintro ty2 fs2 u2 rfl
              rw [show ∀ r, oneK ⟨fnum, fname, fkind, true, fty⟩ r (.msg ty2 fs2 u2) = (decide (fkind = 10) && r) from fun _ => rfl, Bool.and_eq_true] at hone
              have hk10 := of_decide_eq_true hone.1
              have hty := hs.ty d hdm _ (findF_num hff).2 hk10
              dsimp only at hty
              have hfv2 := hone.2
              have hte : ty2 = fty := by
                unfold fitsP at hfv2
                rw [Bool.and_eq_true, Bool.and_eq_true] at hfv2
                exact of_decide_eq_true hfv2.1.1
              subst hte
              exact hih (dep + 1) hty.1 hfv2 (by omega)
            have hFl := field_spec (s := s) (f := ⟨fnum, fname, fkind, true, fty⟩) (m := encM s v) (by show 0 ≤ fnum; omega) hwv hM
            have hlen2 := encM_len s v
            have hAd := add_spec (x := mkW ⟨fnum, fname, fkind, true, fty⟩ v (encM s v)) (g := g) (v := w1) (l := encFs s d (fs.take i) ++ encVs s ⟨fnum, fname, fkind, true, fty⟩ (vs.take j)) (by show (dataW (encM s v) v).length ≤ _; omega) (numW_lt hwv) (by rw [List.length_append]; omega)
            refine a_t hT rfl rfl (decide_eq_true (by show (j : Int) < (vs.length : Int); omega)) ?_
            refine a_ix hT _ rfl rfl rfl rfl rfl rfl (by omega) hatj ?_
            refine a_call hT rfl rfl rfl (by kernel_rfl) hFl [] [] rfl rfl ?_
            rintro _ _ ⟨rfl, rfl⟩
            refine a_callv hT rfl rfl rfl rfl (by kernel_rfl) hAd [30, 31] [30, 31] rfl rfl ?_
            rintro _ _ ⟨w2, rfl, rfl⟩
            exact a_next hT (j + 1, w2) [30, 31] rfl rfl ⟨by show j + 1 ≤ vs.length; omega, by show vs.length - (j + 1) < vs.length - j; omega⟩ ⟨rfl, rfl, rfl, Fit.refl _, rfl, rfl, rfl, rfl, rfl, rfl, rfl, by show Value.int .i64 _ = Value.int .i64 _; rw [hwj], trivial⟩ rfl ⟨⟨rfl, rfl, rfl, trivial⟩, ⟨rfl, rfl, rfl, by show _ = (encFs s d (fs.take i) ++ encVs s ⟨fnum, fname, fkind, true, fty⟩ (vs.take (j + 1))).map eB; rw [hE, List.append_assoc]⟩, trivial⟩
          · refine a_f hT rfl rfl (decide_eq_false (by show ¬ (j : Int) < (vs.length : Int); omega)) ?_
            have hj : j = vs.length := by omega
            subst hj
            exact a_next hT (i + 1, w1) [30, 31] rfl rfl ⟨by show i + 1 ≤ fs.length; omega, by show fs.length - (i + 1) < fs.length - i; omega⟩ ⟨rfl, rfl, rfl, Fit.refl _, rfl, rfl, by show Value.int .i64 _ = Value.int .i64 _; rw [hw], trivial⟩ rfl ⟨⟨rfl, rfl, rfl, trivial⟩, ⟨rfl, rfl, rfl, by show (encFs s d (fs.take i) ++ encVs s ⟨fnum, fname, fkind, true, fty⟩ (vs.take vs.length)).map eB = (encFs s d (fs.take (i + 1))).map eB; rw [henc, List.take_length, if_neg (by simp [hpk])]⟩, trivial⟩
        | true =>
          rw [hpk] at hPk
          refine a_gf hT rfl rfl rfl rfl ?_
          refine a_call hT rfl rfl rfl (by kernel_rfl) hPk [] [] rfl rfl ?_
          rintro _ _ ⟨rfl, rfl⟩
          refine a_f hT rfl rfl rfl ?_
          first
            | (refine a_run hT 5 rfl rfl ?_; refine a_asL 13 (b := .d (A.bytesD [])) rfl (le_nil (h := 0)) ?_)
            | (refine a_run hT 6 rfl rfl ?_; refine a_asL 13 (b := .d (A.bytesD [])) rfl (le_nil (h := 0)) ?_)
            | (refine a_run hT 7 rfl rfl ?_; refine a_asL 13 (b := .d (A.bytesD [])) rfl (le_nil (h := 0)) ?_)
            | (refine a_run hT 8 rfl rfl ?_; refine a_asL 13 (b := .d (A.bytesD [])) rfl (le_nil (h := 0)) ?_)
            | (refine a_run hT 9 rfl rfl ?_; refine a_asL 13 (b := .d (A.bytesD [])) rfl (le_nil (h := 0)) ?_)
            | (refine a_run hT 10 rfl rfl ?_; refine a_asL 13 (b := .d (A.bytesD [])) rfl (le_nil (h := 0)) ?_)
            | (refine a_run hT 11 rfl rfl ?_; refine a_asL 13 (b := .d (A.bytesD [])) rfl (le_nil (h := 0)) ?_)
            | (refine a_run hT 12 rfl rfl ?_; refine a_asL 13 (b := .d (A.bytesD [])) rfl (le_nil (h := 0)) ?_)
            | (refine a_run hT 13 rfl rfl ?_; refine a_asL 13 (b := .d (A.bytesD [])) rfl (le_nil (h := 0)) ?_)
            | (refine a_run hT 14 rfl rfl ?_; refine a_asL 13 (b := .d (A.bytesD [])) rfl (le_nil (h := 0)) ?_)
            | (refine a_run hT 15 rfl rfl ?_; refine a_asL 13 (b := .d (A.bytesD [])) rfl (le_nil (h := 0)) ?_)
          refine a_loop hT [2, 3, 5, 6, 8, 9, 13, 18, 19, 20, 60, 61, 62] (fun j : Nat × Unit => [.d (.p (schD s)), .d (.p (msgD ty fs unk)), .v (.pointer (some ⟨g, 0, none⟩)) 30, .fn 87 [.v (.pointer (some ⟨g, 0, none⟩)) 30], .d (.p (vfD (.mk num vs))), .d (.p (eF ⟨fnum, fname, fkind, true, fty⟩)), .d (A.bytesD (packVs s ⟨fnum, fname, fkind, true, fty⟩ (vs.take j.1))), .d (.sl 2 (vfsD fs)), .v (kI fs.length) 0, .v (kI i) 0, .d (.sl 1 (vlsD vs)), .v (kI vs.length) 0, .v (kI j.1) 0]) (fun _ => [(30, .blk g 27 [.row w 31]), (31, .row w 5 1 ((encFs s d (fs.take i)).map eB))]) (fun j => j.1 ≤ vs.length) (fun j => vs.length - j.1) (0, ()) [30, 31] rfl rfl (Nat.zero_le _) ⟨rfl, rfl, rfl, Fit.refl _, rfl, rfl, by rw [List.take_zero, packVs_nil]; exact Fit.refl _, rfl, rfl, rfl, rfl, by rw [← hlv]; rfl, rfl, trivial⟩ rfl ⟨⟨rfl, rfl, rfl, trivial⟩, ⟨rfl, rfl, rfl, rfl⟩, trivial⟩ ?_
          rintro ⟨j, w1⟩ j2
          dsimp only at j2
          have hwj := wN j (by omega)
          have hvl2 := packVs_len s ⟨fnum, fname, fkind, true, fty⟩ (vs.take j)
          have hwt2 := wtVs_take vs j
          rcases Nat.lt_or_ge j vs.length with hjl | hjl
          · have hatj : (vlsD vs)[(j : Int).toNat]? = some [vlD vs[j]] := by rw [vlsD_map, Int.toNat_natCast, List.getElem?_map, List.getElem?_eq_getElem hjl]; rfl
            have hmv := List.getElem_mem hjl
            have htj : vs.take (j + 1) = vs.take j ++ [vs[j]] := List.take_succ_eq_append_getElem hjl
            have hone := fitsVs_mem hfv _ hmv
            have hih := ih num vs _ hmem hmv
            have hwv := h5 num vs _ hmem hmv
            have hwtv := wtVs_mem hmv
            generalize vs[j] = v at hatj hmv htj hone hih hwv hwtv
            have hE : packVs s ⟨fnum, fname, fkind, true, fty⟩ (vs.take (j + 1)) = packVs s ⟨fnum, fname, fkind, true, fty⟩ (vs.take j) ++ packW (mkW ⟨fnum, fname, fkind, true, fty⟩ v (encM s v)) := by rw [htj, packVs_app, packVs_cons, packVs_nil, List.append_nil]
            have hM : ∀ ty fs u, v = .msg ty fs u → FSpec Tryz.prog 43 [schA s, msgA ty fs u] [] fun a cs => a = .d (A.bytesD (encM s v)) ∧ cs = [] := by
              rintro ty2 fs2 u2 rfl
              rw [show ∀ r, oneK ⟨fnum, fname, fkind, true, fty⟩ r (.msg ty2 fs2 u2) = (decide (fkind = 10) && r) from fun _ => rfl, Bool.and_eq_true] at hone
              have hk10 := of_decide_eq_true hone.1
              have hty := hs.ty d hdm _ (findF_num hff).2 hk10
              dsimp only at hty
              have hfv2 := hone.2
              have hte : ty2 = fty := by
                unfold fitsP at hfv2
                rw [Bool.and_eq_true, Bool.and_eq_true] at hfv2
                exact of_decide_eq_true hfv2.1.1
              subst hte
              exact hih (dep + 1) hty.1 hfv2 (by omega)
            have hFl := field_spec (s := s) (f := ⟨fnum, fname, fkind, true, fty⟩) (m := encM s v) (by show 0 ≤ fnum; omega) hwv hM
            have hlen2 := encM_len s v
            have hPa := pack_spec (l := packVs s ⟨fnum, fname, fkind, true, fty⟩ (vs.take j)) (x := mkW ⟨fnum, fname, fkind, true, fty⟩ v (encM s v)) (by omega) (numW_lt hwv)
            rw [← hE] at hPa
            refine a_t hT rfl rfl (decide_eq_true (by show (j : Int) < (vs.length : Int); omega)) ?_
            refine a_ix hT _ rfl rfl rfl rfl rfl rfl (by omega) hatj ?_
            refine a_call hT rfl rfl rfl (by kernel_rfl) hFl [] [] rfl rfl ?_
            rintro _ _ ⟨rfl, rfl⟩
            refine a_call hT rfl rfl rfl (by kernel_rfl) hPa [] [] rfl rfl ?_
            rintro _ _ ⟨rfl, rfl⟩
            exact a_next hT (j + 1, ()) [30, 31] rfl rfl ⟨by show j + 1 ≤ vs.length; omega, by show vs.length - (j + 1) < vs.length - j; omega⟩ ⟨rfl, rfl, rfl, Fit.refl _, rfl, rfl, Fit.refl _, rfl, rfl, rfl, rfl, rfl, by show Value.int .i64 _ = Value.int .i64 _; rw [hwj], trivial⟩ rfl ⟨⟨rfl, rfl, rfl, trivial⟩, ⟨rfl, rfl, rfl, rfl⟩, trivial⟩
          · refine a_f hT rfl rfl (decide_eq_false (by show ¬ (j : Int) < (vs.length : Int); omega)) ?_
            have hj : j = vs.length := by omega
            subst hj
            dsimp only
            rw [List.take_length] at hvl2 ⊢
            have hAd := add_spec (x := ⟨fnum.toNat, 2, 0, packVs s ⟨fnum, fname, fkind, true, fty⟩ vs⟩) (g := g) (v := w) (l := encFs s d (fs.take i)) (by dsimp only; omega) (by dsimp only; omega) (by omega)
            have hfw : fwA ⟨fnum.toNat, 2, 0, packVs s ⟨fnum, fname, fkind, true, fty⟩ vs⟩ = .agg [.v (kI fnum) 0, .v (kI 2) 0, .v (kU 0) 0, .d (A.bytesD (packVs s ⟨fnum, fname, fkind, true, fty⟩ vs))] := by
              unfold fwA
              dsimp only
              rw [Int.toNat_of_nonneg (by omega)]
              rfl
            rw [hfw] at hAd
            refine a_build hT hZ [.v (kI fnum) 0, .v (kI 2) 0, .v (kU 0) 0, .d (A.bytesD (packVs s ⟨fnum, fname, fkind, true, fty⟩ vs))] rfl rfl rfl rfl rfl rfl ?_
            refine a_callv hT rfl rfl rfl rfl (by kernel_rfl) hAd [30, 31] [30, 31] rfl rfl ?_
            rintro _ _ ⟨w2, rfl, rfl⟩
            exact a_next hT (i + 1, w2) [30, 31] rfl rfl ⟨by show i + 1 ≤ fs.length; omega, by show fs.length - (i + 1) < fs.length - i; omega⟩ ⟨rfl, rfl, rfl, Fit.refl _, rfl, rfl, by show Value.int .i64 _ = Value.int .i64 _; rw [hw], trivial⟩ rfl ⟨⟨rfl, rfl, rfl, trivial⟩, ⟨rfl, rfl, rfl, by show _ = (encFs s d (fs.take (i + 1))).map eB; rw [henc, if_pos (by simp [hpk])]⟩, trivial⟩
    · refine a_f hT rfl rfl (decide_eq_false (by show ¬ (i : Int) < (fs.length : Int); omega)) ?_
      have hi : i = fs.length := by omega
      subst hi
      rw [List.take_length] at hel ⊢
      have hus : unk.data.toList.length = unk.size := rfl
      refine a_appS hT 31 _ rfl rfl rfl rfl rfl (by kernel_rfl) rfl rfl rfl rfl rfl (by rw [List.length_map]; unfold lim; omega) fun v1 => ?_
      refine a_ret hT [31] rfl rfl rfl rfl rfl rfl ?_
      exact ⟨v1, rfl, by rw [List.map_append]⟩
  | _ => exact trivial
end Go.Proofs.YtjcolfogmmjaoaaGreatDoor
end

section
set_option linter.unusedVariables false
set_option linter.unusedSimpArgs false
set_option maxRecDepth 100000
set_option maxHeartbeats 2000000
namespace Go.Proofs.YtjcolfogmmjaoaaGreatDoor
open V A
def encA (r : List UInt8 × Int) : AV := .tup [.d (A.bytesD r.1), .v (kI r.2) 0]
theorem fits_msg {s : SchP} {v : VL} {t : Int} (h : fitsTop s v t = true) : ∃ fs u, v = .msg t fs u ∧ formedP s = true ∧ 0 ≤ t ∧ t < s.ms.length ∧ fitsP s v t 1 = true := by
  unfold fitsTop at h
  rw [Bool.and_eq_true, Bool.and_eq_true, Bool.and_eq_true] at h
  obtain ⟨f1, f2, f3, f4⟩ := h
  cases v with
  | msg ty fs u =>
    have hte : ty = t := by
      have f5 := f4
      unfold fitsP at f5
      rw [Bool.and_eq_true, Bool.and_eq_true] at f5
      exact of_decide_eq_true f5.1.1
    subst hte
    exact ⟨fs, u, rfl, f1, of_decide_eq_true f2, of_decide_eq_true f3, f4⟩
  | _ => exact absurd f4 (by unfold fitsP; simp)
theorem Encode_spec {s : SchP} (hz : SzS s) {v : VL} (hv : WfV v) (hw : wtV v ≤ 700000) {t : Int} : FSpec Tryz.prog 23 [schA s, .v (kI t) 0, nd (vlD v)] [u8C] fun a cs => a = encA (encTop s v t) ∧ cs = [u8C] := by
  refine FSpec.le ?_
  have hN := Normal_spec hz hv (t := t)
  unfold encTop
  unfold normA at hN
  refine a_enter hT [schA s, .v (kI t) 0, nd (vlD v)] [60] Tryz.func23 rfl rfl rfl ⟨Fit.refl _, rfl, Fit.refl _, trivial⟩ fun c' => ?_
  cases hfo : fitsTop s v t with
  | false =>
    rw [hfo] at hN
    rw [if_neg (by decide)] at hN ⊢
    refine a_box hT 61 rfl rfl rfl rfl fun g => ?_
    refine a_call hT rfl rfl rfl (by kernel_rfl) hN [60] [60] rfl rfl ?_
    rintro _ _ ⟨rfl, rfl⟩
    refine a_t hT rfl rfl rfl ?_
    refine a_ret hT [60] rfl rfl rfl rfl rfl rfl ?_
    exact ⟨_, Le.tup (.cons le_nil (.cons (Le.refl _) .nil)), rfl, rfl⟩
  | true =>
    rw [hfo] at hN
    rw [if_pos rfl] at hN ⊢
    have hnf := norm_top hfo
    have hnw := norm_wf s v hv
    have hnt := norm_wt s v
    generalize normP s v = w at hN hnf hnw hnt
    obtain ⟨fs, u, rfl, hform, ht0, _, hft⟩ := fits_msg hnf
    have hMu := Must_spec (ty := t) (fs := fs) (u := u)
    have hMe := message_ind (schOk hform) hnw 1 ht0 hft (by omega)
    have hel : (encM s (.msg t fs u)).length + 60 ≤ wtV (.msg t fs u) := encM_len s (.msg t fs u)
    have hbl := bytesD_len (encM s (.msg t fs u))
    generalize encM s (.msg t fs u) = bs at hMe hel hbl
    refine a_box hT 61 rfl rfl rfl rfl fun g => ?_
    refine a_call hT rfl rfl rfl (by kernel_rfl) hN [60] [60] rfl rfl ?_
    rintro _ _ ⟨rfl, rfl⟩
    refine a_f hT rfl rfl rfl ?_
    refine a_draw hT [60] false [(0, false), (1, false), (2, true), (3, true), (4, true)] rfl rfl (by kernel_rfl) (by kernel_rfl) rfl ?_
    refine a_call hT rfl rfl rfl (by kernel_rfl) hMu [] [] rfl rfl ?_
    rintro _ _ ⟨rfl, rfl⟩
    refine a_call hT rfl rfl rfl (by kernel_rfl) hMe [] [] rfl rfl ?_
    rintro _ _ ⟨rfl, rfl⟩
    refine a_if hT rfl rfl (fun h => ?_) (fun h => ?_)
    · have h := of_decide_eq_true h
      refine a_ret hT [60] rfl rfl rfl rfl rfl rfl ?_
      rw [if_pos (by rw [hbl] at h; omega)]
      exact ⟨_, Le.tup (.cons le_nil (.cons (Le.refl _) .nil)), rfl, rfl⟩
    · have h := of_decide_eq_false h
      refine a_ret hT [60] rfl rfl rfl rfl rfl rfl ?_
      rw [if_neg (by rw [hbl] at h; omega)]
      exact ⟨_, Le.refl _, rfl, rfl⟩
end Go.Proofs.YtjcolfogmmjaoaaGreatDoor
end

section
set_option linter.unusedVariables false
set_option linter.unusedSimpArgs false
set_option maxRecDepth 100000
set_option maxHeartbeats 1000000
namespace Go.Proofs.YtjcolfogmmjaoaaGreatDoor
open V A
theorem bdLeaf {k n u : Int} {b : Bool} {s : ByteArray} (h : s.size ≤ reachN) : BdN (.mk k n u b s 0 []) := .mk h (Nat.zero_le _) (fun _ _ h => by simp at h) (fun _ _ _ h => by simp at h)
theorem Same_refl_spec {z : ND} (hz : BdN z) : FSpec Tryz.prog 17 [ndA z, ndA z] [] fun a cs => a = bA true ∧ cs = [] := by
  have := Same_spec hz (y := z)
  rw [sameN_refl] at this
  exact this
end Go.Proofs.YtjcolfogmmjaoaaGreatDoor
end

section
set_option linter.unusedVariables false
set_option linter.unusedSimpArgs false
set_option maxRecDepth 100000
set_option maxHeartbeats 1000000
namespace Go.Proofs.YtjcolfogmmjaoaaGreatDoor
open V A
section
variable {P : Program} {g : Nat} {t : TypeId} {ds : List A.Dat}
theorem sh_int {k : IntKind} (hu : P.underlying t = some (.int k)) (h : ShT P g t ds) : ∃ m, ds = [.v (.int k m)] ∧ (Lit.int k m).wf = true := by
  cases g with
  | zero => unfold ShT at h; exact h.elim
  | succ g => unfold ShT at h; simpa only [hu] using h
theorem sh_sl {e : TypeId} (hu : P.underlying t = some (.slice e)) (h : ShT P g t ds) : ∃ g', g' < g ∧ ∃ xs : List (List A.Dat), ds = [.sl (P.cellsOf e) xs] ∧ xs.length ≤ reachBytes ∧ ∀ x ∈ xs, ShT P g' e x := by
  cases g with
  | zero => unfold ShT at h; exact h.elim
  | succ g => unfold ShT at h; exact ⟨g, Nat.lt_succ_self g, by simpa only [hu] using h⟩
theorem sh_st {fs : Array Field} (hu : P.underlying t = some (.struct fs)) (h : ShT P g t ds) : ∃ g', g' < g ∧ ShF P (ShT P g') fs.toList ds := by
  cases g with
  | zero => unfold ShT at h; exact h.elim
  | succ g => unfold ShT at h; exact ⟨g, Nat.lt_succ_self g, by simpa only [hu] using h⟩
end
theorem rb : reachBytes = reachN := by decide
theorem argT_one {w : World} {d : A.Dat} {v : Value} (h2 : A.VRep no w [d] v.cells.toList) (hf : ∀ cs, v ≠ .agg cs) : A.DRep no w d v := by
  have hc : v.cells = #[v] := by cases v <;> first | rfl | exact absurd rfl (hf _)
  rw [hc] at h2
  unfold A.VRep at h2
  obtain ⟨x, r, e, hd, hr⟩ := h2
  simp at e
  obtain ⟨rfl, _⟩ := e
  exact hd
theorem argT_int {w : World} {t : TypeId} {k : IntKind} {v : Value} (hu : Tryz.prog.underlying t = some (.int k)) (hs : isStruct Tryz.prog t = false) (h : ArgT Tryz.prog w t v) : ∃ m, v = .int k m ∧ (Lit.int k m).wf = true := by
  obtain ⟨⟨g, ds, h1, h2⟩, h3⟩ := h
  obtain ⟨m, rfl, hm⟩ := sh_int hu h1
  have := argT_one h2 (h3.2 hs)
  unfold A.DRep at this
  exact ⟨m, this.1, hm⟩
end Go.Proofs.YtjcolfogmmjaoaaGreatDoor
end

section
set_option linter.unusedVariables false
set_option linter.unusedSimpArgs false
set_option maxRecDepth 100000
set_option maxHeartbeats 1000000
namespace Go.Proofs.YtjcolfogmmjaoaaGreatDoor
open V A
theorem wf_i64 {m : Int} (h : (Lit.int .i64 m).wf = true) : I64 m := by
  simp [Lit.wf, IntKind.min, IntKind.max, IntKind.bits, IntKind.signed] at h
  unfold I64; omega
theorem listQ {α : Type} {e : α → List A.Dat} {Q : α → Prop} : ∀ {xs : List (List A.Dat)}, (∀ x ∈ xs, ∃ y, x = e y ∧ Q y) → ∃ ys : List α, xs = ys.map e ∧ ∀ y ∈ ys, Q y
  | [], _ => ⟨[], rfl, by simp⟩
  | x :: xs, h => by
    obtain ⟨y, e1, hy⟩ := h x (by simp)
    obtain ⟨ys, e2, hys⟩ := listQ (xs := xs) fun x hx => h x (by simp [hx])
    refine ⟨y :: ys, by rw [e1, e2]; rfl, fun z hz => ?_⟩
    rcases List.mem_cons.1 hz with rfl | hz
    · exact hy
    · exact hys z hz
end Go.Proofs.YtjcolfogmmjaoaaGreatDoor
end

section
set_option linter.unusedVariables false
set_option linter.unusedSimpArgs false
set_option maxRecDepth 100000
set_option maxHeartbeats 1000000
namespace Go.Proofs.YtjcolfogmmjaoaaGreatDoor
open V A
def fX : FDP := ⟨1, mkS [120], 1, false, 0⟩
def mX : MDP := ⟨mkS [65], [fX]⟩
def sX : List MDP := [mX]
theorem plain_sX : Plain0 ⟨sX, [], []⟩ := ⟨rfl, rfl, by decide, by decide, by decide, by decide, by decide⟩
theorem formed_sX : formedS sX = true := by kernel_rfl
theorem flat_mX : FlatM mX := ⟨by decide, by decide, by decide, by decide⟩
def vX : VL := .msg 0 [.mk 1 [.int 2]] (mkS [])
theorem msg_X : msgP mX ((0 : Nat) : Int) [8, 1, 8, 2] = some vX := by rfl
theorem okV_X : OkV vX := .msg (by decide) (fun num vs h => by simp at h; obtain ⟨rfl, rfl⟩ := h; decide) (fun num vs x h hx => by simp at h; obtain ⟨rfl, rfl⟩ := h; simp at hx; subst hx; exact .int 2)
def zX : ND := .mk 7 0 0 false .empty 0 [.mk 1 [.mk 1 2 0 false .empty 0 []]]
theorem ours_X : oursP vX = zX := by rfl
theorem bd_zX : BdN zX := .mk (by decide) (by decide) (fun num vs h => by simp at h; obtain ⟨rfl, rfl⟩ := h; decide) (fun num vs x h hx => by simp at h; obtain ⟨rfl, rfl⟩ := h; simp at hx; subst hx; exact bdLeaf (by decide))
theorem awake11_spec : FSpec Tryz.prog 13 [] [] fun a cs => a = bA true ∧ cs = [] := by
  have hD := Decode_spec (d := mX) (t := 0) (bs := [8, 1, 8, 2]) plain_sX formed_sX rfl flat_mX (by decide)
  rw [msg_X] at hD
  have hO := (Ours_spec okV_X).ofNd
  rw [ours_X] at hO
  have hSm := Same_refl_spec bd_zX
  refine a_enter hT [] [] Tryz.func13 rfl rfl rfl trivial fun c' => ?_
  refine a_build hT hZ [.v (kI 1) 0, .v (.string (mkS [120])) 0, .v (kI 1) 0, .v (.bool false) 0, .v (kI 0) 0] rfl rfl rfl rfl rfl rfl ?_
  refine a_lit hT 20 rfl rfl rfl rfl (by kernel_rfl) rfl rfl rfl rfl fun x20 => ?_
  refine a_freeze 5 20 rfl rfl rfl rfl ?_
  refine a_build hT hZ [.v (.string (mkS [65])) 0, .d (.sl 5 [eF fX])] rfl rfl rfl rfl rfl rfl ?_
  refine a_lit hT 21 rfl rfl rfl rfl (by kernel_rfl) rfl rfl rfl rfl fun x21 => ?_
  refine a_freeze 7 21 rfl rfl rfl rfl ?_
  refine a_build hT hZ [.d (.sl 2 [eM mX]), .v (.slice none 0 0) 0, .v (.slice none 0 0) 0] rfl rfl rfl rfl rfl rfl ?_
  refine a_new hT hZ 22 rfl rfl rfl rfl fun g => ?_
  refine a_run hT 1 rfl rfl ?_
  refine a_cellL 22 1 (b := .d (.sl 2 [])) rfl rfl rfl le_nil ?_
  refine a_cellL 22 2 (b := .d (.sl 5 [])) rfl rfl rfl le_nil ?_
  refine a_lit hT 23 rfl rfl rfl rfl (by kernel_rfl) rfl rfl rfl rfl fun x23 => ?_
  refine a_mark hT rfl rfl rfl rfl rfl rfl rfl rfl (fun h => by cases h) ?_
  refine a_call hT rfl rfl rfl (by kernel_rfl) hD [] [] rfl rfl ?_
  rintro _ _ ⟨rfl, rfl⟩
  refine a_gt hT rfl rfl rfl rfl ?_
  refine a_call hT rfl rfl rfl (by kernel_rfl) hO [] [] rfl rfl ?_
  rintro _ _ ⟨rfl, rfl⟩
  refine a_build hT hZ [.v (Value.int IntKind.i64 1) 0, .v (Value.int IntKind.i64 2) 0, .v (Value.int IntKind.u64 0) 0, .v (Value.bool false) 0, .v (Value.string ByteArray.empty) 0, .v (Value.int IntKind.i64 0) 0, .v (Value.slice none 0 0) 0] rfl rfl rfl rfl rfl rfl ?_
  refine a_lit hT 23 rfl rfl rfl rfl (by kernel_rfl) rfl rfl rfl rfl fun x23 => ?_
  refine a_freeze 22 23 rfl rfl rfl rfl ?_
  refine a_build hT hZ [.v (kI 1) 0, .d (.sl 7 [[.v (kI 1), .v (kI 2), .v (kU 0), .v (.bool false), .v (.string .empty), .v (kI 0), .v (.slice none 0 0)]])] rfl rfl rfl rfl rfl rfl ?_
  refine a_lit hT 24 rfl rfl rfl rfl (by kernel_rfl) rfl rfl rfl rfl fun x24 => ?_
  refine a_freeze 24 24 rfl rfl rfl rfl ?_
  refine a_build hT hZ [.v (kI 7) 0, .v (kI 0) 0, .v (kU 0) 0, .v (.bool false) 0, .v (.string .empty) 0, .v (kI 0) 0, .d (.sl 2 [[.v (kI 1), .sl 7 [[.v (kI 1), .v (kI 2), .v (kU 0), .v (.bool false), .v (.string .empty), .v (kI 0), .v (.slice none 0 0)]]]])] rfl rfl rfl rfl rfl rfl ?_
  refine a_asL 25 (b := ndA zX) rfl (Le.agg (.cons (Le.refl _) (.cons (Le.refl _) (.cons (Le.refl _) (.cons (Le.refl _) (.cons (Le.refl _) (.cons (Le.refl _) (.cons (DLe.le (DLe.sl (.cons (.cons (DLe.refl _) (.cons (DLe.sl (.cons (.cons (DLe.refl _) (.cons (DLe.refl _) (.cons (DLe.refl _) (.cons (DLe.refl _) (.cons (DLe.refl _) (.cons (DLe.refl _) (.cons (DLe.nil 2) .nil))))))) .nil)) .nil)) .nil))) .nil)))))))) ?_
  refine a_call hT rfl rfl rfl (by kernel_rfl) hSm [] [] rfl rfl ?_
  rintro _ _ ⟨rfl, rfl⟩
  refine a_ret hT [] rfl rfl rfl rfl rfl rfl ?_
  first | exact ⟨rfl, rfl⟩ | rfl
end Go.Proofs.YtjcolfogmmjaoaaGreatDoor
end

section
set_option linter.unusedVariables false
set_option linter.unusedSimpArgs false
set_option maxRecDepth 100000
set_option maxHeartbeats 2000000
namespace Go.Proofs.YtjcolfogmmjaoaaGreatDoor
open V A
theorem sz_sX : SzS ⟨sX, [], []⟩ := ⟨by decide, by decide, by decide, by decide, by decide, by decide, by decide, by decide, by decide, by decide⟩
end Go.Proofs.YtjcolfogmmjaoaaGreatDoor
end

section
set_option linter.unusedVariables false
set_option linter.unusedSimpArgs false
set_option maxRecDepth 100000
set_option maxHeartbeats 2000000
namespace Go.Proofs.YtjcolfogmmjaoaaGreatDoor
open V A
theorem Decode_specG {s : SchP} (hz : SzS s) {t : Int} {bs : List UInt8} (hl : bs.length ≤ 1000000000) : FSpec Tryz.prog 15 [schA s, .v (kI t) 0, .d (A.bytesD bs)] [u8C] fun a cs => a = decE (decTop s t bs) ∧ cs = [u8C] := by
  have hF := Formed_spec hz
  have hlm : (s.ms.map eM).length = s.ms.length := List.length_map _
  have hbl := bytesD_len bs
  unfold decTop
  refine a_enter hT [schA s, .v (kI t) 0, .d (A.bytesD bs)] [60] Tryz.func15 rfl rfl rfl ⟨Fit.refl _, rfl, Fit.refl _, trivial⟩ fun c' => ?_
  refine a_box hT 61 rfl rfl rfl rfl fun g => ?_
  refine a_call hT rfl rfl rfl (by kernel_rfl) hF [] [] rfl rfl ?_
  rintro _ _ ⟨rfl, rfl⟩
  cases hfo : formedP s with
  | false =>
    refine a_gt hT rfl rfl rfl rfl ?_
    refine a_gt hT rfl rfl rfl rfl ?_
    refine a_t hT rfl rfl rfl ?_
    refine a_ret hT [60] rfl rfl rfl rfl rfl rfl ?_
    exact ⟨rfl, rfl⟩
  | true =>
    refine a_gf hT rfl rfl rfl rfl ?_
    refine a_g hT rfl rfl rfl (fun h => ?_) (fun h => ?_)
    · have h : t < 0 := of_decide_eq_true h
      rw [if_pos (by rw [decide_eq_true h]; rfl)]
      refine a_t hT rfl rfl rfl ?_
      refine a_ret hT [60] rfl rfl rfl rfl rfl rfl ?_
      exact ⟨rfl, rfl⟩
    · have h : ¬ t < 0 := of_decide_eq_false h
      refine a_if hT rfl rfl (fun h1 => ?_) (fun h1 => ?_)
      · have h1 : t ≥ ((s.ms.map eM).length : Int) := of_decide_eq_true h1
        rw [hlm] at h1
        rw [if_pos (by rw [decide_eq_false h, decide_eq_true h1]; rfl)]
        refine a_ret hT [60] rfl rfl rfl rfl rfl rfl ?_
        exact ⟨rfl, rfl⟩
      · have h1 : ¬ t ≥ ((s.ms.map eM).length : Int) := of_decide_eq_false h1
        rw [hlm] at h1
        rw [if_neg (by rw [decide_eq_false h, decide_eq_false h1]; decide)]
        refine a_if hT rfl rfl (fun h2 => ?_) (fun h2 => ?_)
        · have h2 : ((bs.map eB).length : Int) > 4096 := of_decide_eq_true h2
          rw [if_pos (by omega)]
          refine a_ret hT [60] rfl rfl rfl rfl rfl rfl ?_
          exact ⟨rfl, rfl⟩
        · have h2 : ¬ ((bs.map eB).length : Int) > 4096 := of_decide_eq_false h2
          rw [if_neg (by omega)]
          obtain ⟨k, rfl⟩ : ∃ k : Nat, t = (k : Int) := ⟨t.toNat, by omega⟩
          have hM := dmsgG_spec (schOk hfo) 16 (Nat.le_refl _) (t := k) (bs := bs) (by omega) (by omega)
          rw [show (17 : Int) - ((16 : Nat) : Int) = 1 by decide] at hM
          generalize decM s 16 k bs = M at hM
          refine a_call hT rfl rfl rfl (by kernel_rfl) hM [60] [60] rfl rfl ?_
          rintro _ _ ⟨rfl, rfl⟩
          cases M with
          | error e =>
            refine a_ret hT [60] rfl rfl rfl rfl rfl rfl ?_
            exact ⟨rfl, rfl⟩
          | ok v =>
            refine a_ret hT [60] rfl rfl rfl rfl rfl rfl ?_
            exact ⟨rfl, rfl⟩
end Go.Proofs.YtjcolfogmmjaoaaGreatDoor
end

section
set_option linter.unusedVariables false
set_option linter.unusedSimpArgs false
set_option maxRecDepth 100000
set_option maxHeartbeats 1000000
namespace Go.Proofs.YtjcolfogmmjaoaaGreatDoor
open V A
def loN (n : Nat) : Nat → List UInt8
  | 0 => []
  | i + 1 => loN n i ++ [UInt8.ofNat (n / 256 ^ i)]
theorem loN_len (n : Nat) : ∀ i, (loN n i).length = i
  | 0 => rfl
  | i + 1 => by unfold loN; rw [List.length_append, loN_len n i]; rfl
theorem loN_4 (n : Nat) : loN n 4 = le32 n := by
  show [] ++ [UInt8.ofNat (n / 256 ^ 0)] ++ [UInt8.ofNat (n / 256 ^ 1)] ++ [UInt8.ofNat (n / 256 ^ 2)] ++ [UInt8.ofNat (n / 256 ^ 3)] = _
  rw [show n / 256 ^ 0 = n by simp]
  rfl
theorem loN_8 (n : Nat) : loN n 8 = le64 n := by
  show loN n 4 ++ [UInt8.ofNat (n / 256 ^ 4)] ++ [UInt8.ofNat (n / 256 ^ 5)] ++ [UInt8.ofNat (n / 256 ^ 6)] ++ [UInt8.ofNat (n / 256 ^ 7)] = _
  rw [loN_4]
  unfold le64
  rw [List.append_assoc, List.append_assoc, List.append_assoc]
  congr 1
  unfold le32
  rw [Nat.div_div_eq_div_mul, Nat.div_div_eq_div_mul, Nat.div_div_eq_div_mul]
  rfl
theorem shrE {n i : Nat} (hn : n < 18446744073709551616) (hi : i < 8) : IntKind.u8.wrap (Int.fdiv (n : Int) (2 ^ min (Int.toNat (IntKind.u64.wrap (IntKind.i64.wrap (8 * (i : Int))))) (IntKind.bits IntKind.u64))) = ((UInt8.ofNat (n / 256 ^ i)).toNat : Int) := by
  rw [w64 (by omega) (by omega), show (8 : Int) * i = ((8 * i : Nat) : Int) by omega, wrapN64 (by omega), Int.toNat_natCast]
  rw [show min (8 * i) (IntKind.bits IntKind.u64) = 8 * i from Nat.min_eq_left (by show 8 * i ≤ 64; omega)]
  rw [show (2 : Int) ^ (8 * i) = ((256 ^ i : Nat) : Int) by rw [show (256 : Nat) ^ i = 2 ^ (8 * i) by rw [Nat.pow_mul]]; push_cast; rfl]
  rw [Int.fdiv_eq_ediv_of_nonneg _ (Int.natCast_nonneg _), ← Int.natCast_ediv, UInt8.toNat_ofNat']
  generalize n / 256 ^ i = m
  unfold IntKind.wrap
  simp [IntKind.bits, IntKind.signed]
theorem RLow_spec {n m : Nat} (hn : n < 18446744073709551616) (hm : m ≤ 8) : FSpec Tryz.prog 53 [.v (kU n) 0, .v (kI m) 0] [] fun a cs => a = .d (A.bytesD (loN n m)) ∧ cs = [] := by
  have key : FSpec Tryz.prog 53 [.v (kU n) 0, .v (kI m) 0] [] fun a cs => ∃ v, a = .row v 1 ∧ cs = [.row v 5 1 ((loN n m).map eB)] := by
    refine a_enter hT [.v (kU n) 0, .v (kI m) 0] [] Tryz.func53 rfl rfl rfl ⟨rfl, rfl, trivial⟩ fun c' => ?_
    first
      | (refine a_run hT 1 rfl rfl ?_; refine a_nilrow 5 1 5 1 rfl rfl ?_)
      | (refine a_run hT 2 rfl rfl ?_; refine a_nilrow 5 1 5 1 rfl rfl ?_)
      | (refine a_run hT 3 rfl rfl ?_; refine a_nilrow 5 1 5 1 rfl rfl ?_)
      | (refine a_run hT 4 rfl rfl ?_; refine a_nilrow 5 1 5 1 rfl rfl ?_)
      | (refine a_run hT 5 rfl rfl ?_; refine a_nilrow 5 1 5 1 rfl rfl ?_)
      | (refine a_run hT 6 rfl rfl ?_; refine a_nilrow 5 1 5 1 rfl rfl ?_)
      | (refine a_run hT 7 rfl rfl ?_; refine a_nilrow 5 1 5 1 rfl rfl ?_)
      | (refine a_run hT 8 rfl rfl ?_; refine a_nilrow 5 1 5 1 rfl rfl ?_)
    refine a_loop hT [0, 5, 7, 8] (fun x : Nat × Value => [.v (kU n) 0, .row x.2 1, .v (kI m) 0, .v (kI x.1) 0]) (fun x => [(1, .row x.2 5 1 ((loN n x.1).map eB))]) (fun x => x.1 ≤ m) (fun x => m - x.1) (0, .slice none 0 0) [1] rfl rfl (Nat.zero_le _) ⟨rfl, rfl, rfl, rfl, trivial⟩ rfl ⟨⟨rfl, rfl, rfl, rfl⟩, trivial⟩ ?_
    rintro ⟨i, v⟩ hi
    dsimp only at hi
    have hw := wN i (by omega)
    have hll := loN_len n i
    rcases Nat.lt_or_ge i m with hil | hil
    · have h80 : 0 ≤ IntKind.u64.wrap (IntKind.i64.wrap (8 * (i : Int))) := by rw [w64 (by omega) (by omega), show (8 : Int) * i = ((8 * i : Nat) : Int) by omega, wrapN64 (by omega)]; omega
      have hsh := shrE (i := i) hn (by omega)
      refine a_t hT rfl rfl (decide_eq_true (by show (i : Int) < (m : Int); omega)) ?_
      refine a_bin hT _ rfl rfl rfl (by decide) rfl rfl (fun w => (bin_shr (by omega) w)) ?_
      refine a_lit hT 20 rfl rfl rfl rfl (by kernel_rfl) rfl rfl rfl rfl fun x20 => ?_
      refine a_app hT 1 _ rfl rfl rfl rfl (by kernel_rfl) rfl rfl rfl rfl rfl rfl (by first | (simp; done) | (simp; omega) | (simp; unfold lim; omega) | (simp; assumption)) fun v1 => ?_
      exact a_next hT (i + 1, v1) [1] rfl rfl ⟨by show i + 1 ≤ m; omega, by show m - (i + 1) < m - i; omega⟩ ⟨rfl, rfl, rfl, by show Value.int .i64 _ = Value.int .i64 _; rw [hw], trivial⟩ rfl ⟨⟨rfl, rfl, rfl, by show List.map eB (loN n i) ++ [[A.Dat.v (.int .u8 _)]] = (loN n i ++ [_]).map eB; rw [List.map_append]; exact congrArg (fun z => List.map eB (loN n i) ++ [[A.Dat.v (.int .u8 z)]]) hsh⟩, trivial⟩
    · refine a_f hT rfl rfl (decide_eq_false (by show ¬ (i : Int) < (m : Int); omega)) ?_
      have : i = m := by omega
      subst this
      refine a_ret hT [1] rfl rfl rfl rfl rfl rfl ?_
      exact ⟨_, rfl, rfl⟩
  exact key.freeze
theorem RBytes1_spec {num n : Nat} {data : List UInt8} (hnum : num ≤ 536870911) (hn : n < 18446744073709551616) : FSpec Tryz.prog 32 [rfA num 1 n data] [] fun a cs => a = .d (A.bytesD (vb (8 * num + 1) ++ le64 n)) ∧ cs = [] := by
  have key : FSpec Tryz.prog 32 [rfA num 1 n data] [] fun a cs => ∃ v, a = .row v 1 ∧ cs = [.row v 5 1 ((vb (8 * num + 1) ++ le64 n).map eB)] := by
    have hw : IntKind.u64.wrap (IntKind.i64.wrap (IntKind.i64.wrap (8 * (num : Int)) + 1)) = ((8 * num + 1 : Nat) : Int) := by rw [w64 (x := 8 * (num : Int)) (by omega) (by omega), w64 (by omega) (by omega), wrapU (by omega) (by omega)]; omega
    have hV := RVarint0_spec (hh := 0) (n := 8 * num + 1) (by omega)
    have hV : FSpec Tryz.prog 52 [.v (.slice none 0 0) 0, .v (.int .u64 (IntKind.u64.wrap (IntKind.i64.wrap (IntKind.i64.wrap (8 * (num : Int)) + 1)))) 0] [] fun a cs => ∃ v, a = .row v 1 ∧ cs = [.row v 5 1 ((vb (8 * num + 1)).map eB)] := by rw [hw]; exact hV
    have hL := RLow_spec (n := n) (m := 8) hn (by decide)
    rw [loN_8] at hL
    have h10 := vb_len10 (n := 8 * num + 1) (by omega)
    have h8 : (le64 n).length = 8 := rfl
    refine a_enter hT [rfA num 1 n data] [] Tryz.func32 rfl rfl rfl ⟨Fit.refl _, trivial⟩ fun c' => ?_
    refine a_box hT 20 rfl rfl rfl rfl fun g => ?_
    refine a_call hT rfl rfl rfl (by kernel_rfl) hV [] [1] rfl rfl ?_
    rintro _ _ ⟨v, rfl, rfl⟩
    refine a_f hT rfl rfl rfl ?_
    refine a_t hT rfl rfl rfl ?_
    refine a_call hT rfl rfl rfl (by kernel_rfl) hL [] [] rfl rfl ?_
    rintro _ _ ⟨rfl, rfl⟩
    refine a_app hT 1 _ rfl rfl rfl rfl (by kernel_rfl) rfl rfl rfl rfl rfl rfl (by first | (simp; done) | (simp; omega) | (simp; unfold lim; omega) | (simp; assumption)) fun v1 => ?_
    refine a_ret hT [1] rfl rfl rfl rfl rfl rfl ?_
    exact ⟨_, rfl, by rw [← List.map_append]⟩
  exact key.freeze
theorem RBytes5_spec {num n : Nat} {data : List UInt8} (hnum : num ≤ 536870911) (hn : n < 18446744073709551616) : FSpec Tryz.prog 32 [rfA num 5 n data] [] fun a cs => a = .d (A.bytesD (vb (8 * num + 5) ++ le32 n)) ∧ cs = [] := by
  have key : FSpec Tryz.prog 32 [rfA num 5 n data] [] fun a cs => ∃ v, a = .row v 1 ∧ cs = [.row v 5 1 ((vb (8 * num + 5) ++ le32 n).map eB)] := by
    have hw : IntKind.u64.wrap (IntKind.i64.wrap (IntKind.i64.wrap (8 * (num : Int)) + 5)) = ((8 * num + 5 : Nat) : Int) := by rw [w64 (x := 8 * (num : Int)) (by omega) (by omega), w64 (by omega) (by omega), wrapU (by omega) (by omega)]; omega
    have hV := RVarint0_spec (hh := 0) (n := 8 * num + 5) (by omega)
    have hV : FSpec Tryz.prog 52 [.v (.slice none 0 0) 0, .v (.int .u64 (IntKind.u64.wrap (IntKind.i64.wrap (IntKind.i64.wrap (8 * (num : Int)) + 5)))) 0] [] fun a cs => ∃ v, a = .row v 1 ∧ cs = [.row v 5 1 ((vb (8 * num + 5)).map eB)] := by rw [hw]; exact hV
    have hL := RLow_spec (n := n) (m := 4) hn (by decide)
    rw [loN_4] at hL
    have h10 := vb_len10 (n := 8 * num + 5) (by omega)
    have h8 : (le32 n).length = 4 := rfl
    refine a_enter hT [rfA num 5 n data] [] Tryz.func32 rfl rfl rfl ⟨Fit.refl _, trivial⟩ fun c' => ?_
    refine a_box hT 20 rfl rfl rfl rfl fun g => ?_
    refine a_call hT rfl rfl rfl (by kernel_rfl) hV [] [1] rfl rfl ?_
    rintro _ _ ⟨v, rfl, rfl⟩
    refine a_f hT rfl rfl rfl ?_
    refine a_f hT rfl rfl rfl ?_
    refine a_t hT rfl rfl rfl ?_
    refine a_call hT rfl rfl rfl (by kernel_rfl) hL [] [] rfl rfl ?_
    rintro _ _ ⟨rfl, rfl⟩
    refine a_app hT 1 _ rfl rfl rfl rfl (by kernel_rfl) rfl rfl rfl rfl rfl rfl (by first | (simp; done) | (simp; omega) | (simp; unfold lim; omega) | (simp; assumption)) fun v1 => ?_
    refine a_ret hT [1] rfl rfl rfl rfl rfl rfl ?_
    exact ⟨_, rfl, by rw [← List.map_append]⟩
  exact key.freeze
theorem RBytes_spec {f : FW} (hf : formedW f = true) (hn : f.n < 18446744073709551616) (hd : f.data.length ≤ 100000000) : FSpec Tryz.prog 32 [fwA f] [] fun a cs => a = .d (A.bytesD (appW f)) ∧ cs = [] := by
  obtain ⟨h1, h2⟩ := formedW_cases hf
  have ha : appW f = vb (8 * f.num + f.typ) ++ payW f := by
    have hty : f.typ ≤ 5 := by omega
    unfold appW
    rw [if_pos hf, varP_vb (by omega), Nat.mul_comm]
  rw [ha]
  obtain ⟨num, typ, n, data⟩ := f
  dsimp only at h1 h2 hn hd ⊢
  rcases h2 with ⟨rfl, rfl⟩ | ⟨rfl, rfl⟩ | ⟨rfl, rfl, h5⟩ | ⟨rfl, rfl⟩
  · have := RBytes0_spec (num := num) (n := n) (data := []) (by omega) hn
    rw [← varP_vb hn] at this
    exact this
  · exact RBytes1_spec (num := num) (n := n) (data := []) (by omega) hn
  · exact RBytes5_spec (num := num) (n := n) (data := []) (by omega) hn
  · have := (RBytes2_spec (num := num) (data := data) (by omega) hd).freeze
    rw [← varP_vb (n := data.length) (by omega), List.append_assoc] at this
    exact this
def formedI (num typ : Int) (n : Nat) (data : List UInt8) : Bool := decide (1 ≤ num ∧ num ≤ 536870911) && (if typ = 0 ∨ typ = 1 then decide (data = []) else if typ = 5 then decide (data = [] ∧ n ≤ 4294967295) else decide (typ = 2 ∧ n = 0))
def rawF (num typ : Int) (n : Nat) (data : List UInt8) : List A.Dat := [.v (kI num), .v (kI typ), .v (kU n), .sl 1 (data.map eB)]
theorem formedI_of {num typ : Int} {n : Nat} {data : List UInt8} (h : formedI num typ n data = true) : ∃ f : FW, f.num = num ∧ f.typ = typ ∧ f.n = n ∧ f.data = data ∧ formedW f = true ∧ rawF num typ n data = fwD f := by
  unfold formedI at h
  rw [Bool.and_eq_true] at h
  have h1 := of_decide_eq_true h.1
  have h2 := h.2
  have ht : 0 ≤ typ := by
    split at h2
    · omega
    · split at h2
      · omega
      · have := of_decide_eq_true h2
        omega
  obtain ⟨a, rfl⟩ : ∃ a : Nat, num = (a : Int) := ⟨num.toNat, by omega⟩
  obtain ⟨b, rfl⟩ : ∃ b : Nat, typ = (b : Int) := ⟨typ.toNat, by omega⟩
  refine ⟨⟨a, b, n, data⟩, rfl, rfl, rfl, rfl, ?_, rfl⟩
  unfold formedW
  dsimp only
  rw [Bool.and_eq_true]
  refine ⟨decide_eq_true (by omega), ?_⟩
  split at h2
  · rw [if_pos (by omega)]; exact h2
  · rw [if_neg (by omega)]
    split at h2
    · rw [if_pos (by omega)]; exact h2
    · rw [if_neg (by omega)]
      have := of_decide_eq_true h2
      exact decide_eq_true (by omega)
theorem RFormed_spec {num typ : Int} {n : Nat} {data : List UInt8} : FSpec Tryz.prog 33 [.agg ((rawF num typ n data).map nd)] [] fun a cs => a = bA (formedI num typ n data) ∧ cs = [] := by
  have hdl := bytesD_len data
  have hk : formedI num typ n data = formedI num typ n data := rfl
  conv at hk => rhs; unfold formedI
  generalize formedI num typ n data = K at hk ⊢
  have h0 : (data = []) ↔ ((data.map eB).length : Int) = 0 := by
    cases data with
    | nil => simp
    | cons _ _ => simp; omega
  refine a_enter hT [.agg ((rawF num typ n data).map nd)] [] Tryz.func33 rfl rfl rfl ⟨Fit.refl _, trivial⟩ fun c' => ?_
  refine a_box hT 20 rfl rfl rfl rfl fun g => ?_
  have hd0 : (((data.map eB).length : Int) == 0) = decide (data = []) := by rw [Bool.eq_iff_iff, beq_iff_eq, decide_eq_true_iff]; exact h0.symm
  refine a_g hT rfl rfl rfl (fun h => ?_) (fun h => ?_)
  · have h : num < 1 := of_decide_eq_true h
    refine a_t hT rfl rfl rfl ?_
    refine a_ret hT [] rfl rfl rfl rfl rfl rfl ?_
    exact ⟨congrArg (fun b => AV.v (Value.bool b) 0) (by rw [hk, decide_eq_false (by omega)]; rfl), rfl⟩
  · have h : ¬ num < 1 := of_decide_eq_false h
    refine a_if hT rfl rfl (fun h1 => ?_) (fun h1 => ?_)
    · have h1 : num > 536870911 := of_decide_eq_true h1
      refine a_ret hT [] rfl rfl rfl rfl rfl rfl ?_
      exact ⟨congrArg (fun b => AV.v (Value.bool b) 0) (by rw [hk, decide_eq_false (by omega)]; rfl), rfl⟩
    · have h1 : ¬ num > 536870911 := of_decide_eq_false h1
      rw [decide_eq_true (by omega), Bool.true_and] at hk
      refine a_if hT rfl rfl (fun h2 => ?_) (fun h2 => ?_)
      · have h2 : typ = 0 := eq_of_beq h2
        refine a_t hT rfl rfl (beq_iff_eq.2 h2) ?_
        refine a_ret hT [] rfl rfl rfl rfl rfl rfl ?_
        exact ⟨congrArg (fun b => AV.v (Value.bool b) 0) (by rw [hk, if_pos (.inl h2)]; exact hd0), rfl⟩
      · have h2 : ¬ typ = 0 := ne_of_beq_false h2
        refine a_if hT rfl rfl (fun h3 => ?_) (fun h3 => ?_)
        · have h3 : typ = 1 := eq_of_beq h3
          refine a_ret hT [] rfl rfl rfl rfl rfl rfl ?_
          exact ⟨congrArg (fun b => AV.v (Value.bool b) 0) (by rw [hk, if_pos (.inr h3)]; exact hd0), rfl⟩
        · have h3 : ¬ typ = 1 := ne_of_beq_false h3
          rw [if_neg (by omega)] at hk
          refine a_if hT rfl rfl (fun h4 => ?_) (fun h4 => ?_)
          · have h4 : typ = 5 := eq_of_beq h4
            rw [if_pos h4] at hk
            refine a_g hT rfl rfl rfl (fun h5 => ?_) (fun h5 => ?_)
            · have h5 : ((data.map eB).length : Int) = 0 := eq_of_beq h5
              refine a_ret hT [] rfl rfl rfl rfl rfl rfl ?_
              exact ⟨congrArg (fun b => AV.v (Value.bool b) 0) (by rw [hk]; show decide ((n : Int) < 4294967296) = _; rw [Bool.eq_iff_iff, decide_eq_true_iff, decide_eq_true_iff]; have := h0.2 h5; constructor; (intro h6; exact ⟨this, by omega⟩); (intro h6; omega)), rfl⟩
            · have h5 : ¬ ((data.map eB).length : Int) = 0 := ne_of_beq_false h5
              refine a_ret hT [] rfl rfl rfl rfl rfl rfl ?_
              exact ⟨congrArg (fun b => AV.v (Value.bool b) 0) (by rw [hk, decide_eq_false (fun h6 => h5 (h0.1 h6.1))]), rfl⟩
          · have h4 : ¬ typ = 5 := ne_of_beq_false h4
            rw [if_neg h4] at hk
            refine a_if hT rfl rfl (fun h5 => ?_) (fun h5 => ?_)
            · have h5 : typ = 2 := eq_of_beq h5
              refine a_ret hT [] rfl rfl rfl rfl rfl rfl ?_
              exact ⟨congrArg (fun b => AV.v (Value.bool b) 0) (by rw [hk]; show ((n : Int) == 0) = _; rw [Bool.eq_iff_iff, beq_iff_eq, decide_eq_true_iff]; omega), rfl⟩
            · have h5 : ¬ typ = 2 := ne_of_beq_false h5
              refine a_ret hT [] rfl rfl rfl rfl rfl rfl ?_
              exact ⟨congrArg (fun b => AV.v (Value.bool b) 0) (by rw [hk, decide_eq_false (fun h6 => h5 h6.1)]), rfl⟩
end Go.Proofs.YtjcolfogmmjaoaaGreatDoor
end

section
set_option linter.unusedVariables false
set_option linter.unusedSimpArgs false
set_option maxRecDepth 100000
set_option maxHeartbeats 1000000
namespace Go.Proofs.YtjcolfogmmjaoaaGreatDoor
open V A
def entW (l : List FW) : Nat := (l.map fun x => x.data.length + 2).sum
theorem entW_nil : entW [] = 0 := rfl
theorem entW_cons (x : FW) (l : List FW) : entW (x :: l) = x.data.length + 2 + entW l := by unfold entW; simp
theorem entW_flat : ∀ l : List FW, (l.flatMap (·.data)).length + 2 * l.length = entW l
  | [] => rfl
  | x :: l => by
    have := entW_flat l
    rw [List.flatMap_cons, List.length_append, List.length_cons, entW_cons]
    omega
theorem entW_split (q : FW → Bool) : ∀ l : List FW, entW (l.filter q) + entW (l.filter fun x => !q x) = entW l
  | [] => rfl
  | x :: l => by
    have := entW_split q l
    rw [List.filter_cons, List.filter_cons, entW_cons]
    cases hq : q x
    · simp only [Bool.false_eq_true, if_false, Bool.not_false, if_true]
      rw [entW_cons]; omega
    · simp only [if_true, Bool.not_true, Bool.false_eq_true, if_false]
      rw [entW_cons]; omega
theorem entW_part : ∀ (dfs : List FDP) (E : List FW), dfs.Pairwise (fun f g => f.num < g.num) → (dfs.map fun f => entW (E.filter fun x => decide ((x.num : Int) = f.num))).sum ≤ entW E
  | [], E, _ => by simp
  | f :: dfs, E, hp => by
    rw [List.pairwise_cons] at hp
    have h1 := entW_split (fun x => decide ((x.num : Int) = f.num)) E
    have h2 := entW_part dfs (E.filter fun x => !decide ((x.num : Int) = f.num)) hp.2
    have h3 : (dfs.map fun g => entW (E.filter fun x => decide ((x.num : Int) = g.num))) = dfs.map fun g => entW ((E.filter fun x => !decide ((x.num : Int) = f.num)).filter fun x => decide ((x.num : Int) = g.num)) := by
      apply List.map_congr_left
      intro g hg
      rw [List.filter_filter]
      congr 1
      apply List.filter_congr
      intro x _
      have := hp.1 g hg
      by_cases hx : (x.num : Int) = g.num
      · simp [hx]; omega
      · simp [hx]
    rw [List.map_cons, List.sum_cons, h3]
    omega
theorem entW_raw {ws : List (FW × List UInt8)} (h : ∀ x ∈ ws, RawOk x) (q : FW → Bool) : entW ((ws.map (·.1)).filter q) + ((ws.filter fun x => !q x.1).flatMap (·.2)).length ≤ (ws.flatMap (·.2)).length := by
  induction ws with
  | nil => simp [entW_nil]
  | cons x ws ih =>
    have ih := ih fun y hy => h y (by simp [hy])
    have hx := (h x (by simp)).2.2.1
    have e2 : ((x :: ws).flatMap (·.2)).length = x.2.length + (ws.flatMap (·.2)).length := by rw [List.flatMap_cons, List.length_append]
    rw [e2, List.map_cons, List.filter_cons, List.filter_cons]
    cases hq : q x.1
    · simp only [Bool.false_eq_true, if_false, Bool.not_false, if_true]
      rw [List.flatMap_cons, List.length_append]; omega
    · simp only [if_true, Bool.not_true, Bool.false_eq_true, if_false]
      rw [entW_cons]; omega
theorem numP_wf {kind : Int} {n : Nat} (hn : n < 18446744073709551616) : WfV (numP kind n) := by
  unfold numP
  have h1 := wrap64 (n : Int)
  have h32 := wrap32b (IntKind.u32.wrap (n : Int))
  split
  · obtain ⟨k, e, h1, h2⟩ := h1
    exact .int _ ⟨h1, h2⟩
  split
  · refine .int _ ?_
    rw [zag_eq n hn]
    unfold I64
    split <;> omega
  split
  · exact .bool _
  split
  · exact .enum _ h32.1 h32.2
  · exact .uint _ ⟨by omega, by omega⟩
theorem numP_one {f : FDP} {n : Nat} {r : Bool} (hk : 1 ≤ f.kind ∧ f.kind ≤ 10) (h5 : f.kind ≠ 5) (h6 : f.kind ≠ 6) (h10 : f.kind ≠ 10) (h7 : f.kind = 7 → n ≤ 4294967295) : oneK f r (numP f.kind n) = true := by
  unfold numP
  split
  · exact decide_eq_true (.inl (by assumption))
  split
  · exact decide_eq_true (.inr (by assumption))
  split
  · exact decide_eq_true (by assumption)
  split
  · exact decide_eq_true (by assumption)
  · refine decide_eq_true ?_
    by_cases h : f.kind = 7
    · exact .inr (.inr ⟨h, by have := h7 h; omega⟩)
    · omega
theorem numP_norm (s : SchP) (kind : Int) (n : Nat) : normP s (numP kind n) = numP kind n := by
  unfold numP
  repeat' split
  all_goals (unfold normP; rfl)
theorem numP_wt (kind : Int) (n : Nat) : wtV (numP kind n) = 60 := by
  unfold numP
  repeat' split
  all_goals (unfold wtV; rfl)
structure Good (s : SchP) (f : FDP) (dep : Int) (v : VL) : Prop where
  fit : oneK f (fitsP s v f.ty (dep + 1)) v = true
  nrm : normP s v = v
  wf : WfV v
theorem goods_fits {s : SchP} {f : FDP} {dep : Int} : ∀ {vs : List VL}, (∀ v ∈ vs, Good s f dep v) → fitsVs s f dep vs = true
  | [], _ => by unfold fitsVs; rfl
  | v :: vs, h => by
    rw [fitsVs_cons, (h v (by simp)).fit, goods_fits fun x hx => h x (by simp [hx])]
    rfl
theorem goods_norm {s : SchP} {f : FDP} {dep : Int} : ∀ {vs : List VL}, (∀ v ∈ vs, Good s f dep v) → normVs s vs = vs
  | [], _ => by unfold normVs; rfl
  | v :: vs, h => by
    unfold normVs
    rw [(h v (by simp)).nrm, goods_norm fun x hx => h x (by simp [hx])]
theorem num_good {s : SchP} {f : FDP} {dep : Int} {n : Nat} (hk : 1 ≤ f.kind ∧ f.kind ≤ 10) (h5 : f.kind ≠ 5) (h6 : f.kind ≠ 6) (h10 : f.kind ≠ 10) (h7 : f.kind = 7 → n ≤ 4294967295) (hn : n < 18446744073709551616) : Good s f dep (numP f.kind n) :=
  ⟨numP_one hk h5 h6 h10 h7, numP_norm s f.kind n, numP_wf hn⟩
theorem up_good {s : SchP} {f : FDP} {dep : Int} (hk : 1 ≤ f.kind ∧ f.kind ≤ 10) (h5 : f.kind ≠ 5) (h6 : f.kind ≠ 6) (h10 : f.kind ≠ 10) : ∀ (k : Nat) (bs : List UInt8) (vs : List VL), bs.length ≤ k → upW f.kind bs = some vs → (∀ v ∈ vs, Good s f dep v) ∧ wtVs vs ≤ 60 * bs.length := by
  intro k
  induction k with
  | zero =>
    intro bs vs hl h
    have : bs = [] := List.eq_nil_of_length_eq_zero (by omega)
    subst this
    cases h
    exact ⟨by simp, by unfold wtVs; simp⟩
  | succ k ih =>
    intro bs vs hl h
    by_cases hb : bs = []
    · subst hb; cases h; exact ⟨by simp, by unfold wtVs; simp⟩
    · rw [upW_cons hb] at h
      have ho := takeK_ok (wireK f.kind) bs
      have h7 : f.kind = 7 → (takeK (wireK f.kind) bs).2.2 = 0 → (takeK (wireK f.kind) bs).1 ≤ 4294967295 := by
        intro e _
        have := take32_ok bs
        rw [e]
        show (take32P bs).1 ≤ _
        omega
      generalize takeK (wireK f.kind) bs = r at h ho h7
      obtain ⟨n, p, e⟩ := r
      dsimp only at h ho h7
      split at h
      · cases h
      · rename_i he
        have he : e = 0 := by simpa using he
        have hp := ho.1 he
        have hdl : (bs.drop p).length = bs.length - p := List.length_drop
        cases hs : upW f.kind (bs.drop p) with
        | none => rw [hs] at h; cases h
        | some L =>
          rw [hs] at h
          cases h
          obtain ⟨g1, g2⟩ := ih (bs.drop p) L (by omega) hs
          refine ⟨fun v hv => ?_, ?_⟩
          · rcases List.mem_cons.1 hv with rfl | hv
            · exact num_good hk h5 h6 h10 (fun e => h7 e he) ho.2
            · exact g1 v hv
          · rw [wtVs_cons, numP_wt]; omega
def RecG (s : SchP) (rec : Int → List UInt8 → RM) (dep : Int) : Prop := ∀ (t : Int) (bs : List UInt8) (v : VL), 0 ≤ t → t < s.ms.length → bs.length ≤ 4096 → rec t bs = .ok v → fitsP s v t dep = true ∧ normP s v = v ∧ WfV v ∧ wtV v ≤ 60 + 100 * bs.length
theorem values_good {s : SchP} {rec : Int → List UInt8 → RM} {f : FDP} {dep : Int} {x : FW} {l : List VL} (hr : RecG s rec (dep + 1)) (hk : 1 ≤ f.kind ∧ f.kind ≤ 10) (hty : f.kind = 10 → 0 ≤ f.ty ∧ f.ty < s.ms.length) (hx : formedW x = true) (hn : x.n < 18446744073709551616) (hl : x.data.length ≤ 4096)
    (hkn : (x.typ : Int) = wireK f.kind ∨ (f.rep = true ∧ packedK f.kind = true ∧ (x.typ : Int) = 2)) (h : valuesG rec f x = .ok l) : (∀ v ∈ l, Good s f dep v) ∧ wtVs l ≤ 60 + 100 * x.data.length ∧ l.length ≤ x.data.length + 1 ∧ (f.rep = false → l.length = 1) := by
  have hlen := valuesG_len h
  unfold valuesG at h
  by_cases h10 : f.kind = 10
  · rw [if_pos h10] at h
    split at h
    · cases h
    · rename_i v hv
      injection h with h
      subst h
      obtain ⟨g1, g2, g3, g4⟩ := hr f.ty x.data v (hty h10).1 (hty h10).2 hl hv
      refine ⟨fun w hw => ?_, ?_, hlen, fun _ => rfl⟩
      · simp at hw
        subst hw
        refine ⟨?_, g2, g3⟩
        rw [g1]
        cases w with
        | msg a b c => show (decide (f.kind = 10) && true) = true; rw [decide_eq_true h10]; rfl
        | _ => unfold fitsP at g1; cases g1
      · rw [wtVs_cons]; unfold wtVs; omega
  rw [if_neg h10] at h
  by_cases h5 : f.kind = 5
  · rw [if_pos h5] at h
    split at h
    · rename_i hv
      injection h with h
      subst h
      refine ⟨fun w hw => ?_, ?_, hlen, fun _ => rfl⟩
      · simp at hw
        subst hw
        refine ⟨?_, by unfold normP; rfl, .text _ (by rw [mkS_size]; omega)⟩
        show (decide (f.kind = 5) && validB (mkS x.data)) = true
        rw [decide_eq_true h5]
        unfold validB
        rw [data_mkS, hv]
        rfl
      · rw [wtVs_cons]; unfold wtVs wtV; rw [mkS_size]; omega
    · cases h
  rw [if_neg h5] at h
  by_cases h6 : f.kind = 6
  · rw [if_pos h6] at h
    injection h with h
    subst h
    refine ⟨fun w hw => ?_, ?_, hlen, fun _ => rfl⟩
    · simp at hw
      subst hw
      exact ⟨decide_eq_true h6, by unfold normP; rfl, .bytes _ (by rw [mkS_size]; omega)⟩
    · rw [wtVs_cons]; unfold wtVs wtV; rw [mkS_size]; omega
  rw [if_neg h6] at h
  have hw2 : wireK f.kind ≠ 2 := by
    unfold wireK
    split
    · decide
    split
    · decide
    rw [if_neg (by omega)]
    decide
  split at h
  · cases h
  · rename_i l' hv
    injection h with h
    subst h
    unfold valuesP at hv
    split at hv
    · rename_i h2
      obtain ⟨g1, g2⟩ := up_good (s := s) (dep := dep) hk h5 h6 h10 _ _ _ (Nat.le_refl _) hv
      refine ⟨g1, by omega, hlen, fun hrep => ?_⟩
      rcases hkn with e | e
      · exact absurd (by omega) hw2
      · rw [hrep] at e; exact absurd e.1 (by decide)
    · rename_i h2
      injection hv with hv
      subst hv
      refine ⟨fun w hw => ?_, ?_, hlen, fun _ => rfl⟩
      · simp at hw
        subst hw
        refine num_good hk h5 h6 h10 (fun e => ?_) hn
        obtain ⟨_, hc⟩ := formedW_cases hx
        have : (x.typ : Int) = 5 := by
          rcases hkn with e1 | e1
          · rw [e] at e1; exact e1
          · omega
        omega
      · rw [wtVs_cons, numP_wt]; unfold wtVs; omega
theorem vals_good {s : SchP} {rec : Int → List UInt8 → RM} {f : FDP} {dep : Int} (hr : RecG s rec (dep + 1)) (hk : 1 ≤ f.kind ∧ f.kind ≤ 10) (hty : f.kind = 10 → 0 ≤ f.ty ∧ f.ty < s.ms.length) : ∀ (l : List FW), (∀ x ∈ l, formedW x = true ∧ x.n < 18446744073709551616 ∧ x.data.length ≤ 4096 ∧ ((x.typ : Int) = wireK f.kind ∨ (f.rep = true ∧ packedK f.kind = true ∧ (x.typ : Int) = 2))) → ∀ acc, valsG rec f l = .ok acc → (∀ v ∈ acc, Good s f dep v) ∧ wtVs acc + 60 * l.length ≤ 100 * entW l ∧ (f.rep = false → acc.length = l.length)
  | [], _, acc, h => by
    unfold valsG at h
    injection h with h
    subst h
    exact ⟨by simp, by unfold wtVs; simp, fun _ => rfl⟩
  | x :: l, hx, acc, h => by
    rw [valsG_cons] at h
    split at h
    · cases h
    · rename_i a ha
      cases hl : valsG rec f l with
      | error e2 => rw [hl] at h; cases h
      | ok b =>
        rw [hl] at h
        injection h with h
        subst h
        obtain ⟨x1, x2, x3, x4⟩ := hx x (by simp)
        obtain ⟨g1, g2, g3, g4⟩ := values_good hr hk hty x1 x2 x3 x4 ha
        obtain ⟨k1, k2, k3⟩ := vals_good hr hk hty l (fun y hy => hx y (by simp [hy])) b hl
        refine ⟨fun v hv => ?_, ?_, fun e => ?_⟩
        · rcases List.mem_append.1 hv with hv | hv
          · exact g1 v hv
          · exact k1 v hv
        · have : wtVs (a ++ b) = wtVs a + wtVs b := wtVs_app a b
          show wtVs (a ++ b) + 60 * (x :: l).length ≤ _
          rw [this, entW_cons, List.length_cons]
          omega
        · show (a ++ b).length = _
          rw [List.length_append, g4 e, k3 e, List.length_cons]
          omega
end Go.Proofs.YtjcolfogmmjaoaaGreatDoor
end

section
set_option linter.unusedVariables false
set_option linter.unusedSimpArgs false
set_option maxRecDepth 100000
set_option maxHeartbeats 1000000
namespace Go.Proofs.YtjcolfogmmjaoaaGreatDoor
open V A
def EntOk (f : FDP) (x : FW) : Prop := formedW x = true ∧ x.n < 18446744073709551616 ∧ x.data.length ≤ 4096 ∧ ((x.typ : Int) = wireK f.kind ∨ (f.rep = true ∧ packedK f.kind = true ∧ (x.typ : Int) = 2))
theorem entW_mem {x : FW} : ∀ {l : List FW}, x ∈ l → entW [x] ≤ entW l
  | y :: l, h => by
    rw [entW_cons y l]
    rcases List.mem_cons.1 h with rfl | h
    · rw [entW_cons]; unfold entW; simp
    · have := entW_mem h; omega
theorem own_good {f : FDP} {l : List FW} (h : ∀ x ∈ l, EntOk f x) (hw : entW l ≤ 4096) : (∀ x ∈ ownG f l, EntOk f x) ∧ entW (ownG f l) ≤ entW l ∧ (f.rep = false → (ownG f l).length ≤ 1) := by
  unfold ownG
  split
  · rename_i hc
    refine ⟨h, Nat.le_refl _, fun e => ?_⟩
    rw [e, Bool.false_or] at hc
    cases l with
    | nil => simp
    | cons _ _ => cases hc
  · rename_i hc
    have hc1 : f.rep = false := by
      cases hr : f.rep
      · rfl
      · rw [hr] at hc; simp at hc
    have hne : l ≠ [] := fun e => by rw [e] at hc; simp at hc
    have hlast : l.getLast?.getD fw0 ∈ l := by
      rcases List.eq_nil_or_concat l with e | ⟨l', y, e⟩
      · exact absurd e hne
      · rw [e, List.concat_eq_append]; simp
    generalize l.getLast?.getD fw0 = y at hlast
    have hy := h y hlast
    split
    · rename_i h10
      have hf := entW_flat l
      have hl1 : 1 ≤ l.length := by
        cases l with
        | nil => exact absurd rfl hne
        | cons _ _ => simp
      have ht : (y.typ : Int) = 2 := by
        rcases hy.2.2.2 with e | e
        · rw [h10] at e; exact e
        · rw [hc1] at e; exact absurd e.1 (by decide)
      have ht2 : y.typ = 2 := by omega
      obtain ⟨y1, y2⟩ := formedW_cases hy.1
      refine ⟨fun x hx => ?_, ?_, fun _ => by simp⟩
      · simp only [List.mem_singleton] at hx
        subst hx
        refine ⟨?_, hy.2.1, by dsimp only; omega, hy.2.2.2⟩
        have hn0 : y.n = 0 := by omega
        unfold formedW
        dsimp only
        rw [Bool.and_eq_true, ht2, hn0]
        exact ⟨decide_eq_true y1, rfl⟩
      · rw [entW_cons, entW_nil]
        dsimp only
        omega
    · refine ⟨fun x hx => ?_, entW_mem hlast, fun _ => by simp⟩
      simp only [List.mem_singleton] at hx
      subst hx
      exact hy
theorem flds_good {s : SchP} {d : MDP} {rec : Int → List UInt8 → RM} {kn : Int → List FW} {dep : Int} (hr : RecG s rec (dep + 1)) : ∀ (dfs : List FDP), dfs.Pairwise (fun f g => f.num < g.num) → (∀ f ∈ dfs, findF d.fs f.num = some f ∧ (1 ≤ f.kind ∧ f.kind ≤ 10) ∧ (f.kind = 10 → 0 ≤ f.ty ∧ f.ty < s.ms.length) ∧ (1 ≤ f.num ∧ f.num ≤ 536870911) ∧ (∀ x ∈ kn f.num, EntOk f x) ∧ entW (kn f.num) ≤ 4096) →
    ∀ fs, fldsG rec kn dfs = .ok fs → ∀ last, (∀ f ∈ dfs, last < f.num) → fitsFs s d dep fs last = true ∧ normFs s d fs = fs ∧ (∀ num vs, VF.mk num vs ∈ fs → vs.length ≤ 100000 ∧ I64 num ∧ ∀ x ∈ vs, WfV x) ∧ wtFs fs ≤ 100 * (dfs.map fun f => entW (kn f.num)).sum ∧ fs.length ≤ dfs.length
  | [], _, _, fs, h, last, _ => by
    unfold fldsG at h
    injection h with h
    subst h
    exact ⟨by unfold fitsFs; rfl, by unfold normFs; rfl, fun num vs hm => by simp at hm, by unfold wtFs; simp, by simp⟩
  | f :: dfs, hp, hf, fs, h, last, hl => by
    rw [List.pairwise_cons] at hp
    obtain ⟨f1, f2, f3, f4, f5, f6⟩ := hf f (by simp)
    rw [fldsG_cons] at h
    split at h
    · cases h
    · rename_i acc hacc
      cases hl2 : fldsG rec kn dfs with
      | error e2 => rw [hl2] at h; cases h
      | ok r =>
        rw [hl2] at h
        injection h with h
        have ih := flds_good hr dfs hp.2 (fun g hg => hf g (by simp [hg])) r hl2
        obtain ⟨o1, o2, o3⟩ := own_good f5 f6
        obtain ⟨g1, g2, g3⟩ := vals_good hr f2 f3 _ o1 acc hacc
        have hat : fAt d f.num = f := by unfold fAt; rw [f1]; rfl
        rw [List.map_cons, List.sum_cons, List.length_cons]
        split at h
        · rename_i hk
          subst h
          obtain ⟨i1, i2, i3, i4, i5⟩ := ih f.num hp.1
          have hne : acc ≠ [] := fun e => by rw [e] at hk; cases hk
          have he : acc.isEmpty = false := by
            cases acc with
            | nil => exact absurd rfl hne
            | cons _ _ => rfl
          have hown : 1 ≤ (ownG f (kn f.num)).length := by
            cases ho : ownG f (kn f.num) with
            | nil => rw [ho] at hacc; unfold valsG at hacc; injection hacc with hacc; exact absurd hacc.symm hne
            | cons _ _ => simp
          have hrl : (f.rep || decide (acc.length ≤ 1)) = true := by
            cases hrep : f.rep with
            | true => rfl
            | false => rw [Bool.false_or]; exact decide_eq_true (by rw [g3 hrep]; exact o3 hrep)
          have hal := wtVs_len acc
          refine ⟨?_, ?_, ?_, ?_, ?_⟩
          · rw [fitsFs_cons, fitsF_mk, f1]
            dsimp only [numF]
            rw [decide_eq_true (hl f (by simp)), he, hrl, goods_fits g1, i1]
            rfl
          · rw [normFs_cons, normF_mk, hat, goods_norm g1, i2]
            have hkn : keepN f.rep acc = true := by
              cases acc with
              | nil => exact absurd rfl hne
              | cons w ws => exact hk
            rw [if_pos hkn]
            rfl
          · intro num vs hm
            rcases List.mem_cons.1 hm with e | hm
            · injection e with e1 e2
              subst e1 e2
              exact ⟨by omega, by unfold I64; omega, fun x hx => (g1 x hx).wf⟩
            · exact i3 num vs hm
          · rw [wtFs_cons, wtF_mk]
            omega
          · simp only [List.length_cons]; omega
        · rename_i hk
          subst h
          obtain ⟨i1, i2, i3, i4, i5⟩ := ih last (fun g hg => by have := hp.1 g hg; have := hl f (by simp); omega)
          exact ⟨i1, i2, i3, by show wtFs r ≤ _; omega, by show r.length ≤ _; omega⟩
theorem find_self {l : List FDP} (h : l.Pairwise (fun f g => f.num < g.num)) : ∀ f ∈ l, findF l f.num = some f := by
  induction l with
  | nil => intro f hf; simp at hf
  | cons g l ih =>
    rw [List.pairwise_cons] at h
    intro f hf
    unfold findF
    rw [List.find?_cons]
    rcases List.mem_cons.1 hf with rfl | hf
    · simp
    · have := h.1 f hf
      rw [decide_eq_false (by omega)]
      exact ih h.2 f hf
theorem dec_good {s : SchP} (hs : SchOk s) : ∀ (n : Nat), n ≤ 16 → RecG s (decM s n) (17 - (n : Int)) := by
  intro n
  induction n with
  | zero =>
    intro _ t bs v _ _ _ h
    unfold decM at h
    cases h
  | succ n ih =>
    intro hn t bs v h0 h1 hl h
    have hr := ih (by omega)
    rw [show (17 : Int) - (n : Int) = (17 - ((n + 1 : Nat) : Int)) + 1 by omega] at hr
    obtain ⟨dep, hdep⟩ : ∃ dep : Int, dep = 17 - ((n + 1 : Nat) : Int) := ⟨_, rfl⟩
    rw [← hdep] at hr ⊢
    have htt : t.toNat < s.ms.length := by omega
    have hm : s.ms[t.toNat]? = some s.ms[t.toNat] := List.getElem?_eq_getElem htt
    have hdm : s.ms[t.toNat] ∈ s.ms := List.getElem_mem htt
    generalize s.ms[t.toNat] = d at hm hdm
    have hd : dAt s t = d := by unfold dAt; rw [hm]; rfl
    have hfo := hs.fs d hdm
    have hpw := fs_pair hfo
    unfold decM at h
    cases hsp : splitW bs with
    | none => rw [hsp] at h; cases h
    | some ws =>
      rw [hsp] at h
      dsimp only at h
      rw [hd] at h
      have hraw := split_raw _ _ _ (Nat.le_refl _) hsp
      have hcat := splitW_cat _ _ _ (Nat.le_refl _) hsp
      have her := entW_raw hraw (fun x => knownP d x.num x.typ)
      rw [hcat] at her
      have hknf : ∀ k, knP d ws k = ((ws.map (·.1)).filter fun x => knownP d x.num x.typ).filter fun x => decide ((x.num : Int) = k) := by
        intro k
        unfold knP
        rw [List.filter_filter]
        exact List.filter_congr fun x _ => by rw [Bool.and_comm]
      have hpart := entW_part d.fs ((ws.map (·.1)).filter fun x => knownP d x.num x.typ) hpw
      simp only [← hknf] at hpart
      cases hfl : fldsG (decM s n) (knP d ws) d.fs with
      | error e => rw [hfl] at h; cases h
      | ok fs =>
        rw [hfl] at h
        injection h with h
        subst h
        have hsum : ∀ f ∈ d.fs, entW (knP d ws f.num) ≤ (d.fs.map fun f => entW (knP d ws f.num)).sum := fun f hf => by
          have key : ∀ (l : List FDP), f ∈ l → entW (knP d ws f.num) ≤ (l.map fun f => entW (knP d ws f.num)).sum := by
            intro l
            induction l with
            | nil => intro h; simp at h
            | cons g l ih =>
              intro h
              rw [List.map_cons, List.sum_cons]
              rcases List.mem_cons.1 h with rfl | h
              · omega
              · have := ih h; omega
          exact key d.fs hf
        obtain ⟨i1, i2, i3, i4, i5⟩ := flds_good (d := d) hr d.fs hpw (fun f hf => by
          refine ⟨find_self hpw f hf, hs.kd d hdm f hf, hs.ty d hdm f hf, hfo.rng f hf, fun x hx => ?_, by have := hsum f hf; omega⟩
          unfold knP at hx
          obtain ⟨hx1, hx2⟩ := List.mem_filter.1 hx
          obtain ⟨y, hy, rfl⟩ := List.mem_map.1 hx1
          obtain ⟨r1, r2, r3, _⟩ := hraw y hy
          rw [Bool.and_eq_true] at hx2
          have hnum := of_decide_eq_true hx2.2
          refine ⟨r1, r2, ?_, ?_⟩
          · have h9 : y.2.length ≤ (ws.flatMap (·.2)).length := by
              have key : ∀ (l : List (FW × List UInt8)), y ∈ l → y.2.length ≤ (l.flatMap (·.2)).length := by
                intro l
                induction l with
                | nil => intro h; simp at h
                | cons g l ih =>
                  intro h
                  rw [List.flatMap_cons, List.length_append]
                  rcases List.mem_cons.1 h with rfl | h
                  · omega
                  · have := ih h; omega
              exact key ws hy
            rw [hcat] at h9
            omega
          · have hk := hx2.1
            unfold knownP at hk
            rw [hnum] at hk
            have hfs : d.fs.find? (fun g => decide (g.num = f.num)) = some f := find_self hpw f hf
            rw [hfs] at hk
            dsimp only at hk
            rw [Bool.or_eq_true, Bool.and_eq_true, Bool.and_eq_true] at hk
            rcases hk with hk | hk
            · exact .inl (of_decide_eq_true hk)
            · exact .inr ⟨hk.1, hk.2.1, of_decide_eq_true hk.2.2⟩) fs hfl 0 (fun f hf => by have := (hfo.rng f hf).1; omega)
        have hul : (mkS (unkP d ws)).size = (unkP d ws).length := mkS_size _
        have hue : (unkP d ws).length = ((ws.filter fun x => !knownP d x.1.num x.1.typ).flatMap (·.2)).length := rfl
        have hf32 := hs.len d hdm
        refine ⟨?_, ?_, ?_, ?_⟩
        · unfold fitsP
          rw [hm]
          dsimp only
          rw [i1, decide_eq_true rfl, decide_eq_true (by omega : dep ≤ 16)]
          have hu : unkOk d (mkS (unkP d ws)) = true := by
            unfold unkOk
            rw [data_mkS]
            have := split_of_raw (ws.filter fun x => !knownP d x.1.num x.1.typ) (fun x hx => hraw x (List.mem_filter.1 hx).1)
            rw [show unkP d ws = (ws.filter fun x => !knownP d x.1.num x.1.typ).flatMap (·.2) from rfl, this]
            dsimp only
            rw [Bool.not_eq_true', List.any_eq_false]
            intro x hx
            have := (List.mem_filter.1 hx).2
            simpa using this
          rw [hu]
          rfl
        · unfold normP
          rw [hd, i2]
        · exact .msg (by omega) (fun num vs hm => (i3 num vs hm).1) (fun num vs hm => (i3 num vs hm).2.1) (by omega) (fun num vs x hm hx => (i3 num vs hm).2.2 x hx)
        · rw [wtV_msg]
          omega
end Go.Proofs.YtjcolfogmmjaoaaGreatDoor
end

section
set_option linter.unusedVariables false
set_option linter.unusedSimpArgs false
namespace Go.Proofs.YtjcolfogmmjaoaaGreatDoor.A
open V
open Go.ChangeShapes Go.RowKit
section
variable {H : Type} {enc : TypeId × Value → H} {P : Program}
theorem law_postW {s : ChangeSpec} {fn : Func} {f : FuncId} {b : TypeId} (tl : List TypeId) (hl : laidOutB P = true) (hp : fn.params.toList.all (fun t => P.readableRec t && decide (t < P.types.size)) = true)
    (hlay : layOk P tl = true) (hin : fn.params.toList.all tl.contains = true) (hb : fn.resultTypes = #[b]) (hub : P.underlying b = some .bool) (hvars : s.vars = [])
    (hfn : ∀ ds : List (DataW H), ds.length = fn.params.toList.length → (s.fn H ds).results = [.lit (.bool true)] ∧ (s.fn H ds).args = ds ∧ (s.fn H ds).vars = [])
    (W : World) (base : Nat) (args : Array Value) (ds gs : List (DataW H)) (before : List MemPlace) (hval : ∀ (j : Nat) t v, fn.params[j]? = some t → args[j]? = some v → Value.okWide P W .any base t v)
    (hW : DataW.Whole enc P fn.params.toList s.vars false W args.toList ds gs before)
    (hsz : (DataW.weightsEach P (fn.params.toList ++ s.plain.varTypes P) (ds ++ gs)).all (· ≤ reachBytes) = true) (hvt : s.plain.varTypes P = []) (walk : ArgsT P W fn.params.toList args.toList → Calls P f args W (LawR W)) :
    Calls P f args W fun e W' => ∃ v, e = .returned v ∧ s.post enc P fn false true false false W args v W' := by
  have hW' := hW
  obtain ⟨p, q, hA, hV, rfl, hfz, hnd⟩ := hW
  rw [hvars] at hV
  obtain ⟨rfl, rfl⟩ := trodVars_none hV
  obtain ⟨hargs, hn, hd⟩ := args_okT hlay hA hin (by simpa [hvt] using hsz) fun j t v hj hv => hval j t v (by simpa using hj) (by simpa using hv)
  refine (walk hargs).mono fun e W' ⟨he, hev⟩ => ?_
  subst he
  obtain ⟨r1, r2, r3⟩ := hfn (ds ++ []) (by simpa using hd)
  refine ⟨_, rfl, ds, [], p ++ [], [], p, [], hW', ?_, ?_, ?_, hev.below.frame _, fun h => by cases h⟩
  · rw [r1, hb]
    exact trodAll_mk1 (shut_bool hub _)
  · rw [r2]
    simpa using args_same hl hev.below hp hA (DataW.TrodAll.lt hA)
  · rw [hvars, r3]
    unfold DataW.TrodVars; rfl
end
end Go.Proofs.YtjcolfogmmjaoaaGreatDoor.A
namespace Go.Proofs.YtjcolfogmmjaoaaGreatDoor
open V A
open Go.Shelf
theorem u8_extra : U8Extra Tryz.prog u8Ren := ⟨by kernel_rfl, by kernel_rfl, by kernel_rfl, by kernel_rfl, by kernel_rfl, by kernel_rfl, by kernel_rfl⟩
theorem u8_tabs {w : World} {l : List (String × DataW Unit)} (h : laidMet Tryz.prog l w) (h3 : ("unicode/utf8.first", Go.Lib.firstData) ∈ l) (h4 : ("unicode/utf8.acceptRanges", Go.Lib.acceptData) ∈ l) : Lib.Utf8Tabs (u8g 3) (u8g 4) w :=
  utf8Tabs_of_readsT (U8Types.of196 u8Lay) u8_extra (Lib.laidMet.reads h h3) (Lib.laidMet.reads h h4)
theorem law_ofU {f : FuncId} {W : World} {args : Array Value} {xs : List AV} (ht : Lib.Utf8Tabs (u8g 3) (u8g 4) W) (spec : FSpec Tryz.prog f xs [u8C] fun a cs => a = .v (.bool true) 0 ∧ cs = [u8C]) (hr : Reps no W xs args.toList) : Calls Tryz.prog f args W (LawR W) := by
  have hh : HoldsL (or2 no no) W [u8C] no := ⟨no, no, fun b => ⟨.inl, fun h => h.elim id id⟩, fun _ h => h.elim, ⟨fun _ h => h, ht, fun h => h.elim id id, fun h => h.elim id id⟩, fun _ h => h⟩
  have := spec.out no no W args.toList (fun b h => h.elim) (fun b h => h.elim) hh (hr.of fun b _ h => h.elim id id)
  simp only [Array.toArray_toList] at this
  refine this.mono fun e w' ⟨v, a, cs, S', he, ha, hrep, _, hev, _⟩ => ?_
  rw [ha.1] at hrep
  rw [he, rep_v hrep]
  exact ⟨rfl, hev⟩
end Go.Proofs.YtjcolfogmmjaoaaGreatDoor
end

section
set_option linter.unusedVariables false
set_option linter.unusedSimpArgs false
set_option maxRecDepth 100000
set_option maxHeartbeats 2000000
namespace Go.Proofs.YtjcolfogmmjaoaaGreatDoor
open V A
theorem dec_topGood {s : SchP} {t : Int} {bs : List UInt8} {v : VL} (h : decTop s t bs = .ok v) : fitsTop s v t = true ∧ normP s v = v ∧ WfV v ∧ wtV v ≤ 500000 := by
  unfold decTop at h
  split at h
  · cases h
  · rename_i hc
    split at h
    · cases h
    · rename_i hl
      simp only [Bool.or_eq_true, not_or, Bool.not_eq_true', Bool.not_eq_false, decide_eq_true_eq] at hc
      obtain ⟨hform, h0, h1⟩ := hc
      have hform : formedP s = true := by simpa using hform
      obtain ⟨g1, g2, g3, g4⟩ := dec_good (schOk hform) 16 (Nat.le_refl _) t bs v (by omega) (by omega) (by omega) h
      rw [show (17 : Int) - ((16 : Nat) : Int) = 1 by decide] at g1
      refine ⟨?_, g2, g3, by omega⟩
      unfold fitsTop
      rw [hform, decide_eq_true (by omega : 0 ≤ t), decide_eq_true (by omega : t < s.ms.length), g1]
      rfl
end Go.Proofs.YtjcolfogmmjaoaaGreatDoor
end

section
set_option linter.unusedVariables false
set_option linter.unusedSimpArgs false
set_option maxRecDepth 100000
set_option maxHeartbeats 1000000
namespace Go.Proofs.YtjcolfogmmjaoaaGreatDoor
open V A
def sXs : SchP := ⟨sX, [], []⟩
def xF (x : Int) : FW := ⟨1, 0, u64 x, []⟩
def allF (x : Int) : List FW → List FW
  | [] => [xF x]
  | f :: l => f :: xF x :: l
def GoodU (f : FW) : Prop := formedW f = true ∧ f.n < 18446744073709551616 ∧ f.data.length ≤ 60 ∧ ¬ (f.num = 1 ∧ f.typ = 0)
def vU (x : Int) (u : List UInt8) : VL := .msg 0 (if x = 0 then [] else [.mk 1 [.int x]]) (mkS u)
theorem kn_mX (num typ : Nat) : knownP mX num typ = decide (num = 1 ∧ typ = 0) := by
  unfold knownP
  show (match [fX].find? (fun f => decide (f.num = (num : Int))) with | none => false | some f => decide ((typ : Int) = wireK f.kind) || (f.rep && (packedK f.kind && decide ((typ : Int) = 2)))) = _
  rw [List.find?_cons]
  by_cases h : num = 1
  · subst h
    show (decide ((typ : Int) = 0) || false) = _
    rw [Bool.or_false, Bool.eq_iff_iff, decide_eq_true_iff, decide_eq_true_iff]
    omega
  · rw [show decide (fX.num = (num : Int)) = false from decide_eq_false (by show ¬ (1 : Int) = num; omega)]
    show false = _
    rw [decide_eq_false (by omega)]
theorem unk_u {f : FW} (h : GoodU f) : knownP mX f.num f.typ = false := by
  rw [kn_mX]
  exact decide_eq_false h.2.2.2
theorem allF_ok {x : Int} {l : List FW} (h : ∀ f ∈ l, GoodU f) : ∀ f ∈ allF x l, formedW f = true ∧ f.n < 18446744073709551616 ∧ f.data.length < 18446744073709551616 := by
  have hx : formedW (xF x) = true ∧ (xF x).n < 18446744073709551616 ∧ (xF x).data.length < 18446744073709551616 := ⟨rfl, u64_lt x, by show 0 < _; decide⟩
  have hl : ∀ f ∈ l, formedW f = true ∧ f.n < 18446744073709551616 ∧ f.data.length < 18446744073709551616 := fun f hf => by
    obtain ⟨h1, h2, h3, _⟩ := h f hf
    exact ⟨h1, h2, by omega⟩
  intro f hf
  cases l with
  | nil => simp [allF] at hf; subst hf; exact hx
  | cons g l =>
    unfold allF at hf
    rcases List.mem_cons.1 hf with rfl | hf
    · exact hl _ (by simp)
    · rcases List.mem_cons.1 hf with rfl | hf
      · exact hx
      · exact hl _ (by simp [hf])
theorem allF_known {x : Int} {l : List FW} (h : ∀ f ∈ l, GoodU f) : (allF x l).filter (fun f => knownP mX f.num f.typ && decide ((f.num : Int) = 1)) = [xF x] := by
  have hx : (knownP mX (xF x).num (xF x).typ && decide (((xF x).num : Int) = 1)) = true := rfl
  have hl : ∀ l : List FW, (∀ f ∈ l, GoodU f) → l.filter (fun f => knownP mX f.num f.typ && decide ((f.num : Int) = 1)) = [] := fun l h => List.filter_eq_nil_iff.2 fun f hf => by rw [unk_u (h f hf)]; simp
  cases l with
  | nil => unfold allF; rw [List.filter_cons, if_pos hx]; rfl
  | cons g l =>
    unfold allF
    rw [List.filter_cons, if_neg (by rw [unk_u (h g (by simp))]; simp), List.filter_cons, if_pos hx, hl l fun f hf => h f (by simp [hf])]
theorem allF_unk {x : Int} {l : List FW} (h : ∀ f ∈ l, GoodU f) : (allF x l).filter (fun f => !knownP mX f.num f.typ) = l := by
  have hx : (!knownP mX (xF x).num (xF x).typ) = false := rfl
  have hl : ∀ l : List FW, (∀ f ∈ l, GoodU f) → l.filter (fun f => !knownP mX f.num f.typ) = l := fun l h => List.filter_eq_self.2 fun f hf => by rw [unk_u (h f hf)]; rfl
  cases l with
  | nil => unfold allF; rw [List.filter_cons, if_neg (by rw [hx]; decide)]; rfl
  | cons g l =>
    unfold allF
    rw [List.filter_cons, if_pos (by rw [unk_u (h g (by simp))]; rfl), List.filter_cons, if_neg (by rw [hx]; decide), hl l fun f hf => h f (by simp [hf])]
theorem flat_len {l : List FW} (h : ∀ f ∈ l, GoodU f) : (l.flatMap appW).length ≤ 82 * l.length := by
  induction l with
  | nil => simp
  | cons f l ih =>
    have h1 := appW_len f
    have h2 := (h f (by simp)).2.2.1
    have := ih fun g hg => h g (by simp [hg])
    rw [List.flatMap_cons, List.length_append, List.length_cons]
    omega
theorem allF_len {x : Int} {l : List FW} (h : ∀ f ∈ l, GoodU f) : ((allF x l).flatMap appW).length ≤ 82 * l.length + 22 := by
  have hx := appW_len (xF x)
  have hx : (appW (xF x)).length ≤ 22 := hx
  cases l with
  | nil => unfold allF; rw [List.flatMap_cons, List.flatMap_nil, List.append_nil]; omega
  | cons f l =>
    have h1 := appW_len f
    have h2 := (h f (by simp)).2.2.1
    have h3 := flat_len fun g hg => h g (List.mem_cons_of_mem f hg)
    unfold allF
    rw [List.flatMap_cons, List.flatMap_cons, List.length_append, List.length_append, List.length_cons]
    omega
theorem dec_unk {x : Int} {l : List FW} (hx : I64 x) (hl : l.length ≤ 40) (h : ∀ f ∈ l, GoodU f) : decTop sXs 0 ((allF x l).flatMap appW) = .ok (vU x (l.flatMap appW)) := by
  have hlen := allF_len (x := x) h
  have hfo : formedP sXs = true := by kernel_rfl
  unfold decTop
  rw [if_neg (by rw [hfo]; decide), if_neg (by omega)]
  have hsp := split_apps (allF x l) [] (allF_ok h)
  rw [List.append_nil, splitW_nil, Option.map_some, List.append_nil] at hsp
  unfold decM
  rw [hsp]
  dsimp only
  rw [show dAt sXs 0 = mX from rfl, show mX.fs = [fX] from rfl]
  have hk : knP mX ((allF x l).map fun f => (f, appW f)) 1 = [xF x] := by
    unfold knP
    rw [List.map_map, show ((·.1) ∘ fun f : FW => (f, appW f)) = id from rfl, List.map_id]
    exact allF_known h
  have hu : unkP mX ((allF x l).map fun f => (f, appW f)) = l.flatMap appW := by
    unfold unkP
    rw [List.filter_map, show ((fun x : FW × List UInt8 => !knownP mX x.1.num x.1.typ) ∘ fun f : FW => (f, appW f)) = fun f : FW => !knownP mX f.num f.typ from rfl, allF_unk h, List.flatMap_map]
  have hv : valsG (decM sXs 15) fX (ownG fX [xF x]) = .ok [.int x] := by
    show valsG (decM sXs 15) fX [xF x] = _
    unfold valsG
    unfold valsG
    show Except.ok [numP 1 (u64 x)] = _
    show Except.ok [VL.int (IntKind.i64.wrap (u64 x : Int))] = _
    rw [wrap_u64 hx]
  rw [hu]
  unfold fldsG
  rw [show fX.num = 1 from rfl, hk, hv]
  dsimp only
  unfold fldsG
  dsimp only
  unfold vU
  by_cases h0 : x = 0
  · subst h0; rfl
  · have hkp : keepP fX [.int x] = true := by
      show (true && (false || !decide (x = 0))) = true
      rw [decide_eq_false h0]
      rfl
    rw [hkp, if_neg h0]
    rfl
theorem enc_unk {x : Int} {u : List UInt8} : encM sXs (vU x u) = (if x = 0 then [] else appW (xF x)) ++ u := by
  unfold vU
  rw [encM_msg, data_mkS]
  congr 1
  by_cases h0 : x = 0
  · rw [if_pos h0, if_pos h0, encFs_nil]
  · rw [if_neg h0, if_neg h0, encFs_ent, List.flatMap_cons, List.flatMap_nil, List.append_nil]
    show [mkW fX (.int x) (encM sXs (.int x))].flatMap appW = _
    rw [List.flatMap_cons, List.flatMap_nil, List.append_nil]
    rfl
end Go.Proofs.YtjcolfogmmjaoaaGreatDoor
end

section
set_option linter.unusedVariables false
set_option linter.unusedSimpArgs false
set_option maxRecDepth 100000
set_option maxHeartbeats 2000000
namespace Go.Proofs.YtjcolfogmmjaoaaGreatDoor
open V A
structure RFP where
  num : Int
  typ : Int
  n : Nat
  data : List UInt8
def rfD (f : RFP) : List A.Dat := rawF f.num f.typ f.n f.data
theorem cRF : Tryz.prog.cellsOf 59 = 4 := by kernel_rfl
theorem sh_bytes {g : Nat} {ds : List A.Dat} (h : ShT Tryz.prog g 27 ds) : ∃ bs : List UInt8, ds = [.sl 1 (bs.map eB)] ∧ bs.length ≤ reachN := by
  obtain ⟨g', hg, xs, rfl, hl, hx⟩ := sh_sl Tryz.underlying27 h
  have key : ∀ l : List (List A.Dat), (∀ x ∈ l, ShT Tryz.prog g' 5 x) → ∃ bs : List UInt8, l = bs.map eB := by
    intro l
    induction l with
    | nil => exact fun _ => ⟨[], rfl⟩
    | cons x l ih =>
      intro h
      obtain ⟨bs, rfl⟩ := ih fun y hy => h y (by simp [hy])
      obtain ⟨m, rfl, hm⟩ := sh_int Tryz.underlying5 (h x (by simp))
      simp [Lit.wf, IntKind.min, IntKind.max, IntKind.bits, IntKind.signed] at hm
      refine ⟨UInt8.ofNat m.toNat :: bs, ?_⟩
      have h2 : ((UInt8.ofNat m.toNat).toNat : Int) = m := by
        rw [UInt8.toNat_ofNat']
        omega
      show [A.Dat.v (.int .u8 m)] :: _ = [A.Dat.v (.int .u8 ((UInt8.ofNat m.toNat).toNat : Int))] :: _
      rw [h2]
  obtain ⟨bs, rfl⟩ := key xs hx
  refine ⟨bs, by rw [show Tryz.prog.cellsOf 5 = 1 by kernel_rfl], by rw [← rb]; rw [List.length_map] at hl; exact hl⟩
theorem sh_rf {g : Nat} {ds : List A.Dat} (h : ShT Tryz.prog g 59 ds) : ∃ f : RFP, ds = rfD f ∧ f.n < 18446744073709551616 ∧ f.data.length ≤ reachN := by
  obtain ⟨g1, hg1, h⟩ := sh_st Tryz.underlying59 h
  obtain ⟨a0, r, rfl, h0, h⟩ := h
  obtain ⟨a1, r, rfl, h1, h⟩ := h
  obtain ⟨a2, r, rfl, h2, h⟩ := h
  obtain ⟨a3, r, rfl, h3, h⟩ := h
  have h : r = [] := h
  subst h
  obtain ⟨num, rfl, _⟩ := sh_int Tryz.underlying3 h0
  obtain ⟨typ, rfl, _⟩ := sh_int Tryz.underlying3 h1
  obtain ⟨n, rfl, hn⟩ := sh_int Tryz.underlying35 h2
  obtain ⟨bs, rfl, hb⟩ := sh_bytes h3
  simp [Lit.wf, IntKind.min, IntKind.max, IntKind.bits, IntKind.signed] at hn
  refine ⟨⟨num, typ, n.toNat, bs⟩, ?_, by dsimp only; omega, hb⟩
  show [A.Dat.v (.int .i64 num), .v (.int .i64 typ), .v (.int .u64 n), .sl 1 (bs.map eB)] = [A.Dat.v (.int .i64 num), .v (.int .i64 typ), .v (.int .u64 (n.toNat : Int)), .sl 1 (bs.map eB)]
  rw [Int.toNat_of_nonneg (by omega)]
theorem argT_rfs {w : World} {v : Value} (h : ArgT Tryz.prog w 50 v) : ∃ l : List RFP, Rep no w (.d (.sl 4 (l.map rfD))) v ∧ l.length ≤ reachN ∧ ∀ f ∈ l, f.n < 18446744073709551616 ∧ f.data.length ≤ reachN := by
  obtain ⟨⟨g, ds, k1, k2⟩, k3⟩ := h
  obtain ⟨g', hg, xs, rfl, hl, hx⟩ := sh_sl Tryz.underlying50 k1
  have := argT_one k2 (k3.2 (by kernel_rfl))
  obtain ⟨l, rfl, h2⟩ := listQ fun x hx' => sh_rf (hx x hx')
  refine ⟨l, ?_, by rw [← rb]; rw [List.length_map] at hl; exact hl, h2⟩
  unfold Rep
  rw [cRF] at this
  exact this
def allB (x : Int) (fl : List FW) : List UInt8 := if fl = [] then [] else (allF x fl).flatMap appW
theorem allB_snoc {x : Int} {fl : List FW} {f : FW} (h : fl ≠ []) : allB x (fl ++ [f]) = allB x fl ++ appW f := by
  unfold allB
  rw [if_neg h, if_neg (by simp)]
  cases fl with
  | nil => exact absurd rfl h
  | cons g l =>
    rw [List.cons_append]
    unfold allF
    rw [List.flatMap_cons, List.flatMap_cons, List.flatMap_cons, List.flatMap_cons, List.flatMap_append, List.flatMap_cons, List.flatMap_nil, List.append_nil, List.append_assoc, List.append_assoc]
theorem allB_one {x : Int} {f : FW} : allB x [f] = appW f ++ appW (xF x) := by
  unfold allB
  rw [if_neg (by simp)]
  unfold allF
  rw [List.flatMap_cons, List.flatMap_cons, List.flatMap_nil, List.append_nil]
theorem DecodeUnknown_spec {l : List RFP} {x : Int} (hx : I64 x) (hl : l.length ≤ reachN) (hf : ∀ f ∈ l, f.n < 18446744073709551616 ∧ f.data.length ≤ reachN) : FSpec Tryz.prog 9 [.d (.sl 4 (l.map rfD)), .v (kI x) 0] [u8C] fun a cs => a = bA true ∧ cs = [u8C] := by
  have hr : reachN = 140737488351232 := rfl
  have hA := awake11_spec
  have lm : (l.map rfD).length = l.length := List.length_map _
  refine a_enter hT [.d (.sl 4 (l.map rfD)), .v (kI x) 0] [60] Tryz.func9 rfl rfl rfl ⟨Fit.refl _, rfl, trivial⟩ fun c' => ?_
  refine a_call hT rfl rfl rfl (by kernel_rfl) hA [] [] rfl rfl ?_
  rintro _ _ ⟨rfl, rfl⟩
  refine a_gf hT rfl rfl rfl rfl ?_
  refine a_if hT rfl rfl (fun h => ?_) (fun h => ?_)
  · refine a_call hT rfl rfl rfl (by kernel_rfl) hA [] [] rfl rfl ?_
    rintro _ _ ⟨rfl, rfl⟩
    refine a_ret hT [60] rfl rfl rfl rfl rfl rfl ?_
    exact ⟨rfl, rfl⟩
  · have h : ¬ ((l.map rfD).length : Int) > 40 := of_decide_eq_false h
    rw [lm] at h
    have hB := RBytes_spec (f := xF x) rfl (u64_lt x) (by show 0 ≤ _; decide)
    have hwx : IntKind.u64.wrap x = ((u64 x : Nat) : Int) := by
      unfold u64
      rw [Int.toNat_of_nonneg (Int.emod_nonneg x (by decide))]
      unfold IntKind.wrap
      simp [IntKind.bits, IntKind.signed]
    have hB : FSpec Tryz.prog 32 [.agg [.v (kI 1) 0, .v (kI 0) 0, .v (.int .u64 (IntKind.u64.wrap x)) 0, .v (.slice none 0 0) 0]] [] fun a cs => a = .d (A.bytesD (appW (xF x))) ∧ cs = [] := by
      rw [hwx]
      exact hB.les (.cons (Le.agg (.cons (Le.refl _) (.cons (Le.refl _) (.cons (Le.refl _) (.cons le_nil .nil))))) .nil)
    have lx := appW_len (xF x)
    have lx : (appW (xF x)).length ≤ 22 := lx
    have lxe : ((appW (xF x)).map eB).length = (appW (xF x)).length := List.length_map _
    refine a_build hT hZ [.v (kI 1) 0, .v (.string (mkS [120])) 0, .v (kI 1) 0, .v (.bool false) 0, .v (kI 0) 0] rfl rfl rfl rfl rfl rfl ?_
    refine a_lit hT 20 rfl rfl rfl rfl (by kernel_rfl) rfl rfl rfl rfl fun x20 => ?_
    refine a_freeze 25 20 rfl rfl rfl rfl ?_
    refine a_build hT hZ [.v (.string (mkS [65])) 0, .d (.sl 5 [eF fX])] rfl rfl rfl rfl rfl rfl ?_
    refine a_lit hT 21 rfl rfl rfl rfl (by kernel_rfl) rfl rfl rfl rfl fun x21 => ?_
    refine a_freeze 27 21 rfl rfl rfl rfl ?_
    refine a_build hT hZ [.d (.sl 2 [eM mX]), .v (.slice none 0 0) 0, .v (.slice none 0 0) 0] rfl rfl rfl rfl rfl rfl ?_
    refine a_new hT hZ 22 rfl rfl rfl rfl fun g => ?_
    refine a_run hT 1 rfl rfl ?_
    refine a_cellL 22 1 (b := .d (.sl 2 [])) rfl rfl rfl le_nil ?_
    refine a_cellL 22 2 (b := .d (.sl 5 [])) rfl rfl rfl le_nil ?_
    refine a_freezeK 5 22 rfl rfl rfl rfl rfl ?_
    refine a_build hT hZ [.v (kI 1) 0, .v (kI 0) 0, .v (.int .u64 (IntKind.u64.wrap x)) 0, .v (.slice none 0 0) 0] rfl rfl rfl rfl rfl rfl ?_
    refine a_call hT rfl rfl rfl (by kernel_rfl) hB [] [] rfl rfl ?_
    rintro _ _ ⟨rfl, rfl⟩
    first
      | (refine a_run hT 1 rfl rfl ?_; refine a_nilrow 8 13 5 1 rfl rfl ?_)
      | (refine a_run hT 2 rfl rfl ?_; refine a_nilrow 8 13 5 1 rfl rfl ?_)
      | (refine a_run hT 3 rfl rfl ?_; refine a_nilrow 8 13 5 1 rfl rfl ?_)
      | (refine a_run hT 4 rfl rfl ?_; refine a_nilrow 8 13 5 1 rfl rfl ?_)
      | (refine a_run hT 5 rfl rfl ?_; refine a_nilrow 8 13 5 1 rfl rfl ?_)
      | (refine a_run hT 6 rfl rfl ?_; refine a_nilrow 8 13 5 1 rfl rfl ?_)
      | (refine a_run hT 7 rfl rfl ?_; refine a_nilrow 8 13 5 1 rfl rfl ?_)
      | (refine a_run hT 8 rfl rfl ?_; refine a_nilrow 8 13 5 1 rfl rfl ?_)
    refine a_nilrow 7 12 5 1 rfl rfl ?_
    refine a_loop hT [0, 1, 5, 6, 7, 8, 34, 35] (fun z : List FW × Value × Value => [.d (.sl 4 (l.map rfD)), .v (kI x) 0, .d (.p (schD sXs)), .d (A.bytesD (appW (xF x))), .row z.2.1 12, .row z.2.2 13, .v (kI l.length) 0, .v (kI z.1.length) 0]) (fun z => [(60, u8C), (12, .row z.2.1 5 1 ((allB x z.1).map eB)), (13, .row z.2.2 5 1 ((z.1.flatMap appW).map eB))]) (fun z => z.1.length ≤ l.length ∧ (l.take z.1.length).map rfD = z.1.map fwD ∧ ∀ f ∈ z.1, GoodU f) (fun z => l.length - z.1.length) ([], .slice none 0 0, .slice none 0 0) [60, 12, 13] rfl rfl ⟨Nat.zero_le _, rfl, by simp⟩ ⟨rfl, rfl, rfl, rfl, rfl, rfl, by rw [← lm]; rfl, rfl, trivial⟩ rfl ⟨rfl, ⟨rfl, rfl, rfl, rfl⟩, ⟨rfl, rfl, rfl, rfl⟩, trivial⟩ ?_
    rintro ⟨fl, v7, v8⟩ ⟨i1, i2, i3⟩
    dsimp only at i1 i2 i3
    have hw := wN fl.length (by omega)
    have l7 := flat_len i3
    have l8 := allF_len (x := x) i3
    have l9 : (allB x fl).length ≤ 82 * fl.length + 22 := by
      unfold allB
      split
      · exact Nat.zero_le _
      · exact l8
    rcases Nat.lt_or_ge fl.length l.length with hil | hil
    · have hat : (l.map rfD)[(fl.length : Int).toNat]? = some (rfD l[fl.length]) := by rw [Int.toNat_natCast, List.getElem?_map, List.getElem?_eq_getElem hil]; rfl
      have hnf := (hf l[fl.length] (List.getElem_mem hil))
      have htk : l.take (fl.length + 1) = l.take fl.length ++ [l[fl.length]] := List.take_succ_eq_append_getElem hil
      generalize l[fl.length] = f at hat hnf htk
      obtain ⟨fnum, ftyp, fn, fdata⟩ := f
      dsimp only at hnf
      have ld : (fdata.map eB).length = fdata.length := List.length_map _
      have hFo := RFormed_spec (num := fnum) (typ := ftyp) (n := fn) (data := fdata)
      refine a_t hT rfl rfl (decide_eq_true (by show (fl.length : Int) < (l.length : Int); omega)) ?_
      refine a_ix hT _ rfl rfl rfl rfl rfl rfl (by omega) hat ?_
      refine a_call hT rfl rfl rfl (by kernel_rfl) hFo [] [] rfl rfl ?_
      rintro _ _ ⟨rfl, rfl⟩
      cases hfo : formedI fnum ftyp fn fdata with
      | false =>
        refine a_gt hT rfl rfl rfl rfl ?_
        refine a_gt hT rfl rfl rfl rfl ?_
        refine a_t hT rfl rfl rfl ?_
        refine a_ret hT [60] rfl rfl rfl rfl rfl rfl ?_
        exact ⟨rfl, rfl⟩
      | true =>
        obtain ⟨f, e1, e2, e3, e4, hfm, e5⟩ := formedI_of hfo
        subst e1 e2 e3 e4
        have hlf := appW_len f
        refine a_gf hT rfl rfl rfl rfl ?_
        refine a_ix hT _ rfl rfl rfl rfl rfl rfl (by omega) hat ?_
        refine a_g hT rfl rfl rfl (fun h2 => ?_) (fun h2 => ?_)
        · refine a_t hT rfl rfl rfl ?_
          refine a_ret hT [60] rfl rfl rfl rfl rfl rfl ?_
          exact ⟨rfl, rfl⟩
        · have h2 : ¬ ((f.data.map eB).length : Int) > 60 := of_decide_eq_false h2
          rw [ld] at h2
          have hBf := RBytes_spec hfm hnf.1 (by omega)
          have hcons : (l.take (fl ++ [f]).length).map rfD = (fl ++ [f]).map fwD := by
            rw [List.length_append, List.length_cons, List.length_nil, Nat.zero_add, htk, List.map_append, i2, List.map_append]
            exact congrArg (fun z => fl.map fwD ++ [z]) e5
          refine a_ix hT _ rfl rfl rfl rfl rfl rfl (by omega) hat ?_
          refine a_g hT rfl rfl rfl (fun h1 => ?_) (fun h1 => ?_)
          · have h1 := eq_of_beq h1
            refine a_ix hT _ rfl rfl rfl rfl rfl rfl (by first | omega | assumption) (by first | assumption | rfl) ?_
            refine a_if hT rfl rfl (fun h3 => ?_) (fun h3 => ?_)
            · have h3 := eq_of_beq h3
              refine a_ret hT [60] rfl rfl rfl rfl rfl rfl ?_
              first | exact ⟨rfl, rfl⟩ | rfl
            · have h3 := ne_of_beq_false h3
              refine a_ix hT _ rfl rfl rfl rfl rfl rfl (by first | omega | assumption) (by first | assumption | rfl) ?_
              refine a_call hT rfl rfl rfl (by kernel_rfl) hBf [] [] rfl rfl ?_
              rintro _ _ ⟨rfl, rfl⟩
              have hgood : GoodU f := ⟨hfm, hnf.1, by omega, fun hc => h3 (by show (f.typ : Int) = 0; omega)⟩
              refine a_app hT 13 _ rfl rfl rfl rfl (by kernel_rfl) rfl rfl rfl rfl rfl rfl (by simp only [List.length_append, List.length_map]; unfold lim; omega) fun w8 => ?_
              refine a_app hT 12 _ rfl rfl rfl rfl (by kernel_rfl) rfl rfl rfl rfl rfl rfl (by simp only [List.length_append, List.length_map]; unfold lim; omega) fun w7 => ?_
              by_cases h0 : fl = []
              · subst h0
                refine a_t hT rfl rfl rfl ?_
                refine a_app hT 12 _ rfl rfl rfl rfl (by kernel_rfl) rfl rfl rfl rfl rfl rfl (by simp only [List.length_append, List.length_map]; unfold lim; omega) fun w9 => ?_
                exact a_next hT ([f], w9, w8) [60, 12, 13] rfl rfl ⟨⟨by show 1 ≤ l.length; have : ([] : List FW).length < l.length := hil; simp at this; omega, hcons, fun g hg => by simp at hg; subst hg; exact hgood⟩, by show l.length - 1 < l.length - 0; have : ([] : List FW).length < l.length := hil; simp at this; omega⟩ ⟨rfl, rfl, rfl, rfl, rfl, rfl, rfl, rfl, trivial⟩ rfl ⟨rfl, ⟨rfl, rfl, rfl, by show [] ++ (appW f).map eB ++ (appW (xF x)).map eB = (allB x [f]).map eB; rw [allB_one, List.map_append]; rfl⟩, ⟨rfl, rfl, rfl, by show [] ++ (appW f).map eB = ([f].flatMap appW).map eB; rw [List.flatMap_cons, List.flatMap_nil, List.append_nil]; rfl⟩, trivial⟩
              · refine a_f hT rfl rfl (by show ((fl.length : Int) == 0) = false; rw [beq_eq_false_iff_ne]; intro e; exact h0 (List.eq_nil_of_length_eq_zero (by omega))) ?_
                have hl1 : (fl ++ [f]).length = fl.length + 1 := by rw [List.length_append]; rfl
                exact a_next hT (fl ++ [f], w7, w8) [60, 12, 13] rfl rfl ⟨⟨by show (fl ++ [f]).length ≤ l.length; omega, hcons, fun g hg => by rcases List.mem_append.1 hg with hg | hg; exact i3 g hg; simp at hg; subst hg; exact hgood⟩, by show l.length - (fl ++ [f]).length < l.length - fl.length; omega⟩ ⟨rfl, rfl, rfl, rfl, rfl, rfl, rfl, by show Value.int .i64 _ = Value.int .i64 (((fl ++ [f]).length : Nat) : Int); rw [hl1, hw], trivial⟩ rfl ⟨rfl, ⟨rfl, rfl, rfl, by show (allB x fl).map eB ++ (appW f).map eB = (allB x (fl ++ [f])).map eB; rw [allB_snoc h0, List.map_append]⟩, ⟨rfl, rfl, rfl, by show (fl.flatMap appW).map eB ++ (appW f).map eB = ((fl ++ [f]).flatMap appW).map eB; rw [List.flatMap_append, List.flatMap_cons, List.flatMap_nil, List.append_nil, List.map_append]⟩, trivial⟩
          · have h1 := ne_of_beq_false h1
            refine a_f hT rfl rfl rfl ?_
            refine a_ix hT _ rfl rfl rfl rfl rfl rfl (by first | omega | assumption) (by first | assumption | rfl) ?_
            refine a_call hT rfl rfl rfl (by kernel_rfl) hBf [] [] rfl rfl ?_
            rintro _ _ ⟨rfl, rfl⟩
            have hgood : GoodU f := ⟨hfm, hnf.1, by omega, fun hc => h1 (by show (f.num : Int) = 1; omega)⟩
            refine a_app hT 13 _ rfl rfl rfl rfl (by kernel_rfl) rfl rfl rfl rfl rfl rfl (by simp only [List.length_append, List.length_map]; unfold lim; omega) fun w8 => ?_
            refine a_app hT 12 _ rfl rfl rfl rfl (by kernel_rfl) rfl rfl rfl rfl rfl rfl (by simp only [List.length_append, List.length_map]; unfold lim; omega) fun w7 => ?_
            by_cases h0 : fl = []
            · subst h0
              refine a_t hT rfl rfl rfl ?_
              refine a_app hT 12 _ rfl rfl rfl rfl (by kernel_rfl) rfl rfl rfl rfl rfl rfl (by simp only [List.length_append, List.length_map]; unfold lim; omega) fun w9 => ?_
              exact a_next hT ([f], w9, w8) [60, 12, 13] rfl rfl ⟨⟨by show 1 ≤ l.length; have : ([] : List FW).length < l.length := hil; simp at this; omega, hcons, fun g hg => by simp at hg; subst hg; exact hgood⟩, by show l.length - 1 < l.length - 0; have : ([] : List FW).length < l.length := hil; simp at this; omega⟩ ⟨rfl, rfl, rfl, rfl, rfl, rfl, rfl, rfl, trivial⟩ rfl ⟨rfl, ⟨rfl, rfl, rfl, by show [] ++ (appW f).map eB ++ (appW (xF x)).map eB = (allB x [f]).map eB; rw [allB_one, List.map_append]; rfl⟩, ⟨rfl, rfl, rfl, by show [] ++ (appW f).map eB = ([f].flatMap appW).map eB; rw [List.flatMap_cons, List.flatMap_nil, List.append_nil]; rfl⟩, trivial⟩
            · refine a_f hT rfl rfl (by show ((fl.length : Int) == 0) = false; rw [beq_eq_false_iff_ne]; intro e; exact h0 (List.eq_nil_of_length_eq_zero (by omega))) ?_
              have hl1 : (fl ++ [f]).length = fl.length + 1 := by rw [List.length_append]; rfl
              exact a_next hT (fl ++ [f], w7, w8) [60, 12, 13] rfl rfl ⟨⟨by show (fl ++ [f]).length ≤ l.length; omega, hcons, fun g hg => by rcases List.mem_append.1 hg with hg | hg; exact i3 g hg; simp at hg; subst hg; exact hgood⟩, by show l.length - (fl ++ [f]).length < l.length - fl.length; omega⟩ ⟨rfl, rfl, rfl, rfl, rfl, rfl, rfl, by show Value.int .i64 _ = Value.int .i64 (((fl ++ [f]).length : Nat) : Int); rw [hl1, hw], trivial⟩ rfl ⟨rfl, ⟨rfl, rfl, rfl, by show (allB x fl).map eB ++ (appW f).map eB = (allB x (fl ++ [f])).map eB; rw [allB_snoc h0, List.map_append]⟩, ⟨rfl, rfl, rfl, by show (fl.flatMap appW).map eB ++ (appW f).map eB = ((fl ++ [f]).flatMap appW).map eB; rw [List.flatMap_append, List.flatMap_cons, List.flatMap_nil, List.append_nil, List.map_append]⟩, trivial⟩
    · refine a_f hT rfl rfl (decide_eq_false (by show ¬ (fl.length : Int) < (l.length : Int); omega)) ?_
      have hfl : fl.length = l.length := by omega
      have hdec := dec_unk (x := x) hx (by omega) i3
      obtain ⟨g1, g2, g3, g4⟩ := dec_topGood hdec
      have hE := Encode_spec sz_sX g3 (by omega) (t := 0)
      have he : encTop sXs (vU x (fl.flatMap appW)) 0 = ((if x = 0 then [] else appW (xF x)) ++ fl.flatMap appW, 0) := by
        unfold encTop
        rw [g1, if_pos rfl, g2, enc_unk]
        have h22 : (if x = 0 then ([] : List UInt8) else appW (xF x)).length ≤ 22 := by
          split
          · exact Nat.zero_le _
          · exact lx
        rw [if_neg (by rw [List.length_append]; omega)]
      have hE : FSpec Tryz.prog 23 [schA sXs, .v (kI 0) 0, nd (vlD (vU x (fl.flatMap appW)))] [u8C] fun a cs => a = encA (encTop sXs (vU x (fl.flatMap appW)) 0) ∧ cs = [u8C] := hE
      rw [he] at hE
      have hE := hE.les (.cons (Le.refl _) (.cons (Le.refl _) (.cons nd_of .nil)))
      have hD := Decode_specG sz_sX (t := 0) (bs := (allF x fl).flatMap appW) (by omega)
      have hD : FSpec Tryz.prog 15 [schA sXs, .v (kI 0) 0, .d (A.bytesD ((allF x fl).flatMap appW))] [u8C] fun a cs => a = decE (decTop sXs 0 ((allF x fl).flatMap appW)) ∧ cs = [u8C] := hD
      rw [hdec] at hD
      have hunl : ((fl.flatMap appW).map eB).length = (fl.flatMap appW).length := List.length_map _
      first
        | (refine a_run hT 1 rfl rfl ?_; refine a_freeze 7 12 rfl rfl rfl rfl ?_)
        | refine a_freeze 7 12 rfl rfl rfl rfl ?_
      refine a_freeze 8 13 rfl rfl rfl rfl ?_
      by_cases h0 : fl = []
      · have e0 : (allF x fl).flatMap appW = appW (xF x) := by subst h0; unfold allF; rw [List.flatMap_cons, List.flatMap_nil, List.append_nil]
        have hl0 : l.length = 0 := by rw [← hfl, h0]; rfl
        rw [e0] at hD
        generalize fl.flatMap appW = un at *
        generalize vU x un = v at *
        refine a_t hT rfl rfl (by show (((l.map rfD).length : Int) == 0) = true; rw [lm, hl0]; rfl) ?_
        refine a_call hT rfl rfl rfl (by kernel_rfl) hD [60] [60] rfl rfl ?_
        rintro _ _ ⟨rfl, rfl⟩
        by_cases hx0 : x = 0
        · rw [if_pos hx0, List.nil_append] at hE
          refine a_call hT rfl rfl rfl (by kernel_rfl) hE [60] [60] rfl rfl ?_
          rintro _ _ ⟨rfl, rfl⟩
          refine a_str hT (l := appW (xF x)) rfl rfl rfl rfl rfl rfl rfl rfl ?_
          refine a_str hT (l := un) rfl rfl rfl rfl rfl rfl rfl rfl ?_
          refine a_bin hT _ rfl rfl rfl (by decide) rfl rfl (fun w => bin_cat (by show (mkS (appW (xF x))).size + (mkS un).size ≤ _; rw [mkS_size, mkS_size]; omega) w) ?_
          refine a_t hT rfl rfl (beq_iff_eq.2 hx0) ?_
          refine a_str hT (l := un) rfl rfl rfl rfl rfl rfl rfl rfl ?_
          refine a_gt hT rfl rfl rfl rfl ?_
          refine a_gt hT rfl rfl rfl rfl ?_
          refine a_str hT (l := un) rfl rfl rfl rfl rfl rfl rfl rfl ?_
          refine a_ret hT [60] rfl rfl rfl rfl rfl rfl ?_
          exact ⟨congrArg (fun b => AV.v (Value.bool b) 0) (beq_self_eq_true _), rfl⟩
        · rw [if_neg hx0] at hE
          refine a_call hT rfl rfl rfl (by kernel_rfl) hE [60] [60] rfl rfl ?_
          rintro _ _ ⟨rfl, rfl⟩
          refine a_str hT (l := appW (xF x)) rfl rfl rfl rfl rfl rfl rfl rfl ?_
          refine a_str hT (l := un) rfl rfl rfl rfl rfl rfl rfl rfl ?_
          refine a_bin hT _ rfl rfl rfl (by decide) rfl rfl (fun w => bin_cat (by show (mkS (appW (xF x))).size + (mkS un).size ≤ _; rw [mkS_size, mkS_size]; omega) w) ?_
          refine a_f hT rfl rfl (beq_eq_false_iff_ne.2 hx0) ?_
          refine a_gt hT rfl rfl rfl rfl ?_
          refine a_gt hT rfl rfl rfl rfl ?_
          refine a_str hT (l := appW (xF x) ++ un) rfl rfl rfl rfl rfl rfl rfl rfl ?_
          refine a_ret hT [60] rfl rfl rfl rfl rfl rfl ?_
          exact ⟨congrArg (fun b => AV.v (Value.bool b) 0) (by show ((mkS (appW (xF x) ++ un)).toList == (mkS (appW (xF x)) ++ mkS un).toList) = true; rw [mkS_app]; exact beq_self_eq_true _), rfl⟩
      · have hb : allB x fl = (allF x fl).flatMap appW := if_neg h0
        rw [← hb] at hD
        have hl0 : l.length ≠ 0 := fun e => h0 (List.eq_nil_of_length_eq_zero (by omega))
        generalize fl.flatMap appW = un at *
        generalize vU x un = v at *
        refine a_f hT rfl rfl (by show (((l.map rfD).length : Int) == 0) = false; rw [lm, beq_eq_false_iff_ne]; omega) ?_
        refine a_call hT rfl rfl rfl (by kernel_rfl) hD [60] [60] rfl rfl ?_
        rintro _ _ ⟨rfl, rfl⟩
        by_cases hx0 : x = 0
        · rw [if_pos hx0, List.nil_append] at hE
          refine a_call hT rfl rfl rfl (by kernel_rfl) hE [60] [60] rfl rfl ?_
          rintro _ _ ⟨rfl, rfl⟩
          refine a_str hT (l := appW (xF x)) rfl rfl rfl rfl rfl rfl rfl rfl ?_
          refine a_str hT (l := un) rfl rfl rfl rfl rfl rfl rfl rfl ?_
          refine a_bin hT _ rfl rfl rfl (by decide) rfl rfl (fun w => bin_cat (by show (mkS (appW (xF x))).size + (mkS un).size ≤ _; rw [mkS_size, mkS_size]; omega) w) ?_
          refine a_t hT rfl rfl (beq_iff_eq.2 hx0) ?_
          refine a_str hT (l := un) rfl rfl rfl rfl rfl rfl rfl rfl ?_
          refine a_gt hT rfl rfl rfl rfl ?_
          refine a_gt hT rfl rfl rfl rfl ?_
          refine a_str hT (l := un) rfl rfl rfl rfl rfl rfl rfl rfl ?_
          refine a_ret hT [60] rfl rfl rfl rfl rfl rfl ?_
          exact ⟨congrArg (fun b => AV.v (Value.bool b) 0) (beq_self_eq_true _), rfl⟩
        · rw [if_neg hx0] at hE
          refine a_call hT rfl rfl rfl (by kernel_rfl) hE [60] [60] rfl rfl ?_
          rintro _ _ ⟨rfl, rfl⟩
          refine a_str hT (l := appW (xF x)) rfl rfl rfl rfl rfl rfl rfl rfl ?_
          refine a_str hT (l := un) rfl rfl rfl rfl rfl rfl rfl rfl ?_
          refine a_bin hT _ rfl rfl rfl (by decide) rfl rfl (fun w => bin_cat (by show (mkS (appW (xF x))).size + (mkS un).size ≤ _; rw [mkS_size, mkS_size]; omega) w) ?_
          refine a_f hT rfl rfl (beq_eq_false_iff_ne.2 hx0) ?_
          refine a_gt hT rfl rfl rfl rfl ?_
          refine a_gt hT rfl rfl rfl rfl ?_
          refine a_str hT (l := appW (xF x) ++ un) rfl rfl rfl rfl rfl rfl rfl rfl ?_
          refine a_ret hT [60] rfl rfl rfl rfl rfl rfl ?_
          exact ⟨congrArg (fun b => AV.v (Value.bool b) 0) (by show ((mkS (appW (xF x) ++ un)).toList == (mkS (appW (xF x)) ++ mkS un).toList) = true; rw [mkS_app]; exact beq_self_eq_true _), rfl⟩
theorem decodeUnknown_row (W : World) (args : Array Value) (htab : Lib.Utf8Tabs (u8g 3) (u8g 4) W) (ha : ArgsT Tryz.prog W Tryz.f9.params.toList args.toList) : Calls Tryz.prog 9 args W (LawR W) := by
  obtain ⟨v1, r, e, h1, ha⟩ := argsT_cons ha
  obtain ⟨v2, r, rfl, h2, ha⟩ := argsT_cons ha
  obtain rfl := argsT_nil ha
  have e : args = #[v1, v2] := Array.ext' e
  subst e
  obtain ⟨l, hr1, hl, hf⟩ := argT_rfs h1
  obtain ⟨x, rfl, hx⟩ := argT_int Tryz.underlying2 (by kernel_rfl) h2
  exact law_ofU htab (DecodeUnknown_spec (wf_i64 hx) hl hf) (Reps.cons hr1 (Reps.cons mk_v Reps.nil))
end Go.Proofs.YtjcolfogmmjaoaaGreatDoor
end
