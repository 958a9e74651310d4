import Derived.Test.YtjcolfogmmjaoaaGreatDoorQEncodeFields6
import Derived.Lib.AppendStr
import Derived.Test.YtjcolfogmmjaoaaGreatDoorQEncodeFields11
import Derived.Test.YtjcolfogmmjaoaaGreatDoorQEncodeFields9
import Derived.Test.YtjcolfogmmjaoaaGreatDoorQEncodeFields7
import Derived.Test.YtjcolfogmmjaoaaGreatDoorQEncodeFields10
import Derived.Lib.LaidU8T
section
set_option linter.unusedVariables false
set_option linter.unusedSimpArgs false
set_option maxRecDepth 100000
namespace Go.Proofs.YtjcolfogmmjaoaaGreatDoor.A
open V
theorem vrep_bytes {M : Nat → Prop} {w : World} : ∀ l : List UInt8, VRep M w (l.map fun b => .v (byV b)) (l.map byV)
  | [] => by simp; unfold VRep; rfl
  | b :: l => by
    simp only [List.map_cons]
    unfold VRep
    exact ⟨_, _, rfl, by unfold DRep; exact ⟨rfl, rfl⟩, vrep_bytes l⟩
theorem run_appS {P : Program} {w : World} {base : Nat} {t u ty e : TypeId} {i : TypeInfo} (ht : P.underlying t = some (.slice e)) (hu : P.underlying u = some .string) (hi : P.info? e = some i) (hz : i.zero = some (.int .u8 0)) (hsize : i.size = 1) (hby : i.bytes = 1)
    {v : Value} {n : Nat} {xs : List Value} (hown : w.ownsRow base e 1 v n xs) (s : ByteArray) (hl : n + s.size ≤ lim) (hbase : base ≤ w.heap.size) :
    ∃ v' w', (Builtin.append_ #[t, u] ty #[v, .string s]).run P w = .ok v' w' ∧ w'.ownsRow base e 1 v' (n + s.size) (xs ++ Lib.strCells s) ∧ Ev (V.ob v) w w' ∧ (∀ b, V.ob v' b → V.ob v b ∨ w.heap.size ≤ b) := by
  have hlim : lim = 4294967296 := rfl
  have h63 : n + s.size ≤ maxLen := by unfold maxLen; omega
  obtain ⟨v', w', hrun, h1, h2, _⟩ := Lib.run_append_own_string (P := P) w base t u ty e i ht hu hi hz hsize hby v n xs hown s h63 (by omega) hbase
  have hxl : xs.length = n := by simpa using hown.1
  refine ⟨v', w', hrun, h1, Ev.grown h2 fun k hk => hk, fun b hb => ?_⟩
  unfold V.ob at hb ⊢
  rcases hown.2 with ⟨rfl, rfl⟩ | ⟨g, cap, cur, rfl, hbg, hg, hnc, hcm, hcs, htake⟩
  · have hx : xs = [] := List.eq_nil_of_length_eq_zero hxl
    subst hx
    obtain ⟨v2, w2, hrun2, h3, _, _⟩ := Lib.run_append_own_string (P := P) w w.heap.size t u ty e i ht hu hi hz hsize hby (.slice none 0 0) 0 [] (World.ownsRow_nil w w.heap.size e 1) s h63 (by omega) (Nat.le_refl _)
    rw [hrun] at hrun2
    injection hrun2 with e1 e2
    subst e1 e2
    right
    rcases h3.2 with ⟨rfl, _⟩ | ⟨g, cap, cur, rfl, hbg, _⟩
    · cases hb
    · simp [Value.ownBlock] at hb
      omega
  · by_cases hroom : n + s.size ≤ cap
    · have hcs' : cur.size = cap := by simpa using hcs
      have hr := Lib.run_append_room_string (P := P) w t u ty e i ht hu hi hsize g n cap cur hg s hroom (by omega)
      rw [hrun] at hr
      injection hr with e1 e2
      subst e1
      exact .inl hb
    · have holds : ∀ j u, xs[j]? = some u → w.cell? ((⟨g, 0, none⟩ : Addr).add j) = some u := hown.cells (g := g) rfl
      have hr := Lib.run_append_grow_string (P := P) w t u ty e i (.int .u8 0) ht hu hi hz ⟨g, 0, none⟩ n cap xs (by rw [hsize]; simpa using hxl) holds s (by omega) (by omega) (by rw [hby]; exact growslice_fits (by omega) (by omega))
      rw [hrun] at hr
      injection hr with e1 e2
      subst e1
      simp [Value.ownBlock] at hb
      omega
section
variable {P : Program} {L : List TD} {Z : List (List Value)} {n : Nat} {Q : Exit → Act → World → Prop} {c : Ctx}
variable {s : AMS} {f f' : AEnv} {σ σ' : Store} {κ : List Kt} {all : Array Oper} {dec : List Nat} {rest : List (Oper × Bool)} {m : Mode} {o : Oper} {al : Bool} {ob : Obs}
def byteInfo (P : Program) (e : TypeId) : Bool := match P.info? e with
  | some i => i.size == 1 && i.bytes == 1 && (match i.zero with | some (.int .u8 0) => true | _ => false)
  | none => false
theorem byteInfo_spec {e : TypeId} (h : byteInfo P e = true) : ∃ i, P.info? e = some i ∧ i.zero = some (.int .u8 0) ∧ i.size = 1 ∧ i.bytes = 1 := by
  unfold byteInfo at h
  split at h
  · rename_i i hi
    rw [Bool.and_eq_true, Bool.and_eq_true] at h
    refine ⟨i, hi, ?_, by simpa using h.1.1, by simpa using h.1.2⟩
    have h2 := h.2
    split at h2
    · assumption
    · cases h2
  · cases h
theorem a_appS (hT : TOk P L) (kn : Nat) {t u e : TypeId} {k0 hh0 : Nat} {x y : Operand} {v v' : Value} {es : List (List Dat)} {b : ByteArray} (es' : List (List Dat)) (h : machA L n fuel s f σ [] = ⟨.op m κ all dec o true rest, f', σ', ob⟩) (hob : ob.map (·.1) = ob.map (·.2)) (ho : o.op = .call ⟨.builtin .append, #[x, y], #[t, u]⟩) (ht : tl L t = .sl e 1) (hu : tl L u = .str) (hel : byteInfo P e = true)
    (hx : evA n f' x = .row v k0) (hl : look σ' k0 = some (.row v' e 1 es)) (hvv : v = v') (hy : evN n f' y = .v (.string b) hh0) (hes : es ++ b.data.toList.map eB = es') (hlim : es.length + b.size ≤ lim)
    (hk : ∀ x, DenA c P n Q (.ops (m.hap true) κ all dec rest) (putA f' o.dst (.row x kn)) ((kn, .row x e 1 es') :: del σ' k0)) : DenA c P n Q s f σ := by
  subst hvv
  subst hes
  refine a_eff hT (fun a σ1 => ∃ x, a = .row x kn ∧ σ1 = (kn, .row x e 1 (es ++ b.data.toList.map eB)) :: del σ' k0) h hob (fun Y Su w fc hd hY hh he => ?_) (fun a σ1 ⟨g, ha, hs⟩ => by subst ha; subst hs; exact hk g)
  obtain ⟨S1, S2, hS, hdis, hc, hrest⟩ := hh.take hl
  obtain ⟨hS1, hkl, xs, hown, hv⟩ := hc
  have hxv := he.eval (n := n) x
  rw [hx] at hxv
  unfold Rep at hxv
  have hyv := he.evalN (n := n) y
  rw [hy] at hyv
  have hyv := rep_v hyv
  obtain ⟨i, hi, hz, hsz, hby⟩ := byteInfo_spec hel
  obtain ⟨v', w', hrun, h1, h2, h3⟩ := run_appS (P := P) (ty := o.type) (sl_tl hT ht).1 (str_tl hT hu) hi hz hsz hby hown b hlim (Nat.zero_le _)
  have hcells : Lib.strCells b = b.data.toList.map byV := rfl
  rw [hcells] at h1
  have hrun' : (execOp (ev n fc) o).run P w = .ok (.value v') w' := by
    unfold execOp
    simp only [ho, resolve, invoke, builtin, Sem.run_bind, Sem.run_pure, Result.andThen_ok, List.map_toArray, List.map_cons, List.map_nil, hxv.1, hyv, hrun]
  rw [hrun']
  have hev : Ev Su w w' := h2.mono fun b _ hb => (hS b).2 (.inl ((hS1 b).2 hb))
  have hsub : ∀ b, or2 (V.ob v') S2 b → Su b ∨ w.heap.size ≤ b := fun b h => by
    rcases h with h | h
    · exact (h3 b h).imp (fun h => (hS b).2 (.inl ((hS1 b).2 h))) id
    · exact .inl ((hS b).2 (.inr h))
  have hm : ∀ b, b < w.heap.size → V.ob v b ∨ or2 (or2 (V.ob v') S2) Y b → or2 Su Y b := fun b hb h => by
    rcases h with h | h | h
    · exact .inl ((hS b).2 (.inl ((hS1 b).2 h)))
    · rcases hsub b h with h | h
      · exact .inl h
      · omega
    · exact .inr h
  have hbl : (b.data.toList.map eB).length = b.size := by rw [List.length_map]; rfl
  refine ⟨_, _, or2 (V.ob v') S2, ⟨v', rfl, rfl⟩, ?_, ⟨V.ob v', S2, fun b => Iff.rfl, fun b hb h => ?_, ⟨fun b => Iff.rfl, ?_, _, by rw [List.length_append, hbl]; exact h1, ?_⟩, hrest.ev h2 hm fun b hb h => hdis b ((hS1 b).2 h) hb⟩, hev, hsub⟩
  · unfold Rep
    refine ⟨rfl, ?_⟩
    rcases h1.2 with ⟨rfl, _⟩ | ⟨g, cap, cur, rfl, _⟩ <;> rfl
  · rcases h3 b hb with h' | h'
    · exact hdis b ((hS1 b).2 h') h
    · have := hrest.lt b h; omega
  · intro e' he'
    rcases List.mem_append.1 he' with he' | he'
    · exact hkl e' he'
    · obtain ⟨q, _, rfl⟩ := List.mem_map.1 he'
      rfl
  · rw [List.flatten_append, flat_eB]
    exact (hv.app (vrep_bytes _)).ev h2 hm
end
end Go.Proofs.YtjcolfogmmjaoaaGreatDoor.A
end

section
set_option linter.unusedVariables false
set_option linter.unusedSimpArgs false
set_option maxRecDepth 100000
set_option maxHeartbeats 2000000
namespace Go.Proofs.YtjcolfogmmjaoaaGreatDoor
open V A
theorem encFs_app (s : SchP) (d : MDP) : ∀ (a b : List VF), encFs s d (a ++ b) = encFs s d a ++ encFs s d b
  | [], b => by conv => rhs; arg 1; unfold encFs
                rfl
  | f :: a, b => by rw [List.cons_append, encFs_cons, encFs_cons, encFs_app s d a b, List.append_assoc]
theorem encVs_app (s : SchP) (f : FDP) : ∀ (a b : List VL), encVs s f (a ++ b) = encVs s f a ++ encVs s f b
  | [], b => by conv => rhs; arg 1; unfold encVs
                rfl
  | v :: a, b => by rw [List.cons_append, encVs_cons, encVs_cons, encVs_app s f a b, List.append_assoc]
theorem packVs_app (s : SchP) (f : FDP) : ∀ (a b : List VL), packVs s f (a ++ b) = packVs s f a ++ packVs s f b
  | [], b => by conv => rhs; arg 1; unfold packVs
                rfl
  | v :: a, b => by rw [List.cons_append, packVs_cons, packVs_cons, packVs_app s f a b, List.append_assoc]
theorem encFs_nil (s : SchP) (d : MDP) : encFs s d [] = [] := by unfold encFs; rfl
theorem encVs_nil (s : SchP) (f : FDP) : encVs s f [] = [] := by unfold encVs; rfl
theorem packVs_nil (s : SchP) (f : FDP) : packVs s f [] = [] := by unfold packVs; rfl
theorem wtFs_app : ∀ (a b : List VF), wtFs (a ++ b) = wtFs a + wtFs b
  | [], b => by conv => rhs; arg 1; unfold wtFs
                simp
  | f :: a, b => by rw [List.cons_append, wtFs_cons, wtFs_cons, wtFs_app a b, Nat.add_assoc]
theorem wtVs_app : ∀ (a b : List VL), wtVs (a ++ b) = wtVs a + wtVs b
  | [], b => by conv => rhs; arg 1; unfold wtVs
                simp
  | v :: a, b => by rw [List.cons_append, wtVs_cons, wtVs_cons, wtVs_app a b, Nat.add_assoc]
theorem wtFs_take (fs : List VF) (i : Nat) : wtFs (fs.take i) ≤ wtFs fs := by
  have := wtFs_app (fs.take i) (fs.drop i)
  rw [List.take_append_drop] at this
  omega
theorem wtVs_take (vs : List VL) (i : Nat) : wtVs (vs.take i) ≤ wtVs vs := by
  have := wtVs_app (vs.take i) (vs.drop i)
  rw [List.take_append_drop] at this
  omega
def addC (g : Nat) (v : Value) (l : List UInt8) : List Chunk := [.blk g 27 [.row v 31], .row v 5 1 (l.map eB)]
theorem add_spec {x : FW} {g : Nat} {v : Value} {l : List UInt8} (hd : x.data.length ≤ 800000) (hn : x.n < 18446744073709551616) (hl : l.length ≤ 3000000) : FSpec Tryz.prog 87 [fwA x, .v (.pointer (some ⟨g, 0, none⟩)) 30] (addC g v l) fun a cs => ∃ v', a = .tup [] ∧ cs = addC g v' (l ++ appW x) := by
  have hA := (wireAppend_spec hd hn).les (.cons (le_nil (h := 0)) (.cons (Le.refl _) .nil))
  have hal := appW_len x
  refine a_enter hT [fwA x, .v (.pointer (some ⟨g, 0, none⟩)) 30] [30, 31] Tryz.func87 rfl rfl rfl ⟨Fit.refl _, Fit.refl _, trivial⟩ fun c' => ?_
  refine a_box hT 32 rfl rfl rfl rfl fun g1 => ?_
  refine a_call hT rfl rfl rfl (by kernel_rfl) hA [] [] rfl rfl ?_
  rintro _ _ ⟨rfl, rfl⟩
  refine a_app hT 31 _ rfl rfl rfl rfl (by kernel_rfl) rfl rfl rfl rfl rfl rfl (by first | (simp; done) | (simp; omega) | (simp; unfold lim; omega) | (simp; assumption)) fun v1 => ?_
  refine a_end hT [30, 31] rfl rfl rfl rfl rfl rfl ?_
  exact ⟨v1, rfl, by unfold addC; rw [List.map_append]⟩
def EncS (s : SchP) : VL → Prop
  | .msg ty fs u => ∀ dep : Int, 0 ≤ ty → fitsP s (.msg ty fs u) ty dep = true → wtV (.msg ty fs u) ≤ 700000 → FSpec Tryz.prog 43 [schA s, msgA ty fs u] [] fun a cs => a = .d (A.bytesD (encM s (.msg ty fs u))) ∧ cs = []
  | .none | .int _ | .uint _ | .bool _ | .text _ | .bytes _ | .enum _ => True
theorem message_ind {s : SchP} (hs : SchOk s) : ∀ {v : VL}, WfV v → EncS s v := by
  intro v hv
  induction hv with
  | msg h1 h2 h3 h4 h5 ih =>
    rename_i ty fs unk
    intro dep ht0 hfit hwt
    unfold fitsP at hfit
    rw [Bool.and_eq_true, Bool.and_eq_true] at hfit
    obtain ⟨_, hf⟩ := hfit
    cases hm : s.ms[ty.toNat]? with
    | none => rw [hm] at hf; cases hf
    | some d =>
    rw [hm] at hf
    dsimp only at hf
    rw [Bool.and_eq_true] at hf
    have hf := hf.2
    have hdm : d ∈ s.ms := List.mem_of_getElem? hm
    have hd : dAt s ty = d := by unfold dAt; rw [hm]; rfl
    have hfo := hs.fs d hdm
    rw [encM_msg, hd]
    rw [wtV_msg] at hwt
    have hat0 : (s.ms.map eM)[ty.toNat]? = some (eM d) := by rw [List.getElem?_map, hm]; rfl
    have hlen : (vfsD fs).length = fs.length := vfsD_len fs
    refine FSpec.freeze (hh := 31) (e := 5) (k := 1) ?_
    refine a_enter hT [schA s, msgA ty fs unk] [] Tryz.func43 rfl rfl rfl ⟨Fit.refl _, Fit.refl _, trivial⟩ fun c' => ?_
    refine a_box hT 20 rfl rfl rfl rfl fun g1 => ?_
    refine a_box hT 21 rfl rfl rfl rfl fun g2 => ?_
    refine a_freezeK 2 20 rfl rfl rfl rfl rfl ?_
    refine a_freezeK 3 21 rfl rfl rfl rfl rfl ?_
    refine a_new hT hZ 30 rfl rfl rfl rfl fun g => ?_
    refine a_nilrowB 30 0 31 5 1 rfl rfl rfl ?_
    refine a_loop hT [2, 3, 5, 6, 18, 19, 20] (fun x : Nat × Value => [.d (.p (schD s)), .d (.p (msgD ty fs unk)), .v (.pointer (some ⟨g, 0, none⟩)) 30, .fn 87 [.v (.pointer (some ⟨g, 0, none⟩)) 30], .d (.sl 2 (vfsD fs)), .v (kI fs.length) 0, .v (kI x.1) 0]) (fun x => [(30, .blk g 27 [.row x.2 31]), (31, .row x.2 5 1 ((encFs s d (fs.take x.1)).map eB))]) (fun x => x.1 ≤ fs.length) (fun x => fs.length - x.1) (0, .slice none 0 0) [30, 31] rfl rfl (Nat.zero_le _) ⟨rfl, rfl, rfl, Fit.refl _, rfl, by rw [← hlen]; rfl, rfl, trivial⟩ rfl ⟨⟨rfl, rfl, rfl, trivial⟩, ⟨rfl, rfl, rfl, by rw [List.take_zero, encFs_nil]; rfl⟩, trivial⟩ ?_
    rintro ⟨i, w⟩ i2
    dsimp only at i2
    have hw := wN i (by omega)
    have hel := encFs_len s d (fs.take i)
    have hwl := wtFs_take fs i
    rcases Nat.lt_or_ge i fs.length with hil | hil
    · have hat : (vfsD fs)[(i : Int).toNat]? = some (vfD fs[i]) := by rw [vfsD_map, Int.toNat_natCast, List.getElem?_map, List.getElem?_eq_getElem hil]; rfl
      have hmem := List.getElem_mem hil
      have htk : fs.take (i + 1) = fs.take i ++ [fs[i]] := List.take_succ_eq_append_getElem hil
      generalize fs[i] = x at hat hmem htk
      obtain ⟨num, vs⟩ := x
      have hnum := h3 num vs hmem
      have hvl := h2 num vs hmem
      obtain ⟨_, f, hff, hne, hrl, hfv⟩ := fitsFs_mem hf num vs hmem
      have hFi := Find_spec (d := d) (num := num) hfo hnum
      rw [hff] at hFi
      have hlv : (vlsD vs).length = vs.length := by rw [vlsD_map, List.length_map]
      have hwm := wtFs_mem hmem
      rw [wtF_mk] at hwm
      have hfn := hfo.rng f (findF_num hff).2
      have hat2 : fAt d num = f := by unfold fAt; rw [hff]; rfl
      have henc : encFs s d (fs.take (i + 1)) = encFs s d (fs.take i) ++ (if f.rep && packedK f.kind then appW ⟨f.num.toNat, 2, 0, packVs s f vs⟩ else encVs s f vs) := by
        rw [htk, encFs_app, encFs_cons, encF_mk, hat2, encFs_nil, List.append_nil]
      refine a_t hT rfl rfl (decide_eq_true (by show (i : Int) < (fs.length : Int); omega)) ?_
      refine a_ix hT _ rfl rfl rfl rfl rfl rfl (by omega) hat ?_
      refine a_new hT hZ 41 rfl rfl rfl rfl fun g4 => ?_
      refine a_run hT 1 rfl rfl ?_
      refine a_freezeK 8 41 rfl rfl rfl rfl rfl ?_
      refine a_treeN hT [2, 3, 5, 6, 8, 9, 18, 19, 20] (fun h : Nat => [.d (.p (schD s)), .d (.p (msgD ty fs unk)), .v (.pointer (some ⟨g, 0, none⟩)) 30, .fn 87 [.v (.pointer (some ⟨g, 0, none⟩)) 30], .d (.p (vfD (.mk num vs))), .v (.pointer (some ⟨h, 0, none⟩)) 42, .d (.sl 2 (vfsD fs)), .v (kI fs.length) 0, .v (kI i) 0]) (fun h => [(30, .blk g 27 [.row w 31]), (31, .row w 5 1 ((encFs s d (fs.take i)).map eB)), (42, .blk h 68 ((eF f).map nd))]) (fun _ => True) [] 15 [(0, false), (2, false), (6, false), (1, false), (3, false), (7, false), (4, false), (5, false)] rfl rfl (by kernel_rfl) (by kernel_rfl) rfl ?_ ?_
      · refine a_ix hT _ rfl rfl rfl rfl rfl rfl (by first | omega | assumption) (by first | assumption | rfl) ?_
        refine a_alt hT [([(8, true), (9, false), (10, false), (11, false), (12, true), (13, true), (14, true)], true), ([(12, true), (8, true), (9, true), (10, false), (11, false), (13, true), (14, true)], true)] rfl rfl (by kernel_rfl) ⟨?_, ?_, trivial⟩
        · refine a_call hT rfl rfl rfl (by kernel_rfl) hFi [] [] rfl rfl ?_
          rintro _ _ ⟨rfl, rfl⟩
          refine a_new hT hZ 32 rfl rfl rfl rfl fun g3 => ?_
          exact a_next hT g3 [30, 31, 32] rfl rfl trivial ⟨rfl, rfl, rfl, Fit.refl _, rfl, rfl, rfl, rfl, rfl, trivial⟩ rfl ⟨⟨rfl, rfl, rfl, trivial⟩, ⟨rfl, rfl, rfl, rfl⟩, ⟨rfl, rfl, rfl, rfl, rfl, rfl, rfl, trivial⟩, trivial⟩
        · refine a_new hT hZ 32 rfl rfl rfl rfl fun g3 => ?_
          refine a_call hT rfl rfl rfl (by kernel_rfl) hFi [] [] rfl rfl ?_
          rintro _ _ ⟨rfl, rfl⟩
          exact a_next hT g3 [30, 31, 32] rfl rfl trivial ⟨rfl, rfl, rfl, Fit.refl _, rfl, rfl, rfl, rfl, rfl, trivial⟩ rfl ⟨⟨rfl, rfl, rfl, trivial⟩, ⟨rfl, rfl, rfl, rfl⟩, ⟨rfl, rfl, rfl, rfl, rfl, rfl, rfl, trivial⟩, trivial⟩
      rintro g5 _
      refine a_freezeK 9 42 rfl rfl rfl rfl rfl ?_
      have hPk := Packed_spec (k := f.kind)
      obtain ⟨fnum, fname, fkind, frep, fty⟩ := f
      dsimp only at hPk henc hfn
      cases frep with
      | false =>
        refine a_gt hT rfl rfl rfl rfl ?_
        refine a_t hT rfl rfl rfl ?_
        refine a_loop hT [2, 3, 5, 6, 8, 9, 18, 19, 20, 46, 47, 48] (fun x : Nat × Value => [.d (.p (schD s)), .d (.p (msgD ty fs unk)), .v (.pointer (some ⟨g, 0, none⟩)) 30, .fn 87 [.v (.pointer (some ⟨g, 0, none⟩)) 30], .d (.p (vfD (.mk num vs))), .d (.p (eF ⟨fnum, fname, fkind, false, fty⟩)), .d (.sl 2 (vfsD fs)), .v (kI fs.length) 0, .v (kI i) 0, .d (.sl 1 (vlsD vs)), .v (kI vs.length) 0, .v (kI x.1) 0]) (fun x => [(30, .blk g 27 [.row x.2 31]), (31, .row x.2 5 1 ((encFs s d (fs.take i) ++ encVs s ⟨fnum, fname, fkind, false, fty⟩ (vs.take x.1)).map eB))]) (fun x => x.1 ≤ vs.length) (fun x => vs.length - x.1) (0, w) [30, 31] rfl rfl (Nat.zero_le _) ⟨rfl, rfl, rfl, Fit.refl _, rfl, rfl, rfl, rfl, rfl, rfl, by rw [← hlv]; rfl, rfl, trivial⟩ rfl ⟨⟨rfl, rfl, rfl, trivial⟩, ⟨rfl, rfl, rfl, by rw [List.take_zero, encVs_nil, List.append_nil]⟩, trivial⟩ ?_
        rintro ⟨j, w1⟩ j2
        dsimp only at j2
        have hwj := wN j (by omega)
        have hvl2 := encVs_len s ⟨fnum, fname, fkind, false, fty⟩ (vs.take j)
        have hwt2 := wtVs_take vs j
        rcases Nat.lt_or_ge j vs.length with hjl | hjl
        · have hatj : (vlsD vs)[(j : Int).toNat]? = some [vlD vs[j]] := by rw [vlsD_map, Int.toNat_natCast, List.getElem?_map, List.getElem?_eq_getElem hjl]; rfl
          have hmv := List.getElem_mem hjl
          have htj : vs.take (j + 1) = vs.take j ++ [vs[j]] := List.take_succ_eq_append_getElem hjl
          have hone := fitsVs_mem hfv _ hmv
          have hih := ih num vs _ hmem hmv
          have hwv := h5 num vs _ hmem hmv
          have hwtv := wtVs_mem hmv
          generalize vs[j] = v at hatj hmv htj hone hih hwv hwtv
          have hE : encVs s ⟨fnum, fname, fkind, false, fty⟩ (vs.take (j + 1)) = encVs s ⟨fnum, fname, fkind, false, fty⟩ (vs.take j) ++ appW (mkW ⟨fnum, fname, fkind, false, fty⟩ v (encM s v)) := by rw [htj, encVs_app, encVs_cons, encVs_nil, List.append_nil]
          have hM : ∀ ty fs u, v = .msg ty fs u → FSpec Tryz.prog 43 [schA s, msgA ty fs u] [] fun a cs => a = .d (A.bytesD (encM s v)) ∧ cs = [] := by
            rintro ty2 fs2 u2 rfl
            rw [show ∀ r, oneK ⟨fnum, fname, fkind, false, fty⟩ r (.msg ty2 fs2 u2) = (decide (fkind = 10) && r) from fun _ => rfl, Bool.and_eq_true] at hone
            have hk10 := of_decide_eq_true hone.1
            have hty := hs.ty d hdm _ (findF_num hff).2 hk10
            dsimp only at hty
            have hfv2 := hone.2
            have hte : ty2 = fty := by
              unfold fitsP at hfv2
              rw [Bool.and_eq_true, Bool.and_eq_true] at hfv2
              exact of_decide_eq_true hfv2.1.1
            subst hte
            exact hih (dep + 1) hty.1 hfv2 (by omega)
          have hFl := field_spec (s := s) (f := ⟨fnum, fname, fkind, false, fty⟩) (m := encM s v) (by show 0 ≤ fnum; omega) hwv hM
          have hlen2 := encM_len s v
          have hAd := add_spec (x := mkW ⟨fnum, fname, fkind, false, fty⟩ v (encM s v)) (g := g) (v := w1) (l := encFs s d (fs.take i) ++ encVs s ⟨fnum, fname, fkind, false, fty⟩ (vs.take j)) (by show (dataW (encM s v) v).length ≤ _; omega) (numW_lt hwv) (by rw [List.length_append]; omega)
          refine a_t hT rfl rfl (decide_eq_true (by show (j : Int) < (vs.length : Int); omega)) ?_
          refine a_ix hT _ rfl rfl rfl rfl rfl rfl (by omega) hatj ?_
          refine a_call hT rfl rfl rfl (by kernel_rfl) hFl [] [] rfl rfl ?_
          rintro _ _ ⟨rfl, rfl⟩
          refine a_callv hT rfl rfl rfl rfl (by kernel_rfl) hAd [30, 31] [30, 31] rfl rfl ?_
          rintro _ _ ⟨w2, rfl, rfl⟩
          exact a_next hT (j + 1, w2) [30, 31] rfl rfl ⟨by show j + 1 ≤ vs.length; omega, by show vs.length - (j + 1) < vs.length - j; omega⟩ ⟨rfl, rfl, rfl, Fit.refl _, rfl, rfl, rfl, rfl, rfl, rfl, rfl, by show Value.int .i64 _ = Value.int .i64 _; rw [hwj], trivial⟩ rfl ⟨⟨rfl, rfl, rfl, trivial⟩, ⟨rfl, rfl, rfl, by show _ = (encFs s d (fs.take i) ++ encVs s ⟨fnum, fname, fkind, false, fty⟩ (vs.take (j + 1))).map eB; rw [hE, List.append_assoc]⟩, trivial⟩
        · refine a_f hT rfl rfl (decide_eq_false (by show ¬ (j : Int) < (vs.length : Int); omega)) ?_
          have hj : j = vs.length := by omega
          subst hj
          exact a_next hT (i + 1, w1) [30, 31] rfl rfl ⟨by show i + 1 ≤ fs.length; omega, by show fs.length - (i + 1) < fs.length - i; omega⟩ ⟨rfl, rfl, rfl, Fit.refl _, rfl, rfl, by show Value.int .i64 _ = Value.int .i64 _; rw [hw], trivial⟩ rfl ⟨⟨rfl, rfl, rfl, trivial⟩, ⟨rfl, rfl, rfl, by show (encFs s d (fs.take i) ++ encVs s ⟨fnum, fname, fkind, false, fty⟩ (vs.take vs.length)).map eB = (encFs s d (fs.take (i + 1))).map eB; rw [henc, List.take_length, if_neg (by simp)]⟩, trivial⟩
      | true =>
        cases hpk : packedK fkind with
        | false =>
          rw [hpk] at hPk
          refine a_gf hT rfl rfl rfl rfl ?_
          refine a_call hT rfl rfl rfl (by kernel_rfl) hPk [] [] rfl rfl ?_
          rintro _ _ ⟨rfl, rfl⟩
          refine a_t hT rfl rfl rfl ?_
          refine a_loop hT [2, 3, 5, 6, 8, 9, 18, 19, 20, 46, 47, 48] (fun x : Nat × Value => [.d (.p (schD s)), .d (.p (msgD ty fs unk)), .v (.pointer (some ⟨g, 0, none⟩)) 30, .fn 87 [.v (.pointer (some ⟨g, 0, none⟩)) 30], .d (.p (vfD (.mk num vs))), .d (.p (eF ⟨fnum, fname, fkind, true, fty⟩)), .d (.sl 2 (vfsD fs)), .v (kI fs.length) 0, .v (kI i) 0, .d (.sl 1 (vlsD vs)), .v (kI vs.length) 0, .v (kI x.1) 0]) (fun x => [(30, .blk g 27 [.row x.2 31]), (31, .row x.2 5 1 ((encFs s d (fs.take i) ++ encVs s ⟨fnum, fname, fkind, true, fty⟩ (vs.take x.1)).map eB))]) (fun x => x.1 ≤ vs.length) (fun x => vs.length - x.1) (0, w) [30, 31] rfl rfl (Nat.zero_le _) ⟨rfl, rfl, rfl, Fit.refl _, rfl, rfl, rfl, rfl, rfl, rfl, by rw [← hlv]; rfl, rfl, trivial⟩ rfl ⟨⟨rfl, rfl, rfl, trivial⟩, ⟨rfl, rfl, rfl, by rw [List.take_zero, encVs_nil, List.append_nil]⟩, trivial⟩ ?_
          rintro ⟨j, w1⟩ j2
          dsimp only at j2
          have hwj := wN j (by omega)
          have hvl2 := encVs_len s ⟨fnum, fname, fkind, true, fty⟩ (vs.take j)
          have hwt2 := wtVs_take vs j
          rcases Nat.lt_or_ge j vs.length with hjl | hjl
          · have hatj : (vlsD vs)[(j : Int).toNat]? = some [vlD vs[j]] := by rw [vlsD_map, Int.toNat_natCast, List.getElem?_map, List.getElem?_eq_getElem hjl]; rfl
            have hmv := List.getElem_mem hjl
            have htj : vs.take (j + 1) = vs.take j ++ [vs[j]] := List.take_succ_eq_append_getElem hjl
            have hone := fitsVs_mem hfv _ hmv
            have hih := ih num vs _ hmem hmv
            have hwv := h5 num vs _ hmem hmv
            have hwtv := wtVs_mem hmv
            generalize vs[j] = v at hatj hmv htj hone hih hwv hwtv
            have hE : encVs s ⟨fnum, fname, fkind, true, fty⟩ (vs.take (j + 1)) = encVs s ⟨fnum, fname, fkind, true, fty⟩ (vs.take j) ++ appW (mkW ⟨fnum, fname, fkind, true, fty⟩ v (encM s v)) := by rw [htj, encVs_app, encVs_cons, encVs_nil, List.append_nil]
            have hM : ∀ ty fs u, v = .msg ty fs u → FSpec Tryz.prog 43 [schA s, msgA ty fs u] [] fun a cs => a = .d (A.bytesD (encM s v)) ∧ cs = [] := by
              rintro ty2 fs2 u2 rfl
              rw [show ∀ r, oneK ⟨fnum, fname, fkind, true, fty⟩ r (.msg ty2 fs2 u2) = (decide (fkind = 10) && r) from fun _ => rfl, Bool.and_eq_true] at hone
              have hk10 := of_decide_eq_true hone.1
              have hty := hs.ty d hdm _ (findF_num hff).2 hk10
              dsimp only at hty
              have hfv2 := hone.2
              have hte : ty2 = fty := by
                unfold fitsP at hfv2
                rw [Bool.and_eq_true, Bool.and_eq_true] at hfv2
                exact of_decide_eq_true hfv2.1.1
              subst hte
              exact hih (dep + 1) hty.1 hfv2 (by omega)
            have hFl := field_spec (s := s) (f := ⟨fnum, fname, fkind, true, fty⟩) (m := encM s v) (by show 0 ≤ fnum; omega) hwv hM
            have hlen2 := encM_len s v
            have hAd := add_spec (x := mkW ⟨fnum, fname, fkind, true, fty⟩ v (encM s v)) (g := g) (v := w1) (l := encFs s d (fs.take i) ++ encVs s ⟨fnum, fname, fkind, true, fty⟩ (vs.take j)) (by show (dataW (encM s v) v).length ≤ _; omega) (numW_lt hwv) (by rw [List.length_append]; omega)
            refine a_t hT rfl rfl (decide_eq_true (by show (j : Int) < (vs.length : Int); omega)) ?_
            refine a_ix hT _ rfl rfl rfl rfl rfl rfl (by omega) hatj ?_
            refine a_call hT rfl rfl rfl (by kernel_rfl) hFl [] [] rfl rfl ?_
            rintro _ _ ⟨rfl, rfl⟩
            refine a_callv hT rfl rfl rfl rfl (by kernel_rfl) hAd [30, 31] [30, 31] rfl rfl ?_
            rintro _ _ ⟨w2, rfl, rfl⟩
            exact a_next hT (j + 1, w2) [30, 31] rfl rfl ⟨by show j + 1 ≤ vs.length; omega, by show vs.length - (j + 1) < vs.length - j; omega⟩ ⟨rfl, rfl, rfl, Fit.refl _, rfl, rfl, rfl, rfl, rfl, rfl, rfl, by show Value.int .i64 _ = Value.int .i64 _; rw [hwj], trivial⟩ rfl ⟨⟨rfl, rfl, rfl, trivial⟩, ⟨rfl, rfl, rfl, by show _ = (encFs s d (fs.take i) ++ encVs s ⟨fnum, fname, fkind, true, fty⟩ (vs.take (j + 1))).map eB; rw [hE, List.append_assoc]⟩, trivial⟩
          · refine a_f hT rfl rfl (decide_eq_false (by show ¬ (j : Int) < (vs.length : Int); omega)) ?_
            have hj : j = vs.length := by omega
            subst hj
            exact a_next hT (i + 1, w1) [30, 31] rfl rfl ⟨by show i + 1 ≤ fs.length; omega, by show fs.length - (i + 1) < fs.length - i; omega⟩ ⟨rfl, rfl, rfl, Fit.refl _, rfl, rfl, by show Value.int .i64 _ = Value.int .i64 _; rw [hw], trivial⟩ rfl ⟨⟨rfl, rfl, rfl, trivial⟩, ⟨rfl, rfl, rfl, by show (encFs s d (fs.take i) ++ encVs s ⟨fnum, fname, fkind, true, fty⟩ (vs.take vs.length)).map eB = (encFs s d (fs.take (i + 1))).map eB; rw [henc, List.take_length, if_neg (by simp [hpk])]⟩, trivial⟩
        | true =>
          rw [hpk] at hPk
          refine a_gf hT rfl rfl rfl rfl ?_
          refine a_call hT rfl rfl rfl (by kernel_rfl) hPk [] [] rfl rfl ?_
          rintro _ _ ⟨rfl, rfl⟩
          refine a_f hT rfl rfl rfl ?_
          first
            | (refine a_run hT 5 rfl rfl ?_; refine a_asL 13 (b := .d (A.bytesD [])) rfl (le_nil (h := 0)) ?_)
            | (refine a_run hT 6 rfl rfl ?_; refine a_asL 13 (b := .d (A.bytesD [])) rfl (le_nil (h := 0)) ?_)
            | (refine a_run hT 7 rfl rfl ?_; refine a_asL 13 (b := .d (A.bytesD [])) rfl (le_nil (h := 0)) ?_)
            | (refine a_run hT 8 rfl rfl ?_; refine a_asL 13 (b := .d (A.bytesD [])) rfl (le_nil (h := 0)) ?_)
            | (refine a_run hT 9 rfl rfl ?_; refine a_asL 13 (b := .d (A.bytesD [])) rfl (le_nil (h := 0)) ?_)
            | (refine a_run hT 10 rfl rfl ?_; refine a_asL 13 (b := .d (A.bytesD [])) rfl (le_nil (h := 0)) ?_)
            | (refine a_run hT 11 rfl rfl ?_; refine a_asL 13 (b := .d (A.bytesD [])) rfl (le_nil (h := 0)) ?_)
            | (refine a_run hT 12 rfl rfl ?_; refine a_asL 13 (b := .d (A.bytesD [])) rfl (le_nil (h := 0)) ?_)
            | (refine a_run hT 13 rfl rfl ?_; refine a_asL 13 (b := .d (A.bytesD [])) rfl (le_nil (h := 0)) ?_)
            | (refine a_run hT 14 rfl rfl ?_; refine a_asL 13 (b := .d (A.bytesD [])) rfl (le_nil (h := 0)) ?_)
            | (refine a_run hT 15 rfl rfl ?_; refine a_asL 13 (b := .d (A.bytesD [])) rfl (le_nil (h := 0)) ?_)
          refine a_loop hT [2, 3, 5, 6, 8, 9, 13, 18, 19, 20, 60, 61, 62] (fun j : Nat × Unit => [.d (.p (schD s)), .d (.p (msgD ty fs unk)), .v (.pointer (some ⟨g, 0, none⟩)) 30, .fn 87 [.v (.pointer (some ⟨g, 0, none⟩)) 30], .d (.p (vfD (.mk num vs))), .d (.p (eF ⟨fnum, fname, fkind, true, fty⟩)), .d (A.bytesD (packVs s ⟨fnum, fname, fkind, true, fty⟩ (vs.take j.1))), .d (.sl 2 (vfsD fs)), .v (kI fs.length) 0, .v (kI i) 0, .d (.sl 1 (vlsD vs)), .v (kI vs.length) 0, .v (kI j.1) 0]) (fun _ => [(30, .blk g 27 [.row w 31]), (31, .row w 5 1 ((encFs s d (fs.take i)).map eB))]) (fun j => j.1 ≤ vs.length) (fun j => vs.length - j.1) (0, ()) [30, 31] rfl rfl (Nat.zero_le _) ⟨rfl, rfl, rfl, Fit.refl _, rfl, rfl, by rw [List.take_zero, packVs_nil]; exact Fit.refl _, rfl, rfl, rfl, rfl, by rw [← hlv]; rfl, rfl, trivial⟩ rfl ⟨⟨rfl, rfl, rfl, trivial⟩, ⟨rfl, rfl, rfl, rfl⟩, trivial⟩ ?_
          rintro ⟨j, w1⟩ j2
          dsimp only at j2
          have hwj := wN j (by omega)
          have hvl2 := packVs_len s ⟨fnum, fname, fkind, true, fty⟩ (vs.take j)
          have hwt2 := wtVs_take vs j
          rcases Nat.lt_or_ge j vs.length with hjl | hjl
          · have hatj : (vlsD vs)[(j : Int).toNat]? = some [vlD vs[j]] := by rw [vlsD_map, Int.toNat_natCast, List.getElem?_map, List.getElem?_eq_getElem hjl]; rfl
            have hmv := List.getElem_mem hjl
            have htj : vs.take (j + 1) = vs.take j ++ [vs[j]] := List.take_succ_eq_append_getElem hjl
            have hone := fitsVs_mem hfv _ hmv
            have hih := ih num vs _ hmem hmv
            have hwv := h5 num vs _ hmem hmv
            have hwtv := wtVs_mem hmv
            generalize vs[j] = v at hatj hmv htj hone hih hwv hwtv
            have hE : packVs s ⟨fnum, fname, fkind, true, fty⟩ (vs.take (j + 1)) = packVs s ⟨fnum, fname, fkind, true, fty⟩ (vs.take j) ++ packW (mkW ⟨fnum, fname, fkind, true, fty⟩ v (encM s v)) := by rw [htj, packVs_app, packVs_cons, packVs_nil, List.append_nil]
            have hM : ∀ ty fs u, v = .msg ty fs u → FSpec Tryz.prog 43 [schA s, msgA ty fs u] [] fun a cs => a = .d (A.bytesD (encM s v)) ∧ cs = [] := by
              rintro ty2 fs2 u2 rfl
              rw [show ∀ r, oneK ⟨fnum, fname, fkind, true, fty⟩ r (.msg ty2 fs2 u2) = (decide (fkind = 10) && r) from fun _ => rfl, Bool.and_eq_true] at hone
              have hk10 := of_decide_eq_true hone.1
              have hty := hs.ty d hdm _ (findF_num hff).2 hk10
              dsimp only at hty
              have hfv2 := hone.2
              have hte : ty2 = fty := by
                unfold fitsP at hfv2
                rw [Bool.and_eq_true, Bool.and_eq_true] at hfv2
                exact of_decide_eq_true hfv2.1.1
              subst hte
              exact hih (dep + 1) hty.1 hfv2 (by omega)
            have hFl := field_spec (s := s) (f := ⟨fnum, fname, fkind, true, fty⟩) (m := encM s v) (by show 0 ≤ fnum; omega) hwv hM
            have hlen2 := encM_len s v
            have hPa := pack_spec (l := packVs s ⟨fnum, fname, fkind, true, fty⟩ (vs.take j)) (x := mkW ⟨fnum, fname, fkind, true, fty⟩ v (encM s v)) (by omega) (numW_lt hwv)
            rw [← hE] at hPa
            refine a_t hT rfl rfl (decide_eq_true (by show (j : Int) < (vs.length : Int); omega)) ?_
            refine a_ix hT _ rfl rfl rfl rfl rfl rfl (by omega) hatj ?_
            refine a_call hT rfl rfl rfl (by kernel_rfl) hFl [] [] rfl rfl ?_
            rintro _ _ ⟨rfl, rfl⟩
            refine a_call hT rfl rfl rfl (by kernel_rfl) hPa [] [] rfl rfl ?_
            rintro _ _ ⟨rfl, rfl⟩
            exact a_next hT (j + 1, ()) [30, 31] rfl rfl ⟨by show j + 1 ≤ vs.length; omega, by show vs.length - (j + 1) < vs.length - j; omega⟩ ⟨rfl, rfl, rfl, Fit.refl _, rfl, rfl, Fit.refl _, rfl, rfl, rfl, rfl, rfl, by show Value.int .i64 _ = Value.int .i64 _; rw [hwj], trivial⟩ rfl ⟨⟨rfl, rfl, rfl, trivial⟩, ⟨rfl, rfl, rfl, rfl⟩, trivial⟩
          · refine a_f hT rfl rfl (decide_eq_false (by show ¬ (j : Int) < (vs.length : Int); omega)) ?_
            have hj : j = vs.length := by omega
            subst hj
            dsimp only
            rw [List.take_length] at hvl2 ⊢
            have hAd := add_spec (x := ⟨fnum.toNat, 2, 0, packVs s ⟨fnum, fname, fkind, true, fty⟩ vs⟩) (g := g) (v := w) (l := encFs s d (fs.take i)) (by dsimp only; omega) (by dsimp only; omega) (by omega)
            have hfw : fwA ⟨fnum.toNat, 2, 0, packVs s ⟨fnum, fname, fkind, true, fty⟩ vs⟩ = .agg [.v (kI fnum) 0, .v (kI 2) 0, .v (kU 0) 0, .d (A.bytesD (packVs s ⟨fnum, fname, fkind, true, fty⟩ vs))] := by
              unfold fwA
              dsimp only
              rw [Int.toNat_of_nonneg (by omega)]
              rfl
            rw [hfw] at hAd
            refine a_build hT hZ [.v (kI fnum) 0, .v (kI 2) 0, .v (kU 0) 0, .d (A.bytesD (packVs s ⟨fnum, fname, fkind, true, fty⟩ vs))] rfl rfl rfl rfl rfl rfl ?_
            refine a_callv hT rfl rfl rfl rfl (by kernel_rfl) hAd [30, 31] [30, 31] rfl rfl ?_
            rintro _ _ ⟨w2, rfl, rfl⟩
            exact a_next hT (i + 1, w2) [30, 31] rfl rfl ⟨by show i + 1 ≤ fs.length; omega, by show fs.length - (i + 1) < fs.length - i; omega⟩ ⟨rfl, rfl, rfl, Fit.refl _, rfl, rfl, by show Value.int .i64 _ = Value.int .i64 _; rw [hw], trivial⟩ rfl ⟨⟨rfl, rfl, rfl, trivial⟩, ⟨rfl, rfl, rfl, by show _ = (encFs s d (fs.take (i + 1))).map eB; rw [henc, if_pos (by simp [hpk])]⟩, trivial⟩
    · refine a_f hT rfl rfl (decide_eq_false (by show ¬ (i : Int) < (fs.length : Int); omega)) ?_
      have hi : i = fs.length := by omega
      subst hi
      rw [List.take_length] at hel ⊢
      have hus : unk.data.toList.length = unk.size := rfl
      refine a_appS hT 31 _ rfl rfl rfl rfl rfl (by kernel_rfl) rfl rfl rfl rfl rfl (by rw [List.length_map]; unfold lim; omega) fun v1 => ?_
      refine a_ret hT [31] rfl rfl rfl rfl rfl rfl ?_
      exact ⟨v1, rfl, by rw [List.map_append]⟩
  | _ => exact trivial
end Go.Proofs.YtjcolfogmmjaoaaGreatDoor
end

section
set_option linter.unusedVariables false
set_option linter.unusedSimpArgs false
set_option maxRecDepth 100000
set_option maxHeartbeats 2000000
namespace Go.Proofs.YtjcolfogmmjaoaaGreatDoor
open V A
def encA (r : List UInt8 × Int) : AV := .tup [.d (A.bytesD r.1), .v (kI r.2) 0]
theorem fits_msg {s : SchP} {v : VL} {t : Int} (h : fitsTop s v t = true) : ∃ fs u, v = .msg t fs u ∧ formedP s = true ∧ 0 ≤ t ∧ t < s.ms.length ∧ fitsP s v t 1 = true := by
  unfold fitsTop at h
  rw [Bool.and_eq_true, Bool.and_eq_true, Bool.and_eq_true] at h
  obtain ⟨f1, f2, f3, f4⟩ := h
  cases v with
  | msg ty fs u =>
    have hte : ty = t := by
      have f5 := f4
      unfold fitsP at f5
      rw [Bool.and_eq_true, Bool.and_eq_true] at f5
      exact of_decide_eq_true f5.1.1
    subst hte
    exact ⟨fs, u, rfl, f1, of_decide_eq_true f2, of_decide_eq_true f3, f4⟩
  | _ => exact absurd f4 (by unfold fitsP; simp)
theorem Encode_spec {s : SchP} (hz : SzS s) {v : VL} (hv : WfV v) (hw : wtV v ≤ 700000) {t : Int} : FSpec Tryz.prog 23 [schA s, .v (kI t) 0, nd (vlD v)] [u8C] fun a cs => a = encA (encTop s v t) ∧ cs = [u8C] := by
  refine FSpec.le ?_
  have hN := Normal_spec hz hv (t := t)
  unfold encTop
  unfold normA at hN
  refine a_enter hT [schA s, .v (kI t) 0, nd (vlD v)] [60] Tryz.func23 rfl rfl rfl ⟨Fit.refl _, rfl, Fit.refl _, trivial⟩ fun c' => ?_
  cases hfo : fitsTop s v t with
  | false =>
    rw [hfo] at hN
    rw [if_neg (by decide)] at hN ⊢
    refine a_box hT 61 rfl rfl rfl rfl fun g => ?_
    refine a_call hT rfl rfl rfl (by kernel_rfl) hN [60] [60] rfl rfl ?_
    rintro _ _ ⟨rfl, rfl⟩
    refine a_t hT rfl rfl rfl ?_
    refine a_ret hT [60] rfl rfl rfl rfl rfl rfl ?_
    exact ⟨_, Le.tup (.cons le_nil (.cons (Le.refl _) .nil)), rfl, rfl⟩
  | true =>
    rw [hfo] at hN
    rw [if_pos rfl] at hN ⊢
    have hnf := norm_top hfo
    have hnw := norm_wf s v hv
    have hnt := norm_wt s v
    generalize normP s v = w at hN hnf hnw hnt
    obtain ⟨fs, u, rfl, hform, ht0, _, hft⟩ := fits_msg hnf
    have hMu := Must_spec (ty := t) (fs := fs) (u := u)
    have hMe := message_ind (schOk hform) hnw 1 ht0 hft (by omega)
    have hel : (encM s (.msg t fs u)).length + 60 ≤ wtV (.msg t fs u) := encM_len s (.msg t fs u)
    have hbl := bytesD_len (encM s (.msg t fs u))
    generalize encM s (.msg t fs u) = bs at hMe hel hbl
    refine a_box hT 61 rfl rfl rfl rfl fun g => ?_
    refine a_call hT rfl rfl rfl (by kernel_rfl) hN [60] [60] rfl rfl ?_
    rintro _ _ ⟨rfl, rfl⟩
    refine a_f hT rfl rfl rfl ?_
    refine a_draw hT [60] false [(0, false), (1, false), (2, true), (3, true), (4, true)] rfl rfl (by kernel_rfl) (by kernel_rfl) rfl ?_
    refine a_call hT rfl rfl rfl (by kernel_rfl) hMu [] [] rfl rfl ?_
    rintro _ _ ⟨rfl, rfl⟩
    refine a_call hT rfl rfl rfl (by kernel_rfl) hMe [] [] rfl rfl ?_
    rintro _ _ ⟨rfl, rfl⟩
    refine a_if hT rfl rfl (fun h => ?_) (fun h => ?_)
    · have h := of_decide_eq_true h
      refine a_ret hT [60] rfl rfl rfl rfl rfl rfl ?_
      rw [if_pos (by rw [hbl] at h; omega)]
      exact ⟨_, Le.tup (.cons le_nil (.cons (Le.refl _) .nil)), rfl, rfl⟩
    · have h := of_decide_eq_false h
      refine a_ret hT [60] rfl rfl rfl rfl rfl rfl ?_
      rw [if_neg (by rw [hbl] at h; omega)]
      exact ⟨_, Le.refl _, rfl, rfl⟩
end Go.Proofs.YtjcolfogmmjaoaaGreatDoor
end

section
set_option linter.unusedVariables false
set_option linter.unusedSimpArgs false
set_option maxRecDepth 100000
set_option maxHeartbeats 1000000
namespace Go.Proofs.YtjcolfogmmjaoaaGreatDoor
open V A
section
variable {P : Program} {g : Nat} {t : TypeId} {ds : List A.Dat}
theorem sh_int {k : IntKind} (hu : P.underlying t = some (.int k)) (h : ShT P g t ds) : ∃ m, ds = [.v (.int k m)] ∧ (Lit.int k m).wf = true := by
  cases g with
  | zero => unfold ShT at h; exact h.elim
  | succ g => unfold ShT at h; simpa only [hu] using h
theorem sh_bool (hu : P.underlying t = some .bool) (h : ShT P g t ds) : ∃ b, ds = [.v (.bool b)] := by
  cases g with
  | zero => unfold ShT at h; exact h.elim
  | succ g => unfold ShT at h; simpa only [hu] using h
theorem sh_str (hu : P.underlying t = some .string) (h : ShT P g t ds) : ∃ b : ByteArray, ds = [.v (.string b)] ∧ b.size ≤ reachBytes := by
  cases g with
  | zero => unfold ShT at h; exact h.elim
  | succ g => unfold ShT at h; simpa only [hu] using h
theorem sh_sl {e : TypeId} (hu : P.underlying t = some (.slice e)) (h : ShT P g t ds) : ∃ g', g' < g ∧ ∃ xs : List (List A.Dat), ds = [.sl (P.cellsOf e) xs] ∧ xs.length ≤ reachBytes ∧ ∀ x ∈ xs, ShT P g' e x := by
  cases g with
  | zero => unfold ShT at h; exact h.elim
  | succ g => unfold ShT at h; exact ⟨g, Nat.lt_succ_self g, by simpa only [hu] using h⟩
theorem sh_st {fs : Array Field} (hu : P.underlying t = some (.struct fs)) (h : ShT P g t ds) : ∃ g', g' < g ∧ ShF P (ShT P g') fs.toList ds := by
  cases g with
  | zero => unfold ShT at h; exact h.elim
  | succ g => unfold ShT at h; exact ⟨g, Nat.lt_succ_self g, by simpa only [hu] using h⟩
end
theorem rb : reachBytes = reachN := by decide
theorem cNode : Tryz.prog.cellsOf 38 = 7 := by kernel_rfl
theorem cField : Tryz.prog.cellsOf 79 = 2 := by kernel_rfl
theorem nd_of' : ∀ (ds : List A.Dat), Les (ds.map .d) (ds.map nd)
  | [] => .nil
  | d :: ds => .cons nd_of (nd_of' ds)
theorem argT_one {w : World} {d : A.Dat} {v : Value} (h2 : A.VRep no w [d] v.cells.toList) (hf : ∀ cs, v ≠ .agg cs) : A.DRep no w d v := by
  have hc : v.cells = #[v] := by cases v <;> first | rfl | exact absurd rfl (hf _)
  rw [hc] at h2
  unfold A.VRep at h2
  obtain ⟨x, r, e, hd, hr⟩ := h2
  simp at e
  obtain ⟨rfl, _⟩ := e
  exact hd
theorem argT_int {w : World} {t : TypeId} {k : IntKind} {v : Value} (hu : Tryz.prog.underlying t = some (.int k)) (hs : isStruct Tryz.prog t = false) (h : ArgT Tryz.prog w t v) : ∃ m, v = .int k m ∧ (Lit.int k m).wf = true := by
  obtain ⟨⟨g, ds, h1, h2⟩, h3⟩ := h
  obtain ⟨m, rfl, hm⟩ := sh_int hu h1
  have := argT_one h2 (h3.2 hs)
  unfold A.DRep at this
  exact ⟨m, this.1, hm⟩
end Go.Proofs.YtjcolfogmmjaoaaGreatDoor
end

section
set_option linter.unusedVariables false
set_option linter.unusedSimpArgs false
set_option maxRecDepth 100000
set_option maxHeartbeats 1000000
namespace Go.Proofs.YtjcolfogmmjaoaaGreatDoor
open V A
inductive RgN : ND → Prop
  | mk {k n u : Int} {b : Bool} {s : ByteArray} {t : Int} {fs : List NF} : I64 k → I64 n → U64 u → I64 t → (∀ num vs, NF.mk num vs ∈ fs → I64 num) → (∀ num vs x, NF.mk num vs ∈ fs → x ∈ vs → RgN x) → RgN (.mk k n u b s t fs)
theorem wf_i64 {m : Int} (h : (Lit.int .i64 m).wf = true) : I64 m := by
  simp [Lit.wf, IntKind.min, IntKind.max, IntKind.bits, IntKind.signed] at h
  unfold I64; omega
theorem wf_u64 {m : Int} (h : (Lit.int .u64 m).wf = true) : U64 m := by
  simp [Lit.wf, IntKind.min, IntKind.max, IntKind.bits, IntKind.signed] at h
  unfold U64; omega
theorem listQ {α : Type} {e : α → List A.Dat} {Q : α → Prop} : ∀ {xs : List (List A.Dat)}, (∀ x ∈ xs, ∃ y, x = e y ∧ Q y) → ∃ ys : List α, xs = ys.map e ∧ ∀ y ∈ ys, Q y
  | [], _ => ⟨[], rfl, by simp⟩
  | x :: xs, h => by
    obtain ⟨y, e1, hy⟩ := h x (by simp)
    obtain ⟨ys, e2, hys⟩ := listQ (xs := xs) fun x hx => h x (by simp [hx])
    refine ⟨y :: ys, by rw [e1, e2]; rfl, fun z hz => ?_⟩
    rcases List.mem_cons.1 hz with rfl | hz
    · exact hy
    · exact hys z hz
theorem sh_nfR {g : Nat} (ih : ∀ g', g' < g → ∀ ds, ShT Tryz.prog g' 38 ds → ∃ x, ds = ndD x ∧ BdN x ∧ RgN x) {ds : List A.Dat} (h : ShT Tryz.prog g 79 ds) : ∃ f : NF, ds = nfD f ∧ ∀ num vs, f = .mk num vs → vs.length ≤ reachN ∧ I64 num ∧ ∀ y ∈ vs, BdN y ∧ RgN y := by
  obtain ⟨g1, hg1, h⟩ := sh_st Tryz.underlying79 h
  obtain ⟨a0, r, rfl, h0, h⟩ := h
  obtain ⟨a1, r, rfl, h1, h⟩ := h
  have h : r = [] := h
  subst h
  obtain ⟨num, rfl, hnum⟩ := sh_int Tryz.underlying3 h0
  obtain ⟨g2, hg2, xs, rfl, hl, hx⟩ := sh_sl Tryz.underlying77 h1
  obtain ⟨ys, rfl, hy⟩ := listQ (e := ndD) (Q := fun x => BdN x ∧ RgN x) fun x hx' => ih g2 (by omega) x (hx x hx')
  rw [cNode]
  refine ⟨.mk num ys, by unfold nfD; rw [ndsD_map]; rfl, fun n2 v2 e => ?_⟩
  cases e
  exact ⟨by rw [← rb]; rw [List.length_map] at hl; exact hl, wf_i64 hnum, hy⟩
theorem sh_ndR : ∀ (g : Nat) (ds : List A.Dat), ShT Tryz.prog g 38 ds → ∃ x, ds = ndD x ∧ BdN x ∧ RgN x := by
  intro g
  induction g using Nat.strongRecOn with
  | _ g ih =>
  intro ds h
  obtain ⟨g1, hg1, h⟩ := sh_st Tryz.underlying38 h
  obtain ⟨a0, r, rfl, h0, h⟩ := h
  obtain ⟨a1, r, rfl, h1, h⟩ := h
  obtain ⟨a2, r, rfl, h2, h⟩ := h
  obtain ⟨a3, r, rfl, h3, h⟩ := h
  obtain ⟨a4, r, rfl, h4, h⟩ := h
  obtain ⟨a5, r, rfl, h5, h⟩ := h
  obtain ⟨a6, r, rfl, h6, h⟩ := h
  have h : r = [] := h
  subst h
  obtain ⟨k, rfl, hk⟩ := sh_int Tryz.underlying3 h0
  obtain ⟨n, rfl, hn⟩ := sh_int Tryz.underlying2 h1
  obtain ⟨u, rfl, hu⟩ := sh_int Tryz.underlying35 h2
  obtain ⟨b, rfl⟩ := sh_bool Tryz.underlying4 h3
  obtain ⟨s, rfl, hs⟩ := sh_str Tryz.underlying9 h4
  obtain ⟨t, rfl, ht⟩ := sh_int Tryz.underlying3 h5
  obtain ⟨g2, hg2, xs, rfl, hl, hx⟩ := sh_sl Tryz.underlying36 h6
  obtain ⟨fs, rfl, hf⟩ := listQ (e := nfD) fun x hx' => sh_nfR (fun g' hg' => ih g' (by omega)) (hx x hx')
  rw [cField]
  refine ⟨.mk k n u b s t fs, by unfold ndD; rw [nfsD_map]; rfl, ?_, ?_⟩
  · exact .mk (by rw [← rb]; exact hs) (by rw [← rb]; rw [List.length_map] at hl; exact hl) (fun num vs hm => (hf _ hm num vs rfl).1) (fun num vs x hm hx => ((hf _ hm num vs rfl).2.2 x hx).1)
  · exact .mk (wf_i64 hk) (wf_i64 hn) (wf_u64 hu) (wf_i64 ht) (fun num vs hm => (hf _ hm num vs rfl).2.1) (fun num vs x hm hx => ((hf _ hm num vs rfl).2.2 x hx).2)
theorem argT_ndR {w : World} {v : Value} (h : ArgT Tryz.prog w 38 v) : ∃ x, Rep no w (ndA x) v ∧ BdN x ∧ RgN x := by
  obtain ⟨⟨g, ds, h1, h2⟩, h3⟩ := h
  obtain ⟨x, rfl, hx⟩ := sh_ndR g ds h1
  refine ⟨x, ?_, hx⟩
  rw [h3.1 (by kernel_rfl)]
  unfold ndA
  have := (nd_of' (ndD x)).reps (Reps.ofV h2)
  unfold Rep
  exact ⟨_, by simp, this, h2.one⟩
structure BdS (s : SchP) : Prop where
  ms : s.ms.length ≤ reachN
  es : s.es.length ≤ reachN
  mts : s.mts.length ≤ reachN
  m : ∀ m ∈ s.ms, m.name.size ≤ reachN ∧ m.fs.length ≤ reachN ∧ ∀ f ∈ m.fs, f.name.size ≤ reachN ∧ I64 f.num ∧ I64 f.kind ∧ I64 f.ty
  e : ∀ e ∈ s.es, e.name.size ≤ reachN ∧ e.vs.length ≤ reachN ∧ ∀ v ∈ e.vs, v.name.size ≤ reachN ∧ I64 v.num
  t : ∀ t ∈ s.mts, t.svc.size ≤ reachN ∧ t.name.size ≤ reachN ∧ I64 t.id ∧ I64 t.inn ∧ I64 t.out
theorem cFD : Tryz.prog.cellsOf 68 = 5 := by kernel_rfl
theorem cMD : Tryz.prog.cellsOf 57 = 2 := by kernel_rfl
theorem cED : Tryz.prog.cellsOf 82 = 2 := by kernel_rfl
theorem cVD : Tryz.prog.cellsOf 84 = 2 := by kernel_rfl
theorem cTD : Tryz.prog.cellsOf 86 = 5 := by kernel_rfl
theorem sh_fd {g : Nat} {ds : List A.Dat} (h : ShT Tryz.prog g 68 ds) : ∃ f : FDP, ds = eF f ∧ f.name.size ≤ reachN ∧ I64 f.num ∧ I64 f.kind ∧ I64 f.ty := by
  obtain ⟨g1, hg1, h⟩ := sh_st Tryz.underlying68 h
  obtain ⟨a0, r, rfl, h0, h⟩ := h
  obtain ⟨a1, r, rfl, h1, h⟩ := h
  obtain ⟨a2, r, rfl, h2, h⟩ := h
  obtain ⟨a3, r, rfl, h3, h⟩ := h
  obtain ⟨a4, r, rfl, h4, h⟩ := h
  have h : r = [] := h
  subst h
  obtain ⟨n, rfl, hn⟩ := sh_int Tryz.underlying3 h0
  obtain ⟨s, rfl, hs⟩ := sh_str Tryz.underlying9 h1
  obtain ⟨k, rfl, hk⟩ := sh_int Tryz.underlying3 h2
  obtain ⟨b, rfl⟩ := sh_bool Tryz.underlying4 h3
  obtain ⟨t, rfl, ht⟩ := sh_int Tryz.underlying3 h4
  exact ⟨⟨n, s, k, b, t⟩, rfl, by rw [← rb]; exact hs, wf_i64 hn, wf_i64 hk, wf_i64 ht⟩
theorem sh_md {g : Nat} {ds : List A.Dat} (h : ShT Tryz.prog g 57 ds) : ∃ m : MDP, ds = eM m ∧ m.name.size ≤ reachN ∧ m.fs.length ≤ reachN ∧ ∀ f ∈ m.fs, f.name.size ≤ reachN ∧ I64 f.num ∧ I64 f.kind ∧ I64 f.ty := by
  obtain ⟨g1, hg1, h⟩ := sh_st Tryz.underlying57 h
  obtain ⟨a0, r, rfl, h0, h⟩ := h
  obtain ⟨a1, r, rfl, h1, h⟩ := h
  have h : r = [] := h
  subst h
  obtain ⟨s, rfl, hs⟩ := sh_str Tryz.underlying9 h0
  obtain ⟨g2, hg2, xs, rfl, hl, hx⟩ := sh_sl Tryz.underlying55 h1
  obtain ⟨fs, rfl, hf⟩ := listQ fun x hx' => sh_fd (hx x hx')
  rw [cFD]
  exact ⟨⟨s, fs⟩, rfl, by rw [← rb]; exact hs, by rw [← rb]; rw [List.length_map] at hl; exact hl, hf⟩
theorem sh_vd {g : Nat} {ds : List A.Dat} (h : ShT Tryz.prog g 84 ds) : ∃ v : VDP, ds = eVd v ∧ v.name.size ≤ reachN ∧ I64 v.num := by
  obtain ⟨g1, hg1, h⟩ := sh_st Tryz.underlying84 h
  obtain ⟨a0, r, rfl, h0, h⟩ := h
  obtain ⟨a1, r, rfl, h1, h⟩ := h
  have h : r = [] := h
  subst h
  obtain ⟨s, rfl, hs⟩ := sh_str Tryz.underlying9 h0
  obtain ⟨n, rfl, hn⟩ := sh_int Tryz.underlying3 h1
  exact ⟨⟨s, n⟩, rfl, by rw [← rb]; exact hs, wf_i64 hn⟩
theorem sh_ed {g : Nat} {ds : List A.Dat} (h : ShT Tryz.prog g 82 ds) : ∃ e : EDP, ds = eE e ∧ e.name.size ≤ reachN ∧ e.vs.length ≤ reachN ∧ ∀ v ∈ e.vs, v.name.size ≤ reachN ∧ I64 v.num := by
  obtain ⟨g1, hg1, h⟩ := sh_st Tryz.underlying82 h
  obtain ⟨a0, r, rfl, h0, h⟩ := h
  obtain ⟨a1, r, rfl, h1, h⟩ := h
  have h : r = [] := h
  subst h
  obtain ⟨s, rfl, hs⟩ := sh_str Tryz.underlying9 h0
  obtain ⟨g2, hg2, xs, rfl, hl, hx⟩ := sh_sl Tryz.underlying80 h1
  obtain ⟨vs, rfl, hf⟩ := listQ fun x hx' => sh_vd (hx x hx')
  rw [cVD]
  exact ⟨⟨s, vs⟩, rfl, by rw [← rb]; exact hs, by rw [← rb]; rw [List.length_map] at hl; exact hl, hf⟩
theorem sh_td {g : Nat} {ds : List A.Dat} (h : ShT Tryz.prog g 86 ds) : ∃ t : MtP, ds = eT t ∧ t.svc.size ≤ reachN ∧ t.name.size ≤ reachN ∧ I64 t.id ∧ I64 t.inn ∧ I64 t.out := by
  obtain ⟨g1, hg1, h⟩ := sh_st Tryz.underlying86 h
  obtain ⟨a0, r, rfl, h0, h⟩ := h
  obtain ⟨a1, r, rfl, h1, h⟩ := h
  obtain ⟨a2, r, rfl, h2, h⟩ := h
  obtain ⟨a3, r, rfl, h3, h⟩ := h
  obtain ⟨a4, r, rfl, h4, h⟩ := h
  have h : r = [] := h
  subst h
  obtain ⟨n, rfl, hn⟩ := sh_int Tryz.underlying3 h0
  obtain ⟨s, rfl, hs⟩ := sh_str Tryz.underlying9 h1
  obtain ⟨s2, rfl, hs2⟩ := sh_str Tryz.underlying9 h2
  obtain ⟨k, rfl, hk⟩ := sh_int Tryz.underlying3 h3
  obtain ⟨t, rfl, ht⟩ := sh_int Tryz.underlying3 h4
  exact ⟨⟨n, s, s2, k, t⟩, rfl, by rw [← rb]; exact hs, by rw [← rb]; exact hs2, wf_i64 hn, wf_i64 hk, wf_i64 ht⟩
theorem sh_sch {g : Nat} {ds : List A.Dat} (h : ShT Tryz.prog g 26 ds) : ∃ s : SchP, ds = schD s ∧ BdS s := by
  obtain ⟨g1, hg1, h⟩ := sh_st Tryz.underlying26 h
  obtain ⟨a0, r, rfl, h0, h⟩ := h
  obtain ⟨a1, r, rfl, h1, h⟩ := h
  obtain ⟨a2, r, rfl, h2, h⟩ := h
  have h : r = [] := h
  subst h
  obtain ⟨g2, hg2, xs, rfl, hl, hx⟩ := sh_sl Tryz.underlying22 h0
  obtain ⟨ms, rfl, hm⟩ := listQ fun x hx' => sh_md (hx x hx')
  obtain ⟨g3, hg3, xs, rfl, hl2, hx⟩ := sh_sl Tryz.underlying23 h1
  obtain ⟨es, rfl, he⟩ := listQ fun x hx' => sh_ed (hx x hx')
  obtain ⟨g4, hg4, xs, rfl, hl3, hx⟩ := sh_sl Tryz.underlying24 h2
  obtain ⟨ts, rfl, ht⟩ := listQ fun x hx' => sh_td (hx x hx')
  rw [cMD, cED, cTD]
  rw [List.length_map, rb] at hl hl2 hl3
  exact ⟨⟨ms, es, ts⟩, rfl, hl, hl2, hl3, hm, he, ht⟩
theorem argT_sch {w : World} {v : Value} (h : ArgT Tryz.prog w 26 v) : ∃ s, Rep no w (schA s) v ∧ BdS s := by
  obtain ⟨⟨g, ds, h1, h2⟩, h3⟩ := h
  obtain ⟨x, rfl, hx⟩ := sh_sch h1
  refine ⟨x, ?_, hx⟩
  rw [h3.1 (by kernel_rfl)]
  unfold schA
  have := (nd_of' (schD x)).reps (Reps.ofV h2)
  unfold Rep
  exact ⟨_, by simp, this, h2.one⟩
theorem tdiv_ge (n : Nat) : (n : Int) ≤ 100 * Int.tdiv (n : Int) 100 + 99 := by
  rw [Int.tdiv_eq_ediv_of_nonneg (by omega)]
  omega
mutual
theorem wt_small : ∀ (x : ND) (d l : Int), 0 ≤ smallP x d l → (wtV (theirsP x) : Int) + 200 * smallP x d l ≤ 200 * l
  | .mk k n u b s t fs, d, l, h => by
    have ht := tdiv100 s.size
    have hg := tdiv_ge s.size
    unfold smallP at h ⊢
    split at h
    · omega
    · rename_i hc
      rw [if_neg hc]
      have hf := wtFs_small fs d _ h
      unfold theirsP
      have hle := smallFs_le fs d _ h
      repeat' split
      all_goals first
        | (rw [wtV_msg]; omega)
        | (unfold wtV; omega)
theorem wtFs_small : ∀ (fs : List NF) (d l : Int), 0 ≤ smallFs fs d l → (wtFs (theirsFs fs) : Int) + 200 * smallFs fs d l ≤ 200 * l
  | [], d, l, h => by unfold theirsFs smallFs wtFs; simp
  | .mk num vs :: fs, d, l, h => by
    unfold smallFs at h ⊢
    unfold smallF at h ⊢
    unfold theirsFs theirsF
    rw [wtFs_cons, wtF_mk]
    split at h
    · omega
    · rename_i l' e
      have h1 := wtVs_small vs (d + 1) (l - 1) l' e
      have h2 := wtFs_small fs d l' h
      omega
theorem wtVs_small : ∀ (vs : List ND) (d l l' : Int), smallVs vs d l = some l' → (wtVs (theirsVs vs) : Int) + 200 * l' ≤ 200 * l
  | [], d, l, l', h => by unfold smallVs at h; cases h; unfold theirsVs wtVs; simp
  | x :: xs, d, l, l', h => by
    unfold smallVs at h
    split at h
    · cases h
    · rename_i hc
      have h1 := wt_small x d l (by omega)
      have h2 := wtVs_small xs d _ l' h
      unfold theirsVs
      rw [wtVs_cons]
      omega
end
mutual
theorem wf_theirs : ∀ (x : ND), RgN x → OkN x → wtV (theirsP x) ≤ 100000 → WfV (theirsP x)
  | .mk k n u b s t fs, hr, ho, hw => by
    cases hr with
    | mk h1 h2 h3 h4 h5 h6 =>
    cases ho with
    | mk o1 o2 o3 =>
    have h32 := wrap32b n
    unfold theirsP at hw ⊢
    split
    · exact .int _ h2
    split
    · exact .uint _ h3
    split
    · exact .bool _
    split
    · rename_i hh1 hh2 hh3 hh4
      rw [if_neg hh1, if_neg hh2, if_neg hh3, if_pos hh4] at hw
      unfold wtV at hw
      exact .text _ (by omega)
    split
    · rename_i hh1 hh2 hh3 hh4 hh5
      rw [if_neg hh1, if_neg hh2, if_neg hh3, if_neg hh4, if_pos hh5] at hw
      unfold wtV at hw
      exact .bytes _ (by omega)
    split
    · exact .enum _ h32.1 h32.2
    split
    · rename_i hh1 hh2 hh3 hh4 hh5 hh6 hh7
      rw [if_neg hh1, if_neg hh2, if_neg hh3, if_neg hh4, if_neg hh5, if_neg hh6, if_pos hh7, wtV_msg] at hw
      refine .msg (by rw [theirsFs_map, List.length_map]; exact o1) (fun num vs hm => ?_) (fun num vs hm => ?_) (by omega) (fun num vs x hm hx => ?_)
      · rw [theirsFs_map] at hm
        obtain ⟨f, hf, he⟩ := List.mem_map.1 hm
        obtain ⟨num', vs'⟩ := f
        unfold theirsF at he
        cases he
        rw [theirsVs_map, List.length_map]
        exact o2 _ _ hf
      · rw [theirsFs_map] at hm
        obtain ⟨f, hf, he⟩ := List.mem_map.1 hm
        obtain ⟨num', vs'⟩ := f
        unfold theirsF at he
        cases he
        exact h5 _ _ hf
      · exact wfFs_theirs fs h6 o3 (by omega) num vs x hm hx
    · exact .none
theorem wfFs_theirs : ∀ (fs : List NF), (∀ num vs x, NF.mk num vs ∈ fs → x ∈ vs → RgN x) → (∀ num vs x, NF.mk num vs ∈ fs → x ∈ vs → OkN x) → wtFs (theirsFs fs) ≤ 100000 → ∀ num vs x, VF.mk num vs ∈ theirsFs fs → x ∈ vs → WfV x
  | [], _, _, _, num, vs, x, hm, hx => by unfold theirsFs at hm; simp at hm
  | .mk n' vs' :: fs, h1, h2, hw, num, vs, x, hm, hx => by
    unfold theirsFs at hm hw
    unfold theirsF at hm hw
    rw [wtFs_cons, wtF_mk] at hw
    rcases List.mem_cons.1 hm with he | hm
    · cases he
      exact wfVs_theirs vs' (fun x hx => h1 n' vs' x (by simp) hx) (fun x hx => h2 n' vs' x (by simp) hx) (by omega) x hx
    · exact wfFs_theirs fs (fun num vs x hm hx => h1 num vs x (by simp [hm]) hx) (fun num vs x hm hx => h2 num vs x (by simp [hm]) hx) (by omega) num vs x hm hx
theorem wfVs_theirs : ∀ (vs : List ND), (∀ x ∈ vs, RgN x) → (∀ x ∈ vs, OkN x) → wtVs (theirsVs vs) ≤ 100000 → ∀ x ∈ theirsVs vs, WfV x
  | [], _, _, _, x, hx => by unfold theirsVs at hx; simp at hx
  | y :: vs, h1, h2, hw, x, hx => by
    unfold theirsVs at hx hw
    rw [wtVs_cons] at hw
    rcases List.mem_cons.1 hx with rfl | hx
    · exact wf_theirs y (h1 y (by simp)) (h2 y (by simp)) (by omega)
    · exact wfVs_theirs vs (fun x hx => h1 x (by simp [hx])) (fun x hx => h2 x (by simp [hx])) (by omega) x hx
end
end Go.Proofs.YtjcolfogmmjaoaaGreatDoor
end

section
set_option linter.unusedVariables false
set_option linter.unusedSimpArgs false
set_option maxRecDepth 100000
set_option maxHeartbeats 2000000
namespace Go.Proofs.YtjcolfogmmjaoaaGreatDoor
open V A
structure SmM (m : MDP) : Prop where
  fl : m.fs.length ≤ 2000
  nm : m.name.size ≤ 3000
  fn : ∀ f ∈ m.fs, f.name.size ≤ 3000
structure SmE (e : EDP) : Prop where
  vl : e.vs.length ≤ 2000
  nm : e.name.size ≤ 3000
  vn : ∀ v ∈ e.vs, v.name.size ≤ 3000
def SmT (t : MtP) : Prop := t.svc.size ≤ 3000 ∧ t.name.size ≤ 3000
theorem take_mem {α : Type} {l : List α} {i : Nat} {Q : α → Prop} {x : α} (htk : l.take (i + 1) = l.take i ++ [x]) (h : ∀ y ∈ l.take i, Q y) (hx : Q x) : ∀ y ∈ l.take (i + 1), Q y := by
  intro y hy
  rw [htk] at hy
  rcases List.mem_append.1 hy with hy | hy
  · exact h y hy
  · simp at hy; subst hy; exact hx
theorem SmallS_spec {s : SchP} (hb : BdS s) : FSpec Tryz.prog 14 [schA s] [] fun a cs => (∃ b, a = bA b ∧ (b = true → SzS s)) ∧ cs = [] := by
  have hr : reachN = 140737488351232 := rfl
  have b1 := hb.ms
  have b2 := hb.es
  have b3 := hb.mts
  have l1 : (s.ms.map eM).length = s.ms.length := List.length_map _
  have l2 : (s.es.map eE).length = s.es.length := List.length_map _
  have l3 : (s.mts.map eT).length = s.mts.length := List.length_map _
  refine a_enter hT [schA s] [] Tryz.func14 rfl rfl rfl ⟨Fit.refl _, trivial⟩ fun c' => ?_
  refine a_box hT 20 rfl rfl rfl rfl fun g => ?_
  refine a_freezeK 1 20 rfl rfl rfl rfl rfl ?_
  refine a_loop hT [1, 3, 22, 23] (fun x : Nat × Int => [.d (.p (schD s)), .v (kI x.2) 0, .v (kI s.ms.length) 0, .v (kI x.1) 0]) (fun _ => []) (fun x => x.1 ≤ s.ms.length ∧ (s.ms.length : Int) + s.es.length + s.mts.length ≤ x.2 ∧ x.2 ≤ 3 * reachN + 2000 ∧ ∀ m ∈ s.ms.take x.1, SmM m) (fun x => s.ms.length - x.1) (0, (s.ms.length : Int) + s.es.length + s.mts.length) [] rfl rfl ⟨Nat.zero_le _, by dsimp only; omega, by dsimp only; omega, by simp⟩ ⟨rfl, by show Value.int .i64 (IntKind.i64.wrap (IntKind.i64.wrap (((s.ms.map eM).length : Int) + ((s.es.map eE).length : Int)) + ((s.mts.map eT).length : Int))) = _; rw [l1, l2, l3, w64 (x := (s.ms.length : Int) + s.es.length) (by omega) (by omega), w64 (by omega) (by omega)]; rfl, by rw [← l1]; rfl, rfl, trivial⟩ rfl trivial ?_
  rintro ⟨i, n⟩ ⟨i1, i2, i3, i4⟩
  dsimp only at i1 i2 i3 i4
  have hw := wN i (by omega)
  rcases Nat.lt_or_ge i s.ms.length with hil | hil
  · have hat : (s.ms.map eM)[(i : Int).toNat]? = some (eM s.ms[i]) := by rw [Int.toNat_natCast, List.getElem?_map, List.getElem?_eq_getElem hil]; rfl
    have hmem := List.getElem_mem hil
    have htk : s.ms.take (i + 1) = s.ms.take i ++ [s.ms[i]] := List.take_succ_eq_append_getElem hil
    generalize s.ms[i] = m at hat hmem htk
    have hbm := hb.m m hmem
    have lf : (m.fs.map eF).length = m.fs.length := List.length_map _
    refine a_t hT rfl rfl (decide_eq_true (by show (i : Int) < (s.ms.length : Int); omega)) ?_
    refine a_ix hT _ rfl rfl rfl rfl rfl rfl (by first | omega | assumption) (by first | assumption | rfl) ?_
    refine a_g hT rfl rfl rfl (fun h => ?_) (fun h => ?_)
    · have h := of_decide_eq_true h
      refine a_t hT rfl rfl rfl ?_
      refine a_ret hT [] rfl rfl rfl rfl rfl rfl ?_
      exact ⟨⟨false, rfl, fun h => by cases h⟩, rfl⟩
    · have h := of_decide_eq_false h
      refine a_ix hT _ rfl rfl rfl rfl rfl rfl (by first | omega | assumption) (by first | assumption | rfl) ?_
      refine a_if hT rfl rfl (fun h1 => ?_) (fun h1 => ?_)
      · have h1 := of_decide_eq_true h1
        refine a_ret hT [] rfl rfl rfl rfl rfl rfl ?_
        exact ⟨⟨false, rfl, fun h => by cases h⟩, rfl⟩
      · have h1 := of_decide_eq_false h1
        refine a_ix hT _ rfl rfl rfl rfl rfl rfl (by first | omega | assumption) (by first | assumption | rfl) ?_
        have hwn : IntKind.i64.wrap (n + ((m.fs.map eF).length : Int)) = n + m.fs.length := by rw [lf, w64 (by omega) (by omega)]
        have hn1 : n + (m.fs.length : Int) ≤ 2000 := by
          have h : ¬ IntKind.i64.wrap (n + ((m.fs.map eF).length : Int)) > 2000 := h
          rw [hwn] at h; omega
        have hnm : m.name.size ≤ 3000 := by have h1 : ¬ (m.name.size : Int) > 3000 := h1; omega
        refine a_loop hT [1, 3, 4, 22, 23, 53, 54] (fun j : Nat × Unit => [.d (.p (schD s)), .v (kI (n + m.fs.length)) 0, .v (kI i) 0, .v (kI s.ms.length) 0, .v (kI i) 0, .v (kI m.fs.length) 0, .v (kI j.1) 0]) (fun _ => []) (fun j => j.1 ≤ m.fs.length ∧ ∀ f ∈ m.fs.take j.1, f.name.size ≤ 3000) (fun j => m.fs.length - j.1) (0, ()) [] rfl rfl ⟨Nat.zero_le _, by simp⟩ ⟨rfl, by show Value.int .i64 (IntKind.i64.wrap (n + ((m.fs.map eF).length : Int))) = _; rw [lf, w64 (by omega) (by omega)]; rfl, rfl, rfl, rfl, by rw [← lf]; rfl, rfl, trivial⟩ rfl trivial ?_
        rintro ⟨j, _⟩ ⟨j1, j2⟩
        dsimp only at j1 j2
        have hwj := wN j (by omega)
        rcases Nat.lt_or_ge j m.fs.length with hjl | hjl
        · have hatj : (m.fs.map eF)[(j : Int).toNat]? = some (eF m.fs[j]) := by rw [Int.toNat_natCast, List.getElem?_map, List.getElem?_eq_getElem hjl]; rfl
          have htj : m.fs.take (j + 1) = m.fs.take j ++ [m.fs[j]] := List.take_succ_eq_append_getElem hjl
          generalize m.fs[j] = f at hatj htj
          refine a_t hT rfl rfl (decide_eq_true (by show (j : Int) < (m.fs.length : Int); omega)) ?_
          refine a_ix hT _ rfl rfl rfl rfl rfl rfl (by omega) hat ?_
          refine a_ix hT _ rfl rfl rfl rfl rfl rfl (by omega) hatj ?_
          refine a_if hT rfl rfl (fun h2 => ?_) (fun h2 => ?_)
          · refine a_ret hT [] rfl rfl rfl rfl rfl rfl ?_
            exact ⟨⟨false, rfl, fun h => by cases h⟩, rfl⟩
          · have h2 : ¬ (f.name.size : Int) > 3000 := of_decide_eq_false h2
            exact a_next hT (j + 1, ()) [] rfl rfl ⟨⟨by show j + 1 ≤ m.fs.length; omega, take_mem htj j2 (by omega)⟩, by show m.fs.length - (j + 1) < m.fs.length - j; omega⟩ ⟨rfl, rfl, rfl, rfl, rfl, rfl, by show Value.int .i64 _ = Value.int .i64 _; rw [hwj], trivial⟩ rfl trivial
        · refine a_f hT rfl rfl (decide_eq_false (by show ¬ (j : Int) < (m.fs.length : Int); omega)) ?_
          have hj : j = m.fs.length := by omega
          subst hj
          rw [List.take_length] at j2
          exact a_next hT (i + 1, n + m.fs.length) [] rfl rfl ⟨⟨by show i + 1 ≤ s.ms.length; omega, by dsimp only; omega, by dsimp only; omega, take_mem htk i4 ⟨by omega, hnm, j2⟩⟩, by show s.ms.length - (i + 1) < s.ms.length - i; omega⟩ ⟨rfl, rfl, rfl, by show Value.int .i64 _ = Value.int .i64 _; rw [hw], trivial⟩ rfl trivial
  · refine a_f hT rfl rfl (decide_eq_false (by show ¬ (i : Int) < (s.ms.length : Int); omega)) ?_
    have hi : i = s.ms.length := by omega
    subst hi
    rw [List.take_length] at i4
    refine a_loop hT [1, 3, 73, 74] (fun x : Nat × Int => [.d (.p (schD s)), .v (kI x.2) 0, .v (kI s.es.length) 0, .v (kI x.1) 0]) (fun _ => []) (fun x => x.1 ≤ s.es.length ∧ (s.ms.length : Int) + s.es.length + s.mts.length ≤ x.2 ∧ x.2 ≤ 3 * reachN + 2000 ∧ ∀ m ∈ s.es.take x.1, SmE m) (fun x => s.es.length - x.1) (0, n) [] rfl rfl ⟨Nat.zero_le _, i2, i3, by simp⟩ ⟨rfl, rfl, by rw [← l2]; rfl, rfl, trivial⟩ rfl trivial ?_
    rintro ⟨i, n⟩ ⟨i1, i2, i3, e4⟩
    dsimp only at i1 i2 i3 e4
    have hw := wN i (by omega)
    rcases Nat.lt_or_ge i s.es.length with hil | hil
    · have hat : (s.es.map eE)[(i : Int).toNat]? = some (eE s.es[i]) := by rw [Int.toNat_natCast, List.getElem?_map, List.getElem?_eq_getElem hil]; rfl
      have hmem := List.getElem_mem hil
      have htk : s.es.take (i + 1) = s.es.take i ++ [s.es[i]] := List.take_succ_eq_append_getElem hil
      generalize s.es[i] = m at hat hmem htk
      have hbm := hb.e m hmem
      have lf : (m.vs.map eVd).length = m.vs.length := List.length_map _
      refine a_t hT rfl rfl (decide_eq_true (by show (i : Int) < (s.es.length : Int); omega)) ?_
      refine a_ix hT _ rfl rfl rfl rfl rfl rfl (by first | omega | assumption) (by first | assumption | rfl) ?_
      refine a_g hT rfl rfl rfl (fun h => ?_) (fun h => ?_)
      · have h := of_decide_eq_true h
        refine a_t hT rfl rfl rfl ?_
        refine a_ret hT [] rfl rfl rfl rfl rfl rfl ?_
        exact ⟨⟨false, rfl, fun h => by cases h⟩, rfl⟩
      · have h := of_decide_eq_false h
        refine a_ix hT _ rfl rfl rfl rfl rfl rfl (by first | omega | assumption) (by first | assumption | rfl) ?_
        refine a_if hT rfl rfl (fun h1 => ?_) (fun h1 => ?_)
        · have h1 := of_decide_eq_true h1
          refine a_ret hT [] rfl rfl rfl rfl rfl rfl ?_
          exact ⟨⟨false, rfl, fun h => by cases h⟩, rfl⟩
        · have h1 := of_decide_eq_false h1
          refine a_ix hT _ rfl rfl rfl rfl rfl rfl (by first | omega | assumption) (by first | assumption | rfl) ?_
          have hwn : IntKind.i64.wrap (n + ((m.vs.map eVd).length : Int)) = n + m.vs.length := by rw [lf, w64 (by omega) (by omega)]
          have hn1 : n + (m.vs.length : Int) ≤ 2000 := by
            have h : ¬ IntKind.i64.wrap (n + ((m.vs.map eVd).length : Int)) > 2000 := h
            rw [hwn] at h; omega
          have hnm : m.name.size ≤ 3000 := by have h1 : ¬ (m.name.size : Int) > 3000 := h1; omega
          refine a_loop hT [1, 3, 6, 73, 74, 104, 105] (fun j : Nat × Unit => [.d (.p (schD s)), .v (kI (n + m.vs.length)) 0, .v (kI i) 0, .v (kI s.es.length) 0, .v (kI i) 0, .v (kI m.vs.length) 0, .v (kI j.1) 0]) (fun _ => []) (fun j => j.1 ≤ m.vs.length ∧ ∀ f ∈ m.vs.take j.1, f.name.size ≤ 3000) (fun j => m.vs.length - j.1) (0, ()) [] rfl rfl ⟨Nat.zero_le _, by simp⟩ ⟨rfl, by show Value.int .i64 (IntKind.i64.wrap (n + ((m.vs.map eVd).length : Int))) = _; rw [lf, w64 (by omega) (by omega)]; rfl, rfl, rfl, rfl, by rw [← lf]; rfl, rfl, trivial⟩ rfl trivial ?_
          rintro ⟨j, _⟩ ⟨j1, j2⟩
          dsimp only at j1 j2
          have hwj := wN j (by omega)
          rcases Nat.lt_or_ge j m.vs.length with hjl | hjl
          · have hatj : (m.vs.map eVd)[(j : Int).toNat]? = some (eVd m.vs[j]) := by rw [Int.toNat_natCast, List.getElem?_map, List.getElem?_eq_getElem hjl]; rfl
            have htj : m.vs.take (j + 1) = m.vs.take j ++ [m.vs[j]] := List.take_succ_eq_append_getElem hjl
            generalize m.vs[j] = f at hatj htj
            refine a_t hT rfl rfl (decide_eq_true (by show (j : Int) < (m.vs.length : Int); omega)) ?_
            refine a_ix hT _ rfl rfl rfl rfl rfl rfl (by omega) hat ?_
            refine a_ix hT _ rfl rfl rfl rfl rfl rfl (by omega) hatj ?_
            refine a_if hT rfl rfl (fun h2 => ?_) (fun h2 => ?_)
            · refine a_ret hT [] rfl rfl rfl rfl rfl rfl ?_
              exact ⟨⟨false, rfl, fun h => by cases h⟩, rfl⟩
            · have h2 : ¬ (f.name.size : Int) > 3000 := of_decide_eq_false h2
              exact a_next hT (j + 1, ()) [] rfl rfl ⟨⟨by show j + 1 ≤ m.vs.length; omega, take_mem htj j2 (by omega)⟩, by show m.vs.length - (j + 1) < m.vs.length - j; omega⟩ ⟨rfl, rfl, rfl, rfl, rfl, rfl, by show Value.int .i64 _ = Value.int .i64 _; rw [hwj], trivial⟩ rfl trivial
          · refine a_f hT rfl rfl (decide_eq_false (by show ¬ (j : Int) < (m.vs.length : Int); omega)) ?_
            have hj : j = m.vs.length := by omega
            subst hj
            rw [List.take_length] at j2
            exact a_next hT (i + 1, n + m.vs.length) [] rfl rfl ⟨⟨by show i + 1 ≤ s.es.length; omega, by dsimp only; omega, by dsimp only; omega, take_mem htk e4 ⟨by omega, hnm, j2⟩⟩, by show s.es.length - (i + 1) < s.es.length - i; omega⟩ ⟨rfl, rfl, rfl, by show Value.int .i64 _ = Value.int .i64 _; rw [hw], trivial⟩ rfl trivial
    · refine a_f hT rfl rfl (decide_eq_false (by show ¬ (i : Int) < (s.es.length : Int); omega)) ?_
      have hi : i = s.es.length := by omega
      subst hi
      rw [List.take_length] at e4
      refine a_loop hT [1, 3, 124, 125] (fun x : Nat × Unit => [.d (.p (schD s)), .v (kI n) 0, .v (kI s.mts.length) 0, .v (kI x.1) 0]) (fun _ => []) (fun x => x.1 ≤ s.mts.length ∧ ∀ m ∈ s.mts.take x.1, SmT m) (fun x => s.mts.length - x.1) (0, ()) [] rfl rfl ⟨Nat.zero_le _, by simp⟩ ⟨rfl, rfl, by rw [← l3]; rfl, rfl, trivial⟩ rfl trivial ?_
      rintro ⟨i, _⟩ ⟨i1, t4⟩
      dsimp only at i1 t4
      have hw := wN i (by omega)
      rcases Nat.lt_or_ge i s.mts.length with hil | hil
      · have hat : (s.mts.map eT)[(i : Int).toNat]? = some (eT s.mts[i]) := by rw [Int.toNat_natCast, List.getElem?_map, List.getElem?_eq_getElem hil]; rfl
        have htk : s.mts.take (i + 1) = s.mts.take i ++ [s.mts[i]] := List.take_succ_eq_append_getElem hil
        generalize s.mts[i] = m at hat htk
        refine a_t hT rfl rfl (decide_eq_true (by show (i : Int) < (s.mts.length : Int); omega)) ?_
        refine a_g hT rfl rfl rfl (fun h => ?_) (fun h => ?_)
        · have h := of_decide_eq_true h
          refine a_gt hT rfl rfl rfl rfl ?_
          refine a_t hT rfl rfl rfl ?_
          refine a_ret hT [] rfl rfl rfl rfl rfl rfl ?_
          exact ⟨⟨false, rfl, fun h => by cases h⟩, rfl⟩
        · have h := of_decide_eq_false h
          refine a_ix hT _ rfl rfl rfl rfl rfl rfl (by first | omega | assumption) (by first | assumption | rfl) ?_
          refine a_g hT rfl rfl rfl (fun h1 => ?_) (fun h1 => ?_)
          · have h1 := of_decide_eq_true h1
            refine a_t hT rfl rfl rfl ?_
            refine a_ret hT [] rfl rfl rfl rfl rfl rfl ?_
            exact ⟨⟨false, rfl, fun h => by cases h⟩, rfl⟩
          · have h1 := of_decide_eq_false h1
            refine a_ix hT _ rfl rfl rfl rfl rfl rfl (by first | omega | assumption) (by first | assumption | rfl) ?_
            refine a_if hT rfl rfl (fun h2 => ?_) (fun h2 => ?_)
            · have h2 := of_decide_eq_true h2
              refine a_ret hT [] rfl rfl rfl rfl rfl rfl ?_
              exact ⟨⟨false, rfl, fun h => by cases h⟩, rfl⟩
            · have h2 := of_decide_eq_false h2
              exact a_next hT (i + 1, ()) [] rfl rfl ⟨⟨by show i + 1 ≤ s.mts.length; omega, take_mem htk t4 ⟨by first | omega | (rename_i q1 q2; omega), by first | omega | (rename_i q1 q2; omega)⟩⟩, by show s.mts.length - (i + 1) < s.mts.length - i; omega⟩ ⟨rfl, rfl, rfl, by show Value.int .i64 _ = Value.int .i64 _; rw [hw], trivial⟩ rfl trivial
      · refine a_f hT rfl rfl (decide_eq_false (by show ¬ (i : Int) < (s.mts.length : Int); omega)) ?_
        have hi : i = s.mts.length := by omega
        subst hi
        rw [List.take_length] at t4
        refine a_ret hT [] rfl rfl rfl rfl rfl rfl ?_
        exact ⟨⟨decide (n ≤ 2000), rfl, fun h => by
          have h := of_decide_eq_true h
          exact ⟨by omega, by omega, by omega, fun m hm => (i4 m hm).fl, fun e he => (e4 e he).vl, fun m hm => by have := (i4 m hm).nm; omega, fun e he => by have := (e4 e he).nm; omega, fun m hm f hf => by have := (i4 m hm).fn f hf; omega, fun e he v hv => by have := (e4 e he).vn v hv; omega, fun t ht => by have := t4 t ht; unfold SmT at this; omega⟩⟩, rfl⟩
end Go.Proofs.YtjcolfogmmjaoaaGreatDoor
end

section
set_option linter.unusedVariables false
set_option linter.unusedSimpArgs false
set_option maxRecDepth 100000
set_option maxHeartbeats 1000000
namespace Go.Proofs.YtjcolfogmmjaoaaGreatDoor
open V A
def fX : FDP := ⟨1, mkS [120], 1, false, 0⟩
def mX : MDP := ⟨mkS [65], [fX]⟩
def sX : List MDP := [mX]
end Go.Proofs.YtjcolfogmmjaoaaGreatDoor
end

section
set_option linter.unusedVariables false
set_option linter.unusedSimpArgs false
set_option maxRecDepth 100000
set_option maxHeartbeats 2000000
namespace Go.Proofs.YtjcolfogmmjaoaaGreatDoor
open V A
theorem Few_spec {s : SchP} {x : ND} (hb : BdS s) (hx : BdN x) : FSpec Tryz.prog 20 [schA s, ndA x] [] fun a cs => (∃ b, a = bA b ∧ (b = true → SzS s ∧ 0 ≤ smallP x 0 400)) ∧ cs = [] := by
  have h1 := SmallS_spec hb
  have h2 := Small_spec hx
  obtain ⟨xk, xn, xu, xb, xs, xt, xf⟩ := x
  refine a_enter hT [schA s, ndA (.mk xk xn xu xb xs xt xf)] [] Tryz.func20 rfl rfl rfl ⟨Fit.refl _, Fit.refl _, trivial⟩ fun c' => ?_
  refine a_box hT 20 rfl rfl rfl rfl fun g1 => ?_
  refine a_box hT 21 rfl rfl rfl rfl fun g2 => ?_
  refine a_call hT rfl rfl rfl (by kernel_rfl) h1 [] [] rfl rfl ?_
  rintro _ _ ⟨⟨b, rfl, hbb⟩, rfl⟩
  cases b with
  | false =>
    refine a_gf hT rfl rfl rfl rfl ?_
    refine a_ret hT [] rfl rfl rfl rfl rfl rfl ?_
    exact ⟨⟨false, rfl, fun h => by cases h⟩, rfl⟩
  | true =>
    refine a_gt hT rfl rfl rfl rfl ?_
    refine a_call hT rfl rfl rfl (by kernel_rfl) h2 [] [] rfl rfl ?_
    rintro _ _ ⟨rfl, rfl⟩
    refine a_ret hT [] rfl rfl rfl rfl rfl rfl ?_
    exact ⟨⟨_, rfl, fun h => ⟨hbb rfl, of_decide_eq_true h⟩⟩, rfl⟩
def vE : VL := .msg 0 [.mk 1 [.int 150]] .empty
theorem wf_vE : WfV vE := .msg (by decide) (fun num vs h => by simp at h; obtain ⟨rfl, rfl⟩ := h; decide) (fun num vs h => by simp at h; obtain ⟨rfl, rfl⟩ := h; unfold I64; omega) (by decide) (fun num vs x h hx => by simp at h; obtain ⟨rfl, rfl⟩ := h; simp at hx; subst hx; exact .int _ (by unfold I64; omega))
theorem sz_sX : SzS ⟨sX, [], []⟩ := ⟨by decide, by decide, by decide, by decide, by decide, by decide, by decide, by decide, by decide, by decide⟩
theorem enc_vE : encTop ⟨sX, [], []⟩ vE 0 = ([8, 150, 1], 0) := by kernel_rfl
theorem wt_vE : wtV vE ≤ 700000 := by decide +kernel
theorem awake10_spec : FSpec Tryz.prog 19 [] [u8C] fun a cs => a = bA true ∧ cs = [u8C] := by
  have hE := Encode_spec sz_sX wf_vE wt_vE (t := 0)
  rw [enc_vE] at hE
  refine a_enter hT [] [60] Tryz.func19 rfl rfl rfl trivial fun c' => ?_
  refine a_build hT hZ [.v (kI 1) 0, .v (.string (mkS [120])) 0, .v (kI 1) 0, .v (.bool false) 0, .v (kI 0) 0] rfl rfl rfl rfl rfl rfl ?_
  refine a_lit hT 20 rfl rfl rfl rfl (by kernel_rfl) rfl rfl rfl rfl fun x20 => ?_
  refine a_freeze 5 20 rfl rfl rfl rfl ?_
  refine a_build hT hZ [.v (.string (mkS [65])) 0, .d (.sl 5 [eF fX])] rfl rfl rfl rfl rfl rfl ?_
  refine a_lit hT 21 rfl rfl rfl rfl (by kernel_rfl) rfl rfl rfl rfl fun x21 => ?_
  refine a_freeze 7 21 rfl rfl rfl rfl ?_
  refine a_build hT hZ [.d (.sl 2 [eM mX]), .v (.slice none 0 0) 0, .v (.slice none 0 0) 0] rfl rfl rfl rfl rfl rfl ?_
  refine a_new hT hZ 22 rfl rfl rfl rfl fun g => ?_
  refine a_run hT 1 rfl rfl ?_
  refine a_cellL 22 1 (b := .d (.sl 2 [])) rfl rfl rfl le_nil ?_
  refine a_cellL 22 2 (b := .d (.sl 5 [])) rfl rfl rfl le_nil ?_
  first
    | (refine a_run hT 1 rfl rfl ?_; refine a_asL 11 (a := .ifc 89 (.v (kI 150) 0)) (b := .d (vlD (.int 150))) rfl (le_ifcV rfl) ?_)
    | (refine a_run hT 2 rfl rfl ?_; refine a_asL 11 (a := .ifc 89 (.v (kI 150) 0)) (b := .d (vlD (.int 150))) rfl (le_ifcV rfl) ?_)
    | (refine a_run hT 3 rfl rfl ?_; refine a_asL 11 (a := .ifc 89 (.v (kI 150) 0)) (b := .d (vlD (.int 150))) rfl (le_ifcV rfl) ?_)
    | (refine a_run hT 4 rfl rfl ?_; refine a_asL 11 (a := .ifc 89 (.v (kI 150) 0)) (b := .d (vlD (.int 150))) rfl (le_ifcV rfl) ?_)
    | (refine a_run hT 5 rfl rfl ?_; refine a_asL 11 (a := .ifc 89 (.v (kI 150) 0)) (b := .d (vlD (.int 150))) rfl (le_ifcV rfl) ?_)
    | (refine a_run hT 6 rfl rfl ?_; refine a_asL 11 (a := .ifc 89 (.v (kI 150) 0)) (b := .d (vlD (.int 150))) rfl (le_ifcV rfl) ?_)
    | (refine a_run hT 7 rfl rfl ?_; refine a_asL 11 (a := .ifc 89 (.v (kI 150) 0)) (b := .d (vlD (.int 150))) rfl (le_ifcV rfl) ?_)
    | (refine a_run hT 8 rfl rfl ?_; refine a_asL 11 (a := .ifc 89 (.v (kI 150) 0)) (b := .d (vlD (.int 150))) rfl (le_ifcV rfl) ?_)
    | (refine a_run hT 9 rfl rfl ?_; refine a_asL 11 (a := .ifc 89 (.v (kI 150) 0)) (b := .d (vlD (.int 150))) rfl (le_ifcV rfl) ?_)
    | (refine a_run hT 10 rfl rfl ?_; refine a_asL 11 (a := .ifc 89 (.v (kI 150) 0)) (b := .d (vlD (.int 150))) rfl (le_ifcV rfl) ?_)
    | (refine a_run hT 11 rfl rfl ?_; refine a_asL 11 (a := .ifc 89 (.v (kI 150) 0)) (b := .d (vlD (.int 150))) rfl (le_ifcV rfl) ?_)
  refine a_lit hT 23 rfl rfl rfl rfl (by kernel_rfl) rfl rfl rfl rfl fun x23 => ?_
  refine a_freeze 12 23 rfl rfl rfl rfl ?_
  refine a_build hT hZ [.v (kI 1) 0, .d (.sl 1 (vlsD [.int 150]))] rfl rfl rfl rfl rfl rfl ?_
  refine a_lit hT 24 rfl rfl rfl rfl (by kernel_rfl) rfl rfl rfl rfl fun x24 => ?_
  refine a_freeze 14 24 rfl rfl rfl rfl ?_
  refine a_build hT hZ [.v (kI 0) 0, .d (.sl 2 (vfsD [.mk 1 [.int 150]])), .v (.string .empty) 0] rfl rfl rfl rfl rfl rfl ?_
  refine a_run hT 1 rfl rfl ?_
  refine a_asL 16 (b := .d (vlD vE)) rfl (le_ifcA rfl) ?_
  refine a_call hT rfl rfl rfl (by kernel_rfl) hE [60] [60] rfl rfl ?_
  rintro _ _ ⟨rfl, rfl⟩
  refine a_gt hT rfl rfl rfl rfl ?_
  refine a_str hT (l := [8, 150, 1]) rfl rfl rfl rfl rfl rfl rfl rfl ?_
  refine a_ret hT [60] rfl rfl rfl rfl rfl rfl ?_
  exact ⟨congrArg (fun b => AV.v (Value.bool b) 0) (beq_self_eq_true _), rfl⟩
end Go.Proofs.YtjcolfogmmjaoaaGreatDoor
end

section
set_option linter.unusedVariables false
set_option linter.unusedSimpArgs false
set_option maxRecDepth 100000
set_option maxHeartbeats 2000000
namespace Go.Proofs.YtjcolfogmmjaoaaGreatDoor
open V A
theorem dec_top {s : SchP} {v : VL} {t : Int} (hv : WfV v) (hw : wtV v ≤ 100000000) (hf : fitsTop s v t = true) (hl : (encM s (normP s v)).length ≤ 4096) : decTop s t (encM s (normP s v)) = .ok (normP s v) := by
  have hnf := norm_top hf
  have hnw := norm_wf s v hv
  have hnt := norm_wt s v
  have hid := norm_idem s v
  generalize normP s v = w at hnf hnw hnt hid hl ⊢
  obtain ⟨fs, u, rfl, hform, ht0, ht1, hft⟩ := fits_msg hnf
  unfold decTop
  rw [if_neg (by rw [hform, decide_eq_false (by omega), decide_eq_false (by omega)]; decide), if_neg (by omega)]
  exact dec_enc (schOk hform) hnw (by omega) hid 16 t (Nat.le_refl _) ht0 (by rw [show (17 : Int) - ((16 : Nat) : Int) = 1 by decide]; exact hft)
end Go.Proofs.YtjcolfogmmjaoaaGreatDoor
end

section
set_option linter.unusedVariables false
set_option linter.unusedSimpArgs false
set_option maxRecDepth 100000
set_option maxHeartbeats 1000000
namespace Go.Proofs.YtjcolfogmmjaoaaGreatDoor
open V A
theorem RTake_spec {bs : List UInt8} (hl : bs.length ≤ 4611686018427387904) : FSpec Tryz.prog 92 [.d (A.bytesD bs)] [] fun a cs => a = tkA (takeP bs 0 0) ∧ cs = [] := by
  have hlen := bytesD_len bs
  refine a_enter hT [.d (A.bytesD bs)] [] Tryz.func92 rfl rfl rfl ⟨Fit.refl _, trivial⟩ fun c' => ?_
  refine a_loop hT [0, 5, 8, 9] (fun x : Nat × Nat => [.d (A.bytesD bs), .v (kU x.2) 0, .v (kI bs.length) 0, .v (kI x.1) 0]) (fun _ => []) (fun x => x.1 ≤ bs.length ∧ takeP (bs.drop x.1) x.1 x.2 = takeP bs 0 0 ∧ x.1 ≤ 9 ∧ x.2 < 2 ^ (7 * x.1)) (fun x => bs.length - x.1) (0, 0) [] rfl rfl ⟨Nat.zero_le _, rfl, by decide, by decide⟩ ⟨rfl, rfl, by rw [← hlen]; rfl, rfl, trivial⟩ rfl trivial ?_
  rintro ⟨i, n⟩ ⟨i2, i3, i4, i5⟩
  dsimp only at i2 i3 i4 i5
  have hw := wN i (by omega)
  rcases Nat.lt_or_ge i bs.length with hil | hil
  · have hat : (bs.map eB)[(i : Int).toNat]? = some (eB bs[i]) := by simp [hil]
    rw [drop_at hil] at i3
    generalize bs[i] = c at hat i3
    refine a_t hT rfl rfl (decide_eq_true (by show (i : Int) < (bs.length : Int); omega)) ?_
    have hlt := c.toNat_lt
    have h7 : IntKind.i64.wrap (7 * (i : Int)) = ((7 * i : Nat) : Int) := by rw [w64 (by omega) (by omega)]; omega
    have h70 : 0 ≤ IntKind.u64.wrap (IntKind.i64.wrap (7 * (i : Int))) := by rw [h7, wrapN64 (by omega)]; omega
    have hE : (i = 9 → c.toNat ≤ 1) → IntKind.u64.wrap ↑(BitVec.toNat (BitVec.ofInt (IntKind.bits .u64) (n : Int) ||| BitVec.ofInt (IntKind.bits .u64) (IntKind.u64.wrap (IntKind.u64.wrap (IntKind.u8.wrap ↑(BitVec.toNat (BitVec.ofInt (IntKind.bits .u8) (c.toNat : Int) &&& BitVec.ofInt (IntKind.bits .u8) 127))) * 2 ^ min (Int.toNat (IntKind.u64.wrap (IntKind.i64.wrap (7 * (i : Int))))) (IntKind.bits .u64))))) = ((n + c.toNat % 128 * 2 ^ (7 * i) : Nat) : Int) := fun h9 => by
      rw [show IntKind.u64.wrap (IntKind.i64.wrap (7 * (i : Int))) = IntKind.i64.wrap (7 * (i : Int)) by rw [h7, wrapN64 (by omega)]]
      exact stepE i4 i5 h9
    refine a_g hT rfl rfl rfl (fun h => ?_) (fun h => ?_)
    · have h := eq_of_beq h
      refine a_ix hT _ rfl rfl rfl rfl rfl rfl (by first | omega | assumption) (by first | assumption | rfl) ?_
      refine a_if hT rfl rfl (fun h1 => ?_) (fun h1 => ?_)
      · have h1 := of_decide_eq_true h1
        refine a_ret hT [] rfl rfl rfl rfl rfl rfl ?_
        exact ⟨by rw [← i3]; unfold takeP; rw [if_pos ⟨by have : (i : Int) = 9 := h; omega, by have : (c.toNat : Int) > 1 := h1; omega⟩]; rfl, rfl⟩
      · have h1 := of_decide_eq_false h1
        have hno : ¬ (i = 9 ∧ 1 < c.toNat) := fun ⟨_, h3⟩ => h1 (by show (c.toNat : Int) > 1; omega)
        have h9 : i = 9 → c.toNat ≤ 1 := fun _ => by have : ¬ (c.toNat : Int) > 1 := h1; omega
        refine a_ix hT _ rfl rfl rfl rfl rfl rfl (by first | omega | assumption) (by first | assumption | rfl) ?_
        refine a_bin hT _ rfl rfl rfl (by decide) rfl rfl (fun w => (bin_and w)) ?_
        refine a_bin hT _ rfl rfl rfl (by decide) rfl rfl (fun w => (bin_shl h70 w)) ?_
        refine a_bin hT _ rfl rfl rfl (by decide) rfl rfl (fun w => (bin_or w)) ?_
        refine a_ix hT _ rfl rfl rfl rfl rfl rfl (by first | omega | assumption) (by first | assumption | rfl) ?_
        refine a_if hT rfl rfl (fun h2 => ?_) (fun h2 => ?_)
        · have h2 := of_decide_eq_true h2
          have hc1 : c.toNat < 128 := by have : (c.toNat : Int) < 128 := h2; omega
          refine a_ret hT [] rfl rfl rfl rfl rfl rfl ?_
          exact ⟨by rw [← i3]; unfold takeP; rw [if_neg hno, if_pos hc1]; show AV.tup [.v (.int .u64 _) 0, .v (.int .i64 _) 0, _] = AV.tup [.v (.int .u64 _) 0, .v (.int .i64 _) 0, _]; rw [hE h9]; show AV.tup [_, .v (.int .i64 (IntKind.i64.wrap ((i : Int) + 1))) 0, _] = _; rw [hw]; rfl, rfl⟩
        · have h2 := of_decide_eq_false h2
          (exfalso; first | omega | contradiction)
    · have h := ne_of_beq_false h
      have hn9 : i ≠ 9 := fun e => h (by show (i : Int) = 9; omega)
      have hno : ¬ (i = 9 ∧ 1 < c.toNat) := fun ⟨h2, _⟩ => hn9 h2
      have h9 : i = 9 → c.toNat ≤ 1 := fun h2 => absurd h2 hn9
      refine a_f hT rfl rfl rfl ?_
      refine a_ix hT _ rfl rfl rfl rfl rfl rfl (by first | omega | assumption) (by first | assumption | rfl) ?_
      refine a_bin hT _ rfl rfl rfl (by decide) rfl rfl (fun w => (bin_and w)) ?_
      refine a_bin hT _ rfl rfl rfl (by decide) rfl rfl (fun w => (bin_shl h70 w)) ?_
      refine a_bin hT _ rfl rfl rfl (by decide) rfl rfl (fun w => (bin_or w)) ?_
      refine a_ix hT _ rfl rfl rfl rfl rfl rfl (by first | omega | assumption) (by first | assumption | rfl) ?_
      refine a_if hT rfl rfl (fun h1 => ?_) (fun h1 => ?_)
      · have h1 := of_decide_eq_true h1
        have hc1 : c.toNat < 128 := by have : (c.toNat : Int) < 128 := h1; omega
        refine a_ret hT [] rfl rfl rfl rfl rfl rfl ?_
        exact ⟨by rw [← i3]; unfold takeP; rw [if_neg hno, if_pos hc1]; show AV.tup [.v (.int .u64 _) 0, .v (.int .i64 _) 0, _] = AV.tup [.v (.int .u64 _) 0, .v (.int .i64 _) 0, _]; rw [hE h9]; show AV.tup [_, .v (.int .i64 (IntKind.i64.wrap ((i : Int) + 1))) 0, _] = _; rw [hw]; rfl, rfl⟩
      · have h1 := of_decide_eq_false h1
        have hc1 : ¬ c.toNat < 128 := by have : ¬ (c.toNat : Int) < 128 := h1; omega
        exact a_next hT (i + 1, n + c.toNat % 128 * 2 ^ (7 * i)) [] rfl rfl ⟨⟨by show i + 1 ≤ bs.length; omega, by rw [← i3]; show takeP (bs.drop (i + 1)) (i + 1) _ = takeP (c :: _) i n; conv => rhs; unfold takeP; rw [if_neg hno, if_neg hc1], by show i + 1 ≤ 9; omega, stepL i5⟩, by show bs.length - (i + 1) < bs.length - i; omega⟩ ⟨rfl, by show Value.int .u64 _ = Value.int .u64 _; exact congrArg _ (hE h9), rfl, by show Value.int .i64 _ = Value.int .i64 _; rw [hw], trivial⟩ rfl trivial
  · refine a_f hT rfl rfl (decide_eq_false (by show ¬ (i : Int) < (bs.length : Int); omega)) ?_
    refine a_ret hT [] rfl rfl rfl rfl rfl rfl ?_
    have : i = bs.length := by omega
    subst this
    rw [List.drop_length] at i3
    exact ⟨by rw [← i3]; rfl, rfl⟩
def leP : List UInt8 → Nat
  | [] => 0
  | c :: l => c.toNat + 256 * leP l
theorem leP_cons (c : UInt8) (l : List UInt8) : leP (c :: l) = c.toNat + 256 * leP l := rfl
theorem leP_lt : ∀ l : List UInt8, leP l < 256 ^ l.length
  | [] => by decide
  | c :: l => by
    have := leP_lt l
    have := c.toNat_lt
    unfold leP
    rw [List.length_cons, Nat.pow_succ]
    omega
theorem leP_snoc (c : UInt8) : ∀ l : List UInt8, leP (l ++ [c]) = leP l + c.toNat * 256 ^ l.length
  | [] => by simp [leP]
  | d :: l => by
    rw [List.cons_append]
    unfold leP
    rw [leP_snoc c l, List.length_cons, Nat.pow_succ, Nat.mul_add, ← Nat.mul_assoc c.toNat (256 ^ l.length) 256, Nat.mul_comm (c.toNat * 256 ^ l.length) 256]
    generalize c.toNat * 256 ^ l.length = z
    omega
theorem stepN {n i : Nat} {c : UInt8} (hi : i ≤ 7) (hn : n < 256 ^ i) : IntKind.u64.wrap ↑(BitVec.toNat (BitVec.ofInt (IntKind.bits .u64) (n : Int) ||| BitVec.ofInt (IntKind.bits .u64) (IntKind.u64.wrap (IntKind.u64.wrap (c.toNat : Int) * 2 ^ min (Int.toNat (IntKind.u64.wrap (IntKind.i64.wrap (8 * (i : Int))))) (IntKind.bits .u64))))) = ((n + c.toNat * 256 ^ i : Nat) : Int) := by
  have hlt := c.toNat_lt
  have h8 : IntKind.u64.wrap (IntKind.i64.wrap (8 * (i : Int))) = ((8 * i : Nat) : Int) := by rw [w64 (by omega) (by omega)]; rw [show (8 : Int) * i = ((8 * i : Nat) : Int) by omega]; exact wrapN64 (by omega)
  have hp : (256 : Nat) ^ i = 2 ^ (8 * i) := by rw [Nat.pow_mul]
  have hb : 2 ^ (8 * i) ≤ 72057594037927936 := Nat.le_trans (Nat.pow_le_pow_right (by decide) (show 8 * i ≤ 56 by omega)) (by decide)
  rw [hp] at hn ⊢
  have h3 := Nat.mul_le_mul (show c.toNat ≤ 255 by omega) hb
  show IntKind.u64.wrap ↑(BitVec.toNat (BitVec.ofInt 64 (n : Int) ||| BitVec.ofInt 64 (IntKind.u64.wrap (IntKind.u64.wrap (c.toNat : Int) * 2 ^ min (Int.toNat (IntKind.u64.wrap (IntKind.i64.wrap (8 * (i : Int))))) 64)))) = _
  rw [h8, Int.toNat_natCast, Nat.min_eq_left (by omega), wrapN64 (a := c.toNat) (by omega)]
  rw [show (c.toNat : Int) * 2 ^ (8 * i) = ((c.toNat * 2 ^ (8 * i) : Nat) : Int) by push_cast; rfl, wrapN64 (a := c.toNat * 2 ^ (8 * i)) (by omega), or64 (by omega) (by omega), or_add hn]
theorem RNumber_spec {bs : List UInt8} (hl : bs.length ≤ 8) : FSpec Tryz.prog 93 [.d (A.bytesD bs)] [] fun a cs => a = .v (kU (leP bs)) 0 ∧ cs = [] := by
  have hlen := bytesD_len bs
  refine a_enter hT [.d (A.bytesD bs)] [] Tryz.func93 rfl rfl rfl ⟨Fit.refl _, trivial⟩ fun c' => ?_
  refine a_loop hT [0, 3, 6, 7] (fun i : Nat => [.d (A.bytesD bs), .v (kU (leP (bs.take i))) 0, .v (kI bs.length) 0, .v (kI i) 0]) (fun _ => []) (fun i => i ≤ bs.length) (fun i => bs.length - i) 0 [] rfl rfl (Nat.zero_le _) ⟨rfl, rfl, by rw [← hlen]; rfl, rfl, trivial⟩ rfl trivial ?_
  intro i hi
  have hw := wN i (by omega)
  rcases Nat.lt_or_ge i bs.length with hil | hil
  · have hat : (bs.map eB)[(i : Int).toNat]? = some (eB bs[i]) := by simp [hil]
    have htk : bs.take (i + 1) = bs.take i ++ [bs[i]] := List.take_succ_eq_append_getElem hil
    have hlt := leP_lt (bs.take i)
    have hsn := leP_snoc bs[i] (bs.take i)
    have htl : (bs.take i).length = i := by rw [List.length_take]; omega
    rw [htl] at hlt hsn
    rw [← htk] at hsn
    generalize bs[i] = c at hat hsn
    refine a_t hT rfl rfl (decide_eq_true (by show (i : Int) < (bs.length : Int); omega)) ?_
    have h80 : 0 ≤ IntKind.u64.wrap (IntKind.i64.wrap (8 * (i : Int))) := by rw [w64 (by omega) (by omega), show (8 : Int) * i = ((8 * i : Nat) : Int) by omega, wrapN64 (by omega)]; omega
    refine a_ix hT _ rfl rfl rfl rfl rfl rfl (by omega) hat ?_
    refine a_bin hT _ rfl rfl rfl (by decide) rfl rfl (fun w => (bin_shl h80 w)) ?_
    refine a_bin hT _ rfl rfl rfl (by decide) rfl rfl (fun w => (bin_or w)) ?_
    exact a_next hT (i + 1) [] rfl rfl ⟨by omega, by omega⟩ ⟨rfl, by show Value.int .u64 _ = Value.int .u64 _; rw [hsn]; exact congrArg _ (stepN (by omega) hlt), rfl, by show Value.int .i64 _ = Value.int .i64 _; rw [hw], trivial⟩ rfl trivial
  · refine a_f hT rfl rfl (decide_eq_false (by show ¬ (i : Int) < (bs.length : Int); omega)) ?_
    refine a_ret hT [] rfl rfl rfl rfl rfl rfl ?_
    have : i = bs.length := by omega
    subst this
    rw [List.take_length]
    exact ⟨rfl, rfl⟩
theorem leP_4 {l : List UInt8} (h : 4 ≤ l.length) : leP (l.take 4) = le4 l := by
  match l, h with
  | a :: b :: c :: d :: l, _ =>
    show leP [a, b, c, d] = a.toNat + b.toNat * 2 ^ 8 + c.toNat * 2 ^ 16 + d.toNat * 2 ^ 24
    unfold leP leP leP leP leP
    omega
theorem leP_app : ∀ (l m : List UInt8), leP (l ++ m) = leP l + leP m * 256 ^ l.length
  | [], m => by simp [leP]
  | c :: l, m => by
    rw [List.cons_append, leP_cons, leP_cons, leP_app l m, List.length_cons, Nat.pow_succ, Nat.mul_add, ← Nat.mul_assoc (leP m) (256 ^ l.length) 256, Nat.mul_comm (leP m * 256 ^ l.length) 256]
    generalize leP m * 256 ^ l.length = z
    omega
theorem leP_8 {l : List UInt8} (h : 8 ≤ l.length) : leP (l.take 8) = le4 l + le4 (l.drop 4) * 2 ^ 32 := by
  have e : l.take 8 = l.take 4 ++ (l.drop 4).take 4 := by
    rw [show 8 = 4 + 4 from rfl, List.take_add]
  rw [e, leP_app, leP_4 (by omega), leP_4 (by rw [List.length_drop]; omega), List.length_take, Nat.min_eq_left (by omega)]
end Go.Proofs.YtjcolfogmmjaoaaGreatDoor
end

section
set_option linter.unusedVariables false
set_option linter.unusedSimpArgs false
set_option maxRecDepth 100000
set_option maxHeartbeats 1000000
namespace Go.Proofs.YtjcolfogmmjaoaaGreatDoor
open V A
theorem remE {n : Nat} (h : n < 18446744073709551616) : IntKind.i64.wrap (Int.tmod (n : Int) 8) = ((n % 8 : Nat) : Int) := by
  have e : Int.tmod (n : Int) 8 = ((n % 8 : Nat) : Int) := by
    rw [Int.tmod_eq_emod_of_nonneg (by omega)]
    omega
  rw [e, w64 (by omega) (by omega)]
theorem quoE {n : Nat} (h : n < 18446744073709551616) : IntKind.u64.wrap (Int.tdiv (n : Int) 8) = ((n / 8 : Nat) : Int) := by
  have e : Int.tdiv (n : Int) 8 = ((n / 8 : Nat) : Int) := by
    rw [Int.tdiv_eq_ediv_of_nonneg (by omega)]
    omega
  rw [e, wrapN64 (by omega)]
theorem RTakeF_spec {bs : List UInt8} (hl : bs.length ≤ 1000000000) : FSpec Tryz.prog 45 [.d (A.bytesD bs)] [] fun a cs => a = tfA (takeFP bs) ∧ cs = [] := by
  refine FSpec.le ?_
  have hlen := bytesD_len bs
  have h1 := RTake_spec (bs := bs) (by omega)
  have o1 := takeP_ok bs 0 0 (by decide) (by decide)
  have hT0 : takeFP bs = takeFP bs := rfl
  conv at hT0 => rhs; unfold takeFP
  generalize takeFP bs = R at hT0 ⊢
  generalize takeP bs 0 0 = r at h1 o1 hT0
  obtain ⟨n, p, e⟩ := r
  dsimp only at o1 hT0
  refine a_enter hT [.d (A.bytesD bs)] [] Tryz.func45 rfl rfl rfl ⟨Fit.refl _, trivial⟩ fun c' => ?_
  refine a_new hT hZ 20 rfl rfl rfl rfl fun g => ?_
  refine a_call hT rfl rfl rfl (by kernel_rfl) h1 [] [] rfl rfl ?_
  rintro _ _ ⟨rfl, rfl⟩
  refine a_if hT rfl rfl (fun h => ?_) (fun h => ?_)
  · have h := bne_iff_ne.1 h
    refine a_build hT hZ [.v (Value.int IntKind.i64 0) 0, .v (Value.int IntKind.i64 0) 0, .v (Value.int IntKind.u64 0) 0, .v (Value.slice none 0 0) 0] rfl rfl rfl rfl rfl rfl ?_
    refine a_ret hT [] rfl rfl rfl rfl rfl rfl ?_
    have he : e ≠ 0 := fun h2 => h (by show ((e : Int)) = 0; omega)
    rw [if_pos he] at hT0
    subst hT0
    exact ⟨_, le_fw0 _ _, rfl, rfl⟩
  · simp at h
    have he : e = 0 := by omega
    subst he
    rw [if_neg (by simp)] at hT0
    have hn64 := o1.2.1
    have ho := o1.1 rfl
    have hq := quoE hn64
    refine a_bin hT _ rfl rfl rfl (by decide) rfl rfl (fun w => (bin_rem (by decide) w)) ?_
    refine a_run hT 3 rfl rfl ?_
    refine a_asL 8 (b := .v (kI (n % 8 : Nat)) 0) rfl (Fit.le (congrArg (Value.int .i64) (remE hn64))) ?_
    refine a_bin hT _ rfl rfl rfl (by decide) rfl rfl (fun w => (bin_quo (by decide) w)) ?_
    have hty : n % 8 = 0 ∨ n % 8 = 1 ∨ n % 8 = 2 ∨ n % 8 = 5 ∨ (n % 8 = 3 ∨ n % 8 = 4 ∨ n % 8 = 6 ∨ n % 8 = 7) := by omega
    generalize n % 8 = ty at hty hT0
    have hlo : n / 8 < 1 ∨ n / 8 > 536870911 → formedW ⟨min (n / 8) 536870912, ty, 0, []⟩ = false := fun h => by
      unfold formedW
      dsimp only
      rw [decide_eq_false (by omega)]
      rfl
    have hfm : ¬ (n / 8 < 1 ∨ n / 8 > 536870911) → min (n / 8) 536870912 = n / 8 := fun h => by omega
    refine a_g hT rfl rfl rfl (fun h2 => ?_) (fun h2 => ?_)
    · have h2 : IntKind.u64.wrap (Int.tdiv (n : Int) 8) < 1 := of_decide_eq_true h2
      rw [if_pos (hlo (by rw [hq] at h2; omega))] at hT0
      subst hT0
      refine a_gt hT rfl rfl rfl rfl ?_
      refine a_t hT rfl rfl rfl ?_
      refine a_build hT hZ [.v (Value.int IntKind.i64 0) 0, .v (Value.int IntKind.i64 0) 0, .v (Value.int IntKind.u64 0) 0, .v (Value.slice none 0 0) 0] rfl rfl rfl rfl rfl rfl ?_
      refine a_ret hT [] rfl rfl rfl rfl rfl rfl ?_
      exact ⟨_, le_fw0 _ _, rfl, rfl⟩
    · have h2 : ¬ IntKind.u64.wrap (Int.tdiv (n : Int) 8) < 1 := of_decide_eq_false h2
      refine a_bin hT _ rfl rfl rfl (by decide) rfl rfl (fun w => (bin_quo (by decide) w)) ?_
      refine a_g hT rfl rfl rfl (fun h3 => ?_) (fun h3 => ?_)
      · have h3 : IntKind.u64.wrap (Int.tdiv (n : Int) 8) > 536870911 := of_decide_eq_true h3
        rw [if_pos (hlo (by rw [hq] at h3; omega))] at hT0
        subst hT0
        refine a_t hT rfl rfl rfl ?_
        refine a_build hT hZ [.v (Value.int IntKind.i64 0) 0, .v (Value.int IntKind.i64 0) 0, .v (Value.int IntKind.u64 0) 0, .v (Value.slice none 0 0) 0] rfl rfl rfl rfl rfl rfl ?_
        refine a_ret hT [] rfl rfl rfl rfl rfl rfl ?_
        exact ⟨_, le_fw0 _ _, rfl, rfl⟩
      · have h3 : ¬ IntKind.u64.wrap (Int.tdiv (n : Int) 8) > 536870911 := of_decide_eq_false h3
        rw [hq] at h2 h3
        have hmin := hfm (by omega)
        rw [hmin] at hT0
        have hbl : (bs.drop p).length = bs.length - p := List.length_drop
        have h4 := RTake_spec (bs := bs.drop p) (by omega)
        have o3 := takeP_ok (bs.drop p) 0 0 (by decide) (by decide)
        have hnum : ∀ (t k : Nat) (l : List UInt8) (a b x : AV), Le x (.d (A.bytesD l)) → Le (.tup [.agg [.v (.int .i64 (IntKind.i64.wrap (IntKind.u64.wrap (Int.tdiv (n : Int) 8)))) 0, .v (kI t) 0, .v (kU k) 0, x], a, b]) (.tup [fwA ⟨n / 8, t, k, l⟩, a, b]) := fun t k l a b x hx => Le.tup (.cons (Le.agg (.cons (Fit.le (congrArg (Value.int .i64) (by rw [hq, w64 (by omega) (by omega)]))) (.cons (Le.refl _) (.cons (Le.refl _) (.cons hx .nil))))) (.cons (Le.refl _) (.cons (Le.refl _) .nil)))
        have hgood : ∀ t, t = 0 ∨ t = 1 ∨ t = 2 ∨ t = 5 → ¬ formedW ⟨n / 8, t, 0, []⟩ = false := fun t ht => by
          unfold formedW
          dsimp only
          rw [decide_eq_true (by omega)]
          rcases ht with rfl | rfl | rfl | rfl <;> simp
        rcases hty with rfl | rfl | rfl | rfl | hty
        · rw [if_neg (hgood 0 (by simp)), if_pos rfl] at hT0
          refine a_gf hT rfl rfl rfl rfl ?_
          refine a_gf hT rfl rfl rfl rfl ?_
          refine a_gf hT rfl rfl rfl rfl ?_
          refine a_f hT rfl rfl rfl ?_
          refine a_bin hT _ rfl rfl rfl (by decide) rfl rfl (fun w => (bin_quo (by decide) w)) ?_
          refine a_build hT hZ [.v (Value.int IntKind.i64 (IntKind.wrap IntKind.i64 (IntKind.wrap IntKind.u64 (Int.tdiv (↑(Prod.fst (n, p, 0))) 8)))) 0, .v (kI 0) 0, .v (Value.int IntKind.u64 0) 0, .v (Value.slice none 0 0) 0] rfl rfl rfl rfl rfl rfl ?_
          refine a_new hT hZ 21 rfl rfl rfl rfl fun g1 => ?_
          refine a_t hT rfl rfl rfl ?_
          refine a_sl hT p (bs.map eB).length ((bs.drop p).map eB) rfl rfl rfl rfl rfl ⟨.i64, 0, rfl⟩ rfl (by rw [hlen]; omega) (Nat.le_refl _) (slD bs p) ?_
          generalize takeP (bs.drop p) 0 0 = q at h4 o3 hT0
          obtain ⟨n2, p2, e2⟩ := q
          dsimp only at o3 hT0
          refine a_call hT rfl rfl rfl (by kernel_rfl) h4 [] [] rfl rfl ?_
          rintro _ _ ⟨rfl, rfl⟩
          refine a_if hT rfl rfl (fun h7 => ?_) (fun h7 => ?_)
          · have h7 := bne_iff_ne.1 h7
            have he2 : e2 ≠ 0 := fun h => h7 (by show (e2 : Int) = 0; omega)
            rw [if_pos he2] at hT0
            subst hT0
            refine a_build hT hZ [.v (Value.int IntKind.i64 0) 0, .v (Value.int IntKind.i64 0) 0, .v (Value.int IntKind.u64 0) 0, .v (Value.slice none 0 0) 0] rfl rfl rfl rfl rfl rfl ?_
            refine a_ret hT [] rfl rfl rfl rfl rfl rfl ?_
            exact ⟨_, le_fw0 _ _, rfl, rfl⟩
          · simp at h7
            have he2 : e2 = 0 := by omega
            subst he2
            rw [if_neg (by simp)] at hT0
            subst hT0
            have ho3 := o3.1 rfl
            refine a_ret hT [] rfl rfl rfl rfl rfl rfl ?_
            have hwp : IntKind.i64.wrap ((p : Int) + (p2 : Int)) = ((p + p2 : Nat) : Int) := by rw [w64 (by omega) (by omega)]; omega
            refine ⟨_, hnum 0 n2 [] _ _ _ le_nil, ?_, rfl⟩
            show AV.tup [_, .v (.int .i64 (IntKind.i64.wrap ((p : Int) + (p2 : Int)))) 0, _] = _
            rw [hwp]
            rfl
        · rw [if_neg (hgood 1 (by simp)), if_neg (by decide), if_pos rfl] at hT0
          have hl8 : IntKind.i64.wrap ((p : Int) + 8) = ((p + 8 : Nat) : Int) := by rw [w64 (by omega) (by omega)]; omega
          unfold take64P at hT0
          refine a_gt hT rfl rfl rfl rfl ?_
          refine a_gf hT rfl rfl rfl rfl ?_
          refine a_gf hT rfl rfl rfl rfl ?_
          refine a_f hT rfl rfl rfl ?_
          refine a_bin hT _ rfl rfl rfl (by decide) rfl rfl (fun w => (bin_quo (by decide) w)) ?_
          refine a_build hT hZ [.v (Value.int IntKind.i64 (IntKind.wrap IntKind.i64 (IntKind.wrap IntKind.u64 (Int.tdiv (↑(Prod.fst (n, p, 0))) 8)))) 0, .v (kI 1) 0, .v (Value.int IntKind.u64 0) 0, .v (Value.slice none 0 0) 0] rfl rfl rfl rfl rfl rfl ?_
          refine a_new hT hZ 21 rfl rfl rfl rfl fun g1 => ?_
          refine a_f hT rfl rfl rfl ?_
          refine a_f hT rfl rfl rfl ?_
          refine a_f hT rfl rfl rfl ?_
          refine a_if hT rfl rfl (fun h6 => ?_) (fun h6 => ?_)
          · have h6 : IntKind.i64.wrap (((bs.map eB).length : Int) - (p : Int)) < 8 := of_decide_eq_true h6
            rw [hlen, w64 (by omega) (by omega)] at h6
            rw [if_pos (show (bs.drop p).length < 8 by omega), if_pos (show ((0 : Nat), (5 : Nat)).2 ≠ 0 by decide)] at hT0
            subst hT0
            refine a_build hT hZ [.v (Value.int IntKind.i64 0) 0, .v (Value.int IntKind.i64 0) 0, .v (Value.int IntKind.u64 0) 0, .v (Value.slice none 0 0) 0] rfl rfl rfl rfl rfl rfl ?_
            refine a_ret hT [] rfl rfl rfl rfl rfl rfl ?_
            exact ⟨_, le_fw0 _ _, rfl, rfl⟩
          · have h6 : ¬ IntKind.i64.wrap (((bs.map eB).length : Int) - (p : Int)) < 8 := of_decide_eq_false h6
            rw [hlen, w64 (by omega) (by omega)] at h6
            rw [if_neg (show ¬ (bs.drop p).length < 8 by omega), if_neg (fun h => h rfl)] at hT0
            have hN := RNumber_spec (bs := (bs.drop p).take 8) (by rw [List.length_take]; omega)
            rw [leP_8 (by omega)] at hN
            refine a_sl hT p (p + 8) (((bs.drop p).take 8).map eB) rfl rfl rfl rfl rfl ⟨.i64, 0, rfl⟩ ⟨.i64, 0, congrArg (fun x => AV.v (Value.int .i64 x) 0) hl8⟩ (by omega) (by rw [hlen]; omega) (by rw [List.map_take, List.map_drop, Nat.add_sub_cancel_left]) ?_
            refine a_call hT rfl rfl rfl (by kernel_rfl) hN [] [] rfl rfl ?_
            rintro _ _ ⟨rfl, rfl⟩
            refine a_ret hT [] rfl rfl rfl rfl rfl rfl ?_
            subst hT0
            refine ⟨_, hnum 1 _ [] _ _ _ le_nil, ?_, rfl⟩
            show AV.tup [_, .v (.int .i64 (IntKind.i64.wrap ((p : Int) + 8))) 0, _] = _
            rw [hl8]
            rfl
        · rw [if_neg (hgood 2 (by simp)), if_neg (by decide), if_neg (by decide), if_neg (by decide)] at hT0
          refine a_gt hT rfl rfl rfl rfl ?_
          refine a_gt hT rfl rfl rfl rfl ?_
          refine a_gf hT rfl rfl rfl rfl ?_
          refine a_f hT rfl rfl rfl ?_
          refine a_bin hT _ rfl rfl rfl (by decide) rfl rfl (fun w => (bin_quo (by decide) w)) ?_
          refine a_build hT hZ [.v (Value.int IntKind.i64 (IntKind.wrap IntKind.i64 (IntKind.wrap IntKind.u64 (Int.tdiv (↑(Prod.fst (n, p, 0))) 8)))) 0, .v (kI 2) 0, .v (Value.int IntKind.u64 0) 0, .v (Value.slice none 0 0) 0] rfl rfl rfl rfl rfl rfl ?_
          refine a_new hT hZ 21 rfl rfl rfl rfl fun g1 => ?_
          refine a_f hT rfl rfl rfl ?_
          refine a_t hT rfl rfl rfl ?_
          refine a_sl hT p (bs.map eB).length ((bs.drop p).map eB) rfl rfl rfl rfl rfl ⟨.i64, 0, rfl⟩ rfl (by rw [hlen]; omega) (Nat.le_refl _) (slD bs p) ?_
          generalize takeP (bs.drop p) 0 0 = q at h4 o3 hT0
          obtain ⟨n2, p2, e2⟩ := q
          dsimp only at o3 hT0
          refine a_call hT rfl rfl rfl (by kernel_rfl) h4 [] [] rfl rfl ?_
          rintro _ _ ⟨rfl, rfl⟩
          refine a_if hT rfl rfl (fun h7 => ?_) (fun h7 => ?_)
          · have h7 := bne_iff_ne.1 h7
            have he2 : e2 ≠ 0 := fun h => h7 (by show (e2 : Int) = 0; omega)
            rw [if_pos he2] at hT0
            subst hT0
            refine a_build hT hZ [.v (Value.int IntKind.i64 0) 0, .v (Value.int IntKind.i64 0) 0, .v (Value.int IntKind.u64 0) 0, .v (Value.slice none 0 0) 0] rfl rfl rfl rfl rfl rfl ?_
            refine a_ret hT [] rfl rfl rfl rfl rfl rfl ?_
            exact ⟨_, le_fw0 _ _, rfl, rfl⟩
          · simp at h7
            have he2 : e2 = 0 := by omega
            subst he2
            rw [if_neg (by simp)] at hT0
            have ho3 := o3.1 rfl
            have hwp : IntKind.i64.wrap ((p : Int) + (p2 : Int)) = ((p + p2 : Nat) : Int) := by rw [w64 (by omega) (by omega)]; omega
            have hsub : IntKind.u64.wrap (IntKind.i64.wrap (((bs.map eB).length : Int) - IntKind.i64.wrap ((p : Int) + (p2 : Int)))) = ((bs.length - (p + p2) : Nat) : Int) := by
              rw [hwp, hlen, w64 (by omega) (by omega), show (bs.length : Int) - ((p + p2 : Nat) : Int) = ((bs.length - (p + p2) : Nat) : Int) by omega, wrapN64 (by omega)]
            refine a_if hT rfl rfl (fun h8 => ?_) (fun h8 => ?_)
            · have h8 : (n2 : Int) > IntKind.u64.wrap (IntKind.i64.wrap (((bs.map eB).length : Int) - IntKind.i64.wrap ((p : Int) + (p2 : Int)))) := of_decide_eq_true h8
              rw [hsub] at h8
              rw [if_pos (by omega)] at hT0
              subst hT0
              refine a_build hT hZ [.v (Value.int IntKind.i64 0) 0, .v (Value.int IntKind.i64 0) 0, .v (Value.int IntKind.u64 0) 0, .v (Value.slice none 0 0) 0] rfl rfl rfl rfl rfl rfl ?_
              refine a_ret hT [] rfl rfl rfl rfl rfl rfl ?_
              exact ⟨_, le_fw0 _ _, rfl, rfl⟩
            · have h8 : ¬ (n2 : Int) > IntKind.u64.wrap (IntKind.i64.wrap (((bs.map eB).length : Int) - IntKind.i64.wrap ((p : Int) + (p2 : Int)))) := of_decide_eq_false h8
              rw [hsub] at h8
              rw [if_neg (by omega)] at hT0
              have hwn : IntKind.i64.wrap (n2 : Int) = (n2 : Int) := w64 (by omega) (by omega)
              have hwe : IntKind.i64.wrap (IntKind.i64.wrap ((p : Int) + (p2 : Int)) + IntKind.i64.wrap (n2 : Int)) = ((p + p2 + n2 : Nat) : Int) := by rw [hwp, hwn, w64 (by omega) (by omega)]; omega
              refine a_nilrowB 21 3 30 5 1 rfl rfl rfl ?_
              refine a_draw hT [21, 30] false [(0, false), (2, false), (3, false), (4, false), (5, false), (6, false), (7, false), (8, false), (1, true), (9, true), (10, true), (11, true)] rfl rfl (by kernel_rfl) (by kernel_rfl) rfl ?_
              refine a_sl hT (p + p2) (p + p2 + n2) (((bs.drop (p + p2)).take n2).map eB) rfl rfl rfl rfl rfl ⟨.i64, 0, congrArg (fun x => AV.v (Value.int .i64 x) 0) hwp⟩ ⟨.i64, 0, congrArg (fun x => AV.v (Value.int .i64 x) 0) hwe⟩ (by omega) (by rw [hlen]; omega) (by rw [List.map_take, List.map_drop, Nat.add_sub_cancel_left]) ?_
              refine a_app hT 30 _ rfl rfl rfl rfl (by kernel_rfl) rfl rfl rfl rfl rfl rfl (by simp only [List.nil_append, List.length_append, List.length_nil, List.length_map, List.length_take]; unfold lim; omega) fun w1 => ?_
              first
                | (refine a_run hT 1 rfl rfl ?_; refine a_freezeB 21 3 30 rfl rfl rfl rfl rfl ?_)
                | (refine a_run hT 2 rfl rfl ?_; refine a_freezeB 21 3 30 rfl rfl rfl rfl rfl ?_)
                | (refine a_run hT 3 rfl rfl ?_; refine a_freezeB 21 3 30 rfl rfl rfl rfl rfl ?_)
                | (refine a_run hT 4 rfl rfl ?_; refine a_freezeB 21 3 30 rfl rfl rfl rfl rfl ?_)
              refine a_ret hT [] rfl rfl rfl rfl rfl rfl ?_
              subst hT0
              refine ⟨_, hnum 2 0 ((bs.drop (p + p2)).take n2) _ _ _ (Fit.le (Fit.refl _)), ?_, rfl⟩
              show AV.tup [_, .v (.int .i64 (IntKind.i64.wrap (IntKind.i64.wrap ((p : Int) + (p2 : Int)) + IntKind.i64.wrap (n2 : Int)))) 0, _] = _
              rw [hwe, List.drop_drop]
              show _ = AV.tup [_, .v (.int .i64 ((p + (p2 + n2) : Nat) : Int)) 0, _]
              rw [Nat.add_assoc]
              rfl
        · rw [if_neg (hgood 5 (by simp)), if_neg (by decide), if_neg (by decide), if_pos rfl] at hT0
          have hl8 : IntKind.i64.wrap ((p : Int) + 4) = ((p + 4 : Nat) : Int) := by rw [w64 (by omega) (by omega)]; omega
          unfold take32P at hT0
          refine a_gt hT rfl rfl rfl rfl ?_
          refine a_gt hT rfl rfl rfl rfl ?_
          refine a_gt hT rfl rfl rfl rfl ?_
          refine a_f hT rfl rfl rfl ?_
          refine a_bin hT _ rfl rfl rfl (by decide) rfl rfl (fun w => (bin_quo (by decide) w)) ?_
          refine a_build hT hZ [.v (Value.int IntKind.i64 (IntKind.wrap IntKind.i64 (IntKind.wrap IntKind.u64 (Int.tdiv (↑(Prod.fst (n, p, 0))) 8)))) 0, .v (kI 5) 0, .v (Value.int IntKind.u64 0) 0, .v (Value.slice none 0 0) 0] rfl rfl rfl rfl rfl rfl ?_
          refine a_new hT hZ 21 rfl rfl rfl rfl fun g1 => ?_
          refine a_f hT rfl rfl rfl ?_
          refine a_f hT rfl rfl rfl ?_
          refine a_t hT rfl rfl rfl ?_
          refine a_if hT rfl rfl (fun h6 => ?_) (fun h6 => ?_)
          · have h6 : IntKind.i64.wrap (((bs.map eB).length : Int) - (p : Int)) < 4 := of_decide_eq_true h6
            rw [hlen, w64 (by omega) (by omega)] at h6
            rw [if_pos (show (bs.drop p).length < 4 by omega), if_pos (show ((0 : Nat), (5 : Nat)).2 ≠ 0 by decide)] at hT0
            subst hT0
            refine a_build hT hZ [.v (Value.int IntKind.i64 0) 0, .v (Value.int IntKind.i64 0) 0, .v (Value.int IntKind.u64 0) 0, .v (Value.slice none 0 0) 0] rfl rfl rfl rfl rfl rfl ?_
            refine a_ret hT [] rfl rfl rfl rfl rfl rfl ?_
            exact ⟨_, le_fw0 _ _, rfl, rfl⟩
          · have h6 : ¬ IntKind.i64.wrap (((bs.map eB).length : Int) - (p : Int)) < 4 := of_decide_eq_false h6
            rw [hlen, w64 (by omega) (by omega)] at h6
            rw [if_neg (show ¬ (bs.drop p).length < 4 by omega), if_neg (fun h => h rfl)] at hT0
            have hN := RNumber_spec (bs := (bs.drop p).take 4) (by rw [List.length_take]; omega)
            rw [leP_4 (by omega)] at hN
            refine a_sl hT p (p + 4) (((bs.drop p).take 4).map eB) rfl rfl rfl rfl rfl ⟨.i64, 0, rfl⟩ ⟨.i64, 0, congrArg (fun x => AV.v (Value.int .i64 x) 0) hl8⟩ (by omega) (by rw [hlen]; omega) (by rw [List.map_take, List.map_drop, Nat.add_sub_cancel_left]) ?_
            refine a_call hT rfl rfl rfl (by kernel_rfl) hN [] [] rfl rfl ?_
            rintro _ _ ⟨rfl, rfl⟩
            refine a_ret hT [] rfl rfl rfl rfl rfl rfl ?_
            subst hT0
            refine ⟨_, hnum 5 _ [] _ _ _ le_nil, ?_, rfl⟩
            show AV.tup [_, .v (.int .i64 (IntKind.i64.wrap ((p : Int) + 4))) 0, _] = _
            rw [hl8]
            rfl
        · rw [if_pos (by unfold formedW; dsimp only; rw [Bool.and_eq_false_iff]; right; rcases hty with rfl | rfl | rfl | rfl <;> simp)] at hT0
          subst hT0
          rcases hty with rfl | rfl | rfl | rfl <;>
          · refine a_gt hT rfl rfl rfl rfl ?_
            refine a_gt hT rfl rfl rfl rfl ?_
            refine a_gt hT rfl rfl rfl rfl ?_
            refine a_t hT rfl rfl rfl ?_
            refine a_build hT hZ [.v (Value.int IntKind.i64 0) 0, .v (Value.int IntKind.i64 0) 0, .v (Value.int IntKind.u64 0) 0, .v (Value.slice none 0 0) 0] rfl rfl rfl rfl rfl rfl ?_
            refine a_ret hT [] rfl rfl rfl rfl rfl rfl ?_
            exact ⟨_, le_fw0 _ _, rfl, rfl⟩
end Go.Proofs.YtjcolfogmmjaoaaGreatDoor
end

section
set_option linter.unusedVariables false
set_option linter.unusedSimpArgs false
set_option maxRecDepth 100000
set_option maxHeartbeats 1000000
namespace Go.Proofs.YtjcolfogmmjaoaaGreatDoor
open V A
theorem RSplit_spec {bs : List UInt8} (hl : bs.length ≤ 1000000000) : FSpec Tryz.prog 24 [.d (A.bytesD bs)] [] fun a cs => a = wsplitA (splitW bs) ∧ cs = [] := by
  refine FSpec.le ?_
  have hlim : lim = 4294967296 := rfl
  have hlen := bytesD_len bs
  refine a_enter hT [.d (A.bytesD bs)] [] Tryz.func24 rfl rfl rfl ⟨Fit.refl _, trivial⟩ fun c' => ?_
  first
    | (refine a_run hT 7 rfl rfl ?_; refine a_nilrow 6 13 27 1 rfl rfl ?_)
    | (refine a_run hT 8 rfl rfl ?_; refine a_nilrow 6 13 27 1 rfl rfl ?_)
    | (refine a_run hT 9 rfl rfl ?_; refine a_nilrow 6 13 27 1 rfl rfl ?_)
    | (refine a_run hT 10 rfl rfl ?_; refine a_nilrow 6 13 27 1 rfl rfl ?_)
    | (refine a_run hT 11 rfl rfl ?_; refine a_nilrow 6 13 27 1 rfl rfl ?_)
    | (refine a_run hT 12 rfl rfl ?_; refine a_nilrow 6 13 27 1 rfl rfl ?_)
    | (refine a_run hT 13 rfl rfl ?_; refine a_nilrow 6 13 27 1 rfl rfl ?_)
    | (refine a_run hT 14 rfl rfl ?_; refine a_nilrow 6 13 27 1 rfl rfl ?_)
    | (refine a_run hT 15 rfl rfl ?_; refine a_nilrow 6 13 27 1 rfl rfl ?_)
  refine a_nilrow 5 12 59 4 rfl rfl ?_
  refine a_loop hT [0, 5, 6] (fun x : List (FW × List UInt8) × List UInt8 × Value × Value => [.d (A.bytesD x.2.1), .row x.2.2.1 12, .row x.2.2.2 13]) (fun x => [(12, .row x.2.2.1 59 4 (x.1.map fun y => fwD y.1)), (13, .row x.2.2.2 27 1 (x.1.map rawD))]) (fun x => (splitW x.2.1).map (x.1 ++ ·) = splitW bs ∧ x.1.length + x.2.1.length ≤ bs.length) (fun x => x.2.1.length) ([], bs, .slice none 0 0, .slice none 0 0) [12, 13] rfl rfl ⟨by show (splitW bs).map ([] ++ ·) = _; cases splitW bs <;> rfl, by simp⟩ ⟨rfl, rfl, rfl, trivial⟩ rfl ⟨⟨rfl, rfl, rfl, rfl⟩, ⟨rfl, rfl, rfl, rfl⟩, trivial⟩ ?_
  rintro ⟨acc, rest, v2, v3⟩ ⟨i1, i2⟩
  dsimp only at i1 i2
  have hrl := bytesD_len rest
  rcases Nat.eq_zero_or_pos rest.length with h0 | h0
  · have : rest = [] := List.eq_nil_of_length_eq_zero h0
    subst this
    refine a_f hT rfl rfl rfl ?_
    refine a_freeze 5 12 rfl rfl rfl rfl ?_
    refine a_freeze 6 13 rfl rfl rfl rfl ?_
    refine a_ret hT [] rfl rfl rfl rfl rfl rfl ?_
    exact ⟨_, Le.refl _, by rw [← i1, splitW_nil]; show _ = wsplitA (some (acc ++ [])); rw [List.append_nil]; rfl, rfl⟩
  · have hne : rest ≠ [] := fun e => by rw [e] at h0; simp at h0
    have hw := splitW_cons hne
    have ht := RTakeF_spec (bs := rest) (by omega)
    have ho := takeFP_ok rest
    generalize takeFP rest = r at hw ht ho
    obtain ⟨f, p, e⟩ := r
    dsimp only at hw ho
    refine a_t hT rfl rfl (decide_eq_true (by show ((rest.map eB).length : Int) > 0; rw [hrl]; omega)) ?_
    obtain ⟨fn, ft, fu, fd⟩ := f
    refine a_call hT rfl rfl rfl (by kernel_rfl) ht [] [] rfl rfl ?_
    rintro _ _ ⟨rfl, rfl⟩
    refine a_new hT hZ 20 rfl rfl rfl rfl fun g => ?_
    refine a_if hT rfl rfl (fun h => ?_) (fun h => ?_)
    · have h := bne_iff_ne.1 h
      refine a_ret hT [] rfl rfl rfl rfl rfl rfl ?_
      have he : e ≠ 0 := fun h2 => h (by show (e : Int) = 0; omega)
      rw [if_pos he] at hw
      exact ⟨_, Le.tup (.cons (le_nil (k := 4)) (.cons (le_nil (k := 1)) (.cons (Le.refl _) .nil))), by rw [← i1, hw]; rfl, rfl⟩
    · simp at h
      have he : e = 0 := by omega
      subst he
      have ho := ho rfl
      rw [if_neg (show ¬ (0 : Nat) ≠ 0 by simp)] at hw
      first
        | (refine a_run hT 1 rfl rfl ?_; refine a_freezeK 7 20 rfl rfl rfl rfl rfl ?_)
        | (refine a_run hT 2 rfl rfl ?_; refine a_freezeK 7 20 rfl rfl rfl rfl rfl ?_)
        | (refine a_run hT 3 rfl rfl ?_; refine a_freezeK 7 20 rfl rfl rfl rfl rfl ?_)
        | refine a_freezeK 7 20 rfl rfl rfl rfl rfl ?_
      have hcut : p ≤ rest.length := by omega
      refine a_treeN hT [0, 8, 5, 6] (fun x : Value × Value => [.d (A.bytesD rest), .v (kI p) 0, .row x.1 12, .row x.2 13]) (fun x => [(12, .row x.1 59 4 ((acc ++ [((⟨fn, ft, fu, fd⟩ : FW), rest.take p)]).map fun y => fwD y.1)), (13, .row x.2 27 1 ((acc ++ [((⟨fn, ft, fu, fd⟩ : FW), rest.take p)]).map rawD))]) (fun _ => True) [12, 13] 14 [(0, false), (1, false), (4, false), (6, false), (7, false), (8, false)] rfl rfl (by kernel_rfl) (by kernel_rfl) rfl ?_ ?_
      · refine a_sl hT 0 p ((rest.take p).map eB) rfl rfl rfl rfl rfl rfl ⟨.i64, 0, rfl⟩ (by omega) (by rw [hrl]; omega) (by simp [List.map_take]) ?_
        refine a_alt hT [([(2, true)], false), ([(5, true), (2, true), (3, true), (9, true), (10, true), (11, true), (12, true), (13, true)], true)] rfl rfl (by kernel_rfl) ⟨?_, ?_, trivial⟩
        · refine a_lit hT 21 rfl rfl rfl rfl (by kernel_rfl) rfl rfl rfl rfl fun x21 => ?_
          refine a_alt hT [([(3, true), (5, true), (9, true), (10, true), (11, true), (12, true), (13, true)], true), ([(5, true), (3, true), (9, true), (10, true), (11, true), (12, true), (13, true)], true)] rfl rfl (by kernel_rfl) ⟨?_, ?_, trivial⟩
          · refine a_app hT 12 _ rfl rfl rfl rfl (by kernel_rfl) rfl rfl rfl rfl rfl rfl (by first | (simp; done) | (simp; omega) | (simp; unfold lim; omega) | (simp; assumption)) fun v4 => ?_
            refine a_lit hT 23 rfl rfl rfl rfl (by kernel_rfl) rfl rfl rfl rfl fun x23 => ?_
            refine a_app hT 23 _ rfl rfl rfl rfl (by kernel_rfl) rfl rfl rfl rfl rfl rfl (by simp only [List.nil_append, List.length_append, List.length_nil, List.length_map, List.length_take]; unfold lim; omega) fun v5 => ?_
            refine a_freezeR 30 23 rfl rfl rfl rfl ?_
            refine a_lit hT 24 rfl rfl rfl rfl (by kernel_rfl) rfl rfl rfl rfl fun x24 => ?_
            refine a_app hT 13 _ rfl rfl rfl rfl (by kernel_rfl) rfl rfl rfl rfl rfl rfl (by first | (simp; done) | (simp; omega) | (simp; unfold lim; omega) | (simp; assumption)) fun v6 => ?_
            exact a_next hT (v4, v6) [12, 13] rfl rfl trivial ⟨rfl, rfl, rfl, rfl, trivial⟩ rfl ⟨⟨rfl, rfl, rfl, by show _ = (acc ++ [_]).map _; rw [List.map_append]; rfl⟩, ⟨rfl, rfl, rfl, by show _ = (acc ++ [_]).map rawD; rw [List.map_append]; rfl⟩, trivial⟩
          · refine a_lit hT 23 rfl rfl rfl rfl (by kernel_rfl) rfl rfl rfl rfl fun x23 => ?_
            refine a_app hT 12 _ rfl rfl rfl rfl (by kernel_rfl) rfl rfl rfl rfl rfl rfl (by first | (simp; done) | (simp; omega) | (simp; unfold lim; omega) | (simp; assumption)) fun v4 => ?_
            refine a_app hT 23 _ rfl rfl rfl rfl (by kernel_rfl) rfl rfl rfl rfl rfl rfl (by simp only [List.nil_append, List.length_append, List.length_nil, List.length_map, List.length_take]; unfold lim; omega) fun v5 => ?_
            refine a_freezeR 30 23 rfl rfl rfl rfl ?_
            refine a_lit hT 24 rfl rfl rfl rfl (by kernel_rfl) rfl rfl rfl rfl fun x24 => ?_
            refine a_app hT 13 _ rfl rfl rfl rfl (by kernel_rfl) rfl rfl rfl rfl rfl rfl (by first | (simp; done) | (simp; omega) | (simp; unfold lim; omega) | (simp; assumption)) fun v6 => ?_
            exact a_next hT (v4, v6) [12, 13] rfl rfl trivial ⟨rfl, rfl, rfl, rfl, trivial⟩ rfl ⟨⟨rfl, rfl, rfl, by show _ = (acc ++ [_]).map _; rw [List.map_append]; rfl⟩, ⟨rfl, rfl, rfl, by show _ = (acc ++ [_]).map rawD; rw [List.map_append]; rfl⟩, trivial⟩
        · refine a_lit hT 23 rfl rfl rfl rfl (by kernel_rfl) rfl rfl rfl rfl fun x23 => ?_
          refine a_lit hT 21 rfl rfl rfl rfl (by kernel_rfl) rfl rfl rfl rfl fun x21 => ?_
          refine a_app hT 12 _ rfl rfl rfl rfl (by kernel_rfl) rfl rfl rfl rfl rfl rfl (by first | (simp; done) | (simp; omega) | (simp; unfold lim; omega) | (simp; assumption)) fun v4 => ?_
          refine a_app hT 23 _ rfl rfl rfl rfl (by kernel_rfl) rfl rfl rfl rfl rfl rfl (by simp only [List.nil_append, List.length_append, List.length_nil, List.length_map, List.length_take]; unfold lim; omega) fun v5 => ?_
          refine a_freezeR 30 23 rfl rfl rfl rfl ?_
          refine a_lit hT 24 rfl rfl rfl rfl (by kernel_rfl) rfl rfl rfl rfl fun x24 => ?_
          refine a_app hT 13 _ rfl rfl rfl rfl (by kernel_rfl) rfl rfl rfl rfl rfl rfl (by first | (simp; done) | (simp; omega) | (simp; unfold lim; omega) | (simp; assumption)) fun v6 => ?_
          exact a_next hT (v4, v6) [12, 13] rfl rfl trivial ⟨rfl, rfl, rfl, rfl, trivial⟩ rfl ⟨⟨rfl, rfl, rfl, by show _ = (acc ++ [_]).map _; rw [List.map_append]; rfl⟩, ⟨rfl, rfl, rfl, by show _ = (acc ++ [_]).map rawD; rw [List.map_append]; rfl⟩, trivial⟩
      · rintro ⟨v4, v6⟩ _
        refine a_sl hT p (rest.map eB).length ((rest.drop p).map eB) rfl rfl rfl rfl rfl ⟨.i64, 0, rfl⟩ rfl (by rw [hrl]; omega) (Nat.le_refl _) (slD rest p) ?_
        exact a_next hT (acc ++ [(⟨fn, ft, fu, fd⟩, rest.take p)], rest.drop p, v4, v6) [12, 13] rfl rfl ⟨⟨by rw [← i1, hw]; show (splitW (rest.drop p)).map _ = _; rw [Option.map_map]; congr 1; funext L; simp, by show (acc ++ [_]).length + (rest.drop p).length ≤ bs.length; rw [List.length_append, List.length_drop]; simp only [List.length_cons, List.length_nil]; omega⟩, by show (rest.drop p).length < rest.length; rw [List.length_drop]; omega⟩ ⟨rfl, rfl, rfl, trivial⟩ rfl ⟨⟨rfl, rfl, rfl, rfl⟩, ⟨rfl, rfl, rfl, rfl⟩, trivial⟩
end Go.Proofs.YtjcolfogmmjaoaaGreatDoor
end

section
set_option linter.unusedVariables false
set_option linter.unusedSimpArgs false
set_option maxRecDepth 100000
set_option maxHeartbeats 1000000
namespace Go.Proofs.YtjcolfogmmjaoaaGreatDoor
open V A
theorem Rwire_spec {k : Int} : FSpec Tryz.prog 47 [.v (kI k) 0] [] fun a cs => a = .v (kI (wireK k)) 0 ∧ cs = [] := by
  refine a_enter hT [.v (kI k) 0] [] Tryz.func47 rfl rfl rfl ⟨rfl, trivial⟩ fun c' => ?_
  refine a_if hT rfl rfl (fun h => ?_) (fun h => ?_)
  · have h := eq_of_beq h
    refine a_ret hT [] rfl rfl rfl rfl rfl rfl ?_
    have e : k = _ := h
    subst e
    exact ⟨rfl, rfl⟩
  · have h := ne_of_beq_false h
    refine a_if hT rfl rfl (fun h1 => ?_) (fun h1 => ?_)
    · have h1 := eq_of_beq h1
      refine a_ret hT [] rfl rfl rfl rfl rfl rfl ?_
      have e : k = _ := h1
      subst e
      exact ⟨rfl, rfl⟩
    · have h1 := ne_of_beq_false h1
      refine a_if hT rfl rfl (fun h2 => ?_) (fun h2 => ?_)
      · have h2 := eq_of_beq h2
        refine a_if hT rfl rfl (fun h3 => ?_) (fun h3 => ?_)
        · have h3 := eq_of_beq h3
          refine a_ret hT [] rfl rfl rfl rfl rfl rfl ?_
          have e : k = _ := h3
          subst e
          exact ⟨rfl, rfl⟩
        · have h3 := ne_of_beq_false h3
          (exfalso; first | omega | contradiction)
      · have h2 := ne_of_beq_false h2
        refine a_if hT rfl rfl (fun h3 => ?_) (fun h3 => ?_)
        · have h3 := eq_of_beq h3
          refine a_if hT rfl rfl (fun h4 => ?_) (fun h4 => ?_)
          · have h4 := eq_of_beq h4
            refine a_ret hT [] rfl rfl rfl rfl rfl rfl ?_
            have e : k = _ := h4
            subst e
            exact ⟨rfl, rfl⟩
          · have h4 := ne_of_beq_false h4
            (exfalso; first | omega | contradiction)
        · have h3 := ne_of_beq_false h3
          refine a_if hT rfl rfl (fun h4 => ?_) (fun h4 => ?_)
          · have h4 := eq_of_beq h4
            refine a_ret hT [] rfl rfl rfl rfl rfl rfl ?_
            have e : k = _ := h4
            subst e
            exact ⟨rfl, rfl⟩
          · have h4 := ne_of_beq_false h4
            refine a_ret hT [] rfl rfl rfl rfl rfl rfl ?_
            exact ⟨by unfold wireK; rw [if_neg (show ¬ k = 7 from h), if_neg (show ¬ k = 8 from h1), if_neg (by have h2 : ¬ k = 5 := h2; have h3 : ¬ k = 6 := h3; have h4 : ¬ k = 10 := h4; omega)]; rfl, rfl⟩
theorem Rfind_spec {d : MDP} {num : Int} (hl : d.fs.length ≤ 1000000) : FSpec Tryz.prog 46 [.agg ((eM d).map nd), .v (kI num) 0] [] fun a cs => ((findF d.fs num = none ∧ a = .v (kI (-1)) 0) ∨ (∃ (i : Nat) (f : FDP), d.fs[i]? = some f ∧ findF d.fs num = some f ∧ a = .v (kI i) 0)) ∧ cs = [] := by
  obtain ⟨dn, df⟩ := d
  refine a_enter hT [.agg ((eM ⟨dn, df⟩).map nd), .v (kI num) 0] [] Tryz.func46 rfl rfl rfl ⟨Fit.refl _, rfl, trivial⟩ fun c' => ?_
  refine a_box hT 20 rfl rfl rfl rfl fun g => ?_
  refine a_freezeK 2 20 rfl rfl rfl rfl rfl ?_
  have lf : (df.map eF).length = df.length := List.length_map _
  have hl : df.length ≤ 1000000 := hl
  refine a_loop hT [1, 2, 8, 9] (fun i : Nat => [.v (kI num) 0, .d (.p (eM ⟨dn, df⟩)), .v (kI df.length) 0, .v (kI i) 0]) (fun _ => []) (fun i => i ≤ df.length ∧ ∀ f ∈ df.take i, f.num ≠ num) (fun i => df.length - i) 0 [] rfl rfl ⟨Nat.zero_le _, by simp⟩ ⟨rfl, rfl, by rw [← lf]; rfl, rfl, trivial⟩ rfl trivial ?_
  rintro i ⟨hi, hno⟩
  have hw := wN i (by omega)
  rcases Nat.lt_or_ge i df.length with hil | hil
  · have hatf : (df.map eF)[(i : Int).toNat]? = some (eF df[i]) := by rw [Int.toNat_natCast, List.getElem?_map, List.getElem?_eq_getElem hil]; rfl
    have hat : df[i]? = some df[i] := List.getElem?_eq_getElem hil
    have htk : df.take (i + 1) = df.take i ++ [df[i]] := List.take_succ_eq_append_getElem hil
    have hdr : df.drop i = df[i] :: df.drop (i + 1) := List.drop_eq_getElem_cons hil
    generalize df[i] = f at hatf hat htk hdr
    refine a_t hT rfl rfl (decide_eq_true (by show (i : Int) < (df.length : Int); omega)) ?_
    refine a_ix hT _ rfl rfl rfl rfl rfl rfl (by omega) hatf ?_
    refine a_if hT rfl rfl (fun h => ?_) (fun h => ?_)
    · have h : f.num = num := eq_of_beq h
      refine a_ret hT [] rfl rfl rfl rfl rfl rfl ?_
      refine ⟨.inr ⟨i, f, hat, ?_, rfl⟩, rfl⟩
      unfold findF
      show df.find? _ = _
      rw [← List.take_append_drop i df, List.find?_append, List.find?_eq_none.2 (fun x hx => by simp [hno x hx]), hdr, List.find?_cons, decide_eq_true h]
      rfl
    · have h : ¬ f.num = num := ne_of_beq_false h
      exact a_next hT (i + 1) [] rfl rfl ⟨⟨by omega, take_mem htk hno h⟩, by omega⟩ ⟨rfl, rfl, rfl, by show Value.int .i64 _ = Value.int .i64 _; rw [hw], trivial⟩ rfl trivial
  · have hii : i = df.length := by omega
    subst hii
    rw [List.take_length] at hno
    refine a_f hT rfl rfl (decide_eq_false (by show ¬ (df.length : Int) < (df.length : Int); omega)) ?_
    refine a_ret hT [] rfl rfl rfl rfl rfl rfl ?_
    exact ⟨.inl ⟨List.find?_eq_none.2 (fun x hx => by simp [hno x hx]), rfl⟩, rfl⟩
theorem Rpacked_spec {k : Int} : FSpec Tryz.prog 48 [.v (kI k) 0] [] fun a cs => a = bA (packedK k) ∧ cs = [] := by
  have hW := Rwire_spec (k := k)
  refine a_enter hT [.v (kI k) 0] [] Tryz.func48 rfl rfl rfl ⟨rfl, trivial⟩ fun c' => ?_
  refine a_call hT rfl rfl rfl (by kernel_rfl) hW [] [] rfl rfl ?_
  rintro _ _ ⟨rfl, rfl⟩
  refine a_ret hT [] rfl rfl rfl rfl rfl rfl ?_
  exact b_eq (by simp [packedK, bne, BEq.beq])
theorem RKnown_spec {d : MDP} {num typ : Int} (hl : d.fs.length ≤ 1000000) : FSpec Tryz.prog 25 [.agg ((eM d).map nd), .v (kI num) 0, .v (kI typ) 0] [] fun a cs => a = bA (knownP d num typ) ∧ cs = [] := by
  have hF := Rfind_spec (num := num) hl
  have hk : knownP d num typ = match findF d.fs num with
    | none => false
    | some f => decide (typ = wireK f.kind) || (f.rep && (packedK f.kind && decide (typ = 2))) := rfl
  generalize knownP d num typ = K at hk ⊢
  obtain ⟨dn, df⟩ := d
  refine a_enter hT [.agg ((eM ⟨dn, df⟩).map nd), .v (kI num) 0, .v (kI typ) 0] [] Tryz.func25 rfl rfl rfl ⟨Fit.refl _, rfl, rfl, trivial⟩ fun c' => ?_
  refine a_box hT 20 rfl rfl rfl rfl fun g => ?_
  refine a_freezeK 3 20 rfl rfl rfl rfl rfl ?_
  refine a_call hT rfl rfl rfl (by kernel_rfl) hF [] [] rfl rfl ?_
  rintro _ _ ⟨⟨h1, rfl⟩ | ⟨i, f, h1, h2, rfl⟩, rfl⟩
  · rw [h1] at hk
    subst hk
    refine a_t hT rfl rfl rfl ?_
    refine a_ret hT [] rfl rfl rfl rfl rfl rfl ?_
    exact ⟨rfl, rfl⟩
  · rw [h2] at hk
    dsimp only at hk
    have h1 : df[i]? = some f := h1
    have hatf : (df.map eF)[(i : Int).toNat]? = some (eF f) := by rw [Int.toNat_natCast, List.getElem?_map, h1]; rfl
    obtain ⟨fnum, fname, fkind, frep, fty⟩ := f
    have hW := Rwire_spec (k := fkind)
    have hP := Rpacked_spec (k := fkind)
    refine a_f hT rfl rfl (decide_eq_false (by show ¬ (i : Int) < 0; omega)) ?_
    refine a_ix hT _ rfl rfl rfl rfl rfl rfl (by omega) hatf ?_
    refine a_new hT hZ 21 rfl rfl rfl rfl fun g1 => ?_
    refine a_call hT rfl rfl rfl (by kernel_rfl) hW [] [] rfl rfl ?_
    rintro _ _ ⟨rfl, rfl⟩
    refine a_g hT rfl rfl rfl (fun h => ?_) (fun h => ?_)
    · have h := eq_of_beq h
      refine a_ret hT [] rfl rfl rfl rfl rfl rfl ?_
      exact ⟨congrArg (fun b => AV.v (Value.bool b) 0) (by rw [hk]; simp_all [bne, BEq.beq]), rfl⟩
    · have h := ne_of_beq_false h
      refine a_g hT rfl rfl rfl (fun h3 => ?_) (fun h3 => ?_)
      · simp at h3
        refine a_call hT rfl rfl rfl (by kernel_rfl) hP [] [] rfl rfl ?_
        rintro _ _ ⟨rfl, rfl⟩
        refine a_g hT rfl rfl rfl (fun h4 => ?_) (fun h4 => ?_)
        · refine a_ret hT [] rfl rfl rfl rfl rfl rfl ?_
          exact ⟨congrArg (fun b => AV.v (Value.bool b) 0) (by rw [hk]; simp_all [bne, BEq.beq]), rfl⟩
        · refine a_ret hT [] rfl rfl rfl rfl rfl rfl ?_
          exact ⟨congrArg (fun b => AV.v (Value.bool b) 0) (by rw [hk]; simp_all [bne, BEq.beq]), rfl⟩
      · simp at h3
        refine a_gf hT rfl rfl rfl rfl ?_
        refine a_ret hT [] rfl rfl rfl rfl rfl rfl ?_
        exact ⟨congrArg (fun b => AV.v (Value.bool b) 0) (by rw [hk]; simp_all [bne, BEq.beq]), rfl⟩
end Go.Proofs.YtjcolfogmmjaoaaGreatDoor
end

section
set_option linter.unusedVariables false
set_option linter.unusedSimpArgs false
namespace Go.Proofs.YtjcolfogmmjaoaaGreatDoor.A
open V
open Go.ChangeShapes Go.RowKit
section
variable {H : Type} {enc : TypeId × Value → H} {P : Program}
theorem law_postW {s : ChangeSpec} {fn : Func} {f : FuncId} {b : TypeId} (tl : List TypeId) (hl : laidOutB P = true) (hp : fn.params.toList.all (fun t => P.readableRec t && decide (t < P.types.size)) = true)
    (hlay : layOk P tl = true) (hin : fn.params.toList.all tl.contains = true) (hb : fn.resultTypes = #[b]) (hub : P.underlying b = some .bool) (hvars : s.vars = [])
    (hfn : ∀ ds : List (DataW H), ds.length = fn.params.toList.length → (s.fn H ds).results = [.lit (.bool true)] ∧ (s.fn H ds).args = ds ∧ (s.fn H ds).vars = [])
    (W : World) (base : Nat) (args : Array Value) (ds gs : List (DataW H)) (before : List MemPlace) (hval : ∀ (j : Nat) t v, fn.params[j]? = some t → args[j]? = some v → Value.okWide P W .any base t v)
    (hW : DataW.Whole enc P fn.params.toList s.vars false W args.toList ds gs before)
    (hsz : (DataW.weightsEach P (fn.params.toList ++ s.plain.varTypes P) (ds ++ gs)).all (· ≤ reachBytes) = true) (hvt : s.plain.varTypes P = []) (walk : ArgsT P W fn.params.toList args.toList → Calls P f args W (LawR W)) :
    Calls P f args W fun e W' => ∃ v, e = .returned v ∧ s.post enc P fn false true false false W args v W' := by
  have hW' := hW
  obtain ⟨p, q, hA, hV, rfl, hfz, hnd⟩ := hW
  rw [hvars] at hV
  obtain ⟨rfl, rfl⟩ := trodVars_none hV
  obtain ⟨hargs, hn, hd⟩ := args_okT hlay hA hin (by simpa [hvt] using hsz) fun j t v hj hv => hval j t v (by simpa using hj) (by simpa using hv)
  refine (walk hargs).mono fun e W' ⟨he, hev⟩ => ?_
  subst he
  obtain ⟨r1, r2, r3⟩ := hfn (ds ++ []) (by simpa using hd)
  refine ⟨_, rfl, ds, [], p ++ [], [], p, [], hW', ?_, ?_, ?_, hev.below.frame _, fun h => by cases h⟩
  · rw [r1, hb]
    exact trodAll_mk1 (shut_bool hub _)
  · rw [r2]
    simpa using args_same hl hev.below hp hA (DataW.TrodAll.lt hA)
  · rw [hvars, r3]
    unfold DataW.TrodVars; rfl
end
end Go.Proofs.YtjcolfogmmjaoaaGreatDoor.A
namespace Go.Proofs.YtjcolfogmmjaoaaGreatDoor
open V A
open Go.Shelf
theorem u8_extra : U8Extra Tryz.prog u8Ren := ⟨by kernel_rfl, by kernel_rfl, by kernel_rfl, by kernel_rfl, by kernel_rfl, by kernel_rfl, by kernel_rfl⟩
theorem u8_tabs {w : World} {l : List (String × DataW Unit)} (h : laidMet Tryz.prog l w) (h3 : ("unicode/utf8.first", Go.Lib.firstData) ∈ l) (h4 : ("unicode/utf8.acceptRanges", Go.Lib.acceptData) ∈ l) : Lib.Utf8Tabs (u8g 3) (u8g 4) w :=
  utf8Tabs_of_readsT (U8Types.of196 u8Lay) u8_extra (Lib.laidMet.reads h h3) (Lib.laidMet.reads h h4)
theorem law_ofU {f : FuncId} {W : World} {args : Array Value} {xs : List AV} (ht : Lib.Utf8Tabs (u8g 3) (u8g 4) W) (spec : FSpec Tryz.prog f xs [u8C] fun a cs => a = .v (.bool true) 0 ∧ cs = [u8C]) (hr : Reps no W xs args.toList) : Calls Tryz.prog f args W (LawR W) := by
  have hh : HoldsL (or2 no no) W [u8C] no := ⟨no, no, fun b => ⟨.inl, fun h => h.elim id id⟩, fun _ h => h.elim, ⟨fun _ h => h, ht, fun h => h.elim id id, fun h => h.elim id id⟩, fun _ h => h⟩
  have := spec.out no no W args.toList (fun b h => h.elim) (fun b h => h.elim) hh (hr.of fun b _ h => h.elim id id)
  simp only [Array.toArray_toList] at this
  refine this.mono fun e w' ⟨v, a, cs, S', he, ha, hrep, _, hev, _⟩ => ?_
  rw [ha.1] at hrep
  rw [he, rep_v hrep]
  exact ⟨rfl, hev⟩
end Go.Proofs.YtjcolfogmmjaoaaGreatDoor
end

section
set_option linter.unusedVariables false
set_option linter.unusedSimpArgs false
set_option maxRecDepth 100000
set_option maxHeartbeats 2000000
namespace Go.Proofs.YtjcolfogmmjaoaaGreatDoor
open V A
theorem encTop_len (s : SchP) (v : VL) (t : Int) : (encTop s v t).1.length ≤ 4096 := by
  unfold encTop
  split
  · split
    · exact Nat.zero_le _
    · dsimp only; omega
  · exact Nat.zero_le _
theorem encTop_ok {s : SchP} {v : VL} {t : Int} (hwf : WfV v) (hw : wtV v ≤ 100000000) (h : (encTop s v t).2 = 0) : decTop s t (encTop s v t).1 = .ok (normP s v) ∧ fitsTop s v t = true := by
  unfold encTop at h ⊢
  split at h
  · rename_i hf
    rw [if_pos hf]
    split at h
    · cases h
    · rename_i hl
      rw [if_neg hl]
      exact ⟨dec_top hwf hw hf (by omega), hf⟩
  · cases h
end Go.Proofs.YtjcolfogmmjaoaaGreatDoor
end

section
set_option linter.unusedVariables false
set_option linter.unusedSimpArgs false
set_option maxRecDepth 100000
set_option maxHeartbeats 2000000
namespace Go.Proofs.YtjcolfogmmjaoaaGreatDoor
open V A
theorem enc_split {s : SchP} {t : Int} {fs : List VF} {u : ByteArray} (hs : SchOk s) (hw : WfV (.msg t fs u)) (hwt : wtV (.msg t fs u) ≤ 1000000000) (hf : fitsP s (.msg t fs u) t 1 = true) : ∃ wu : List (FW × List UInt8), splitW (encM s (.msg t fs u)) = some ((fs.flatMap (entF s (dAt s t))).map (fun f => (f, appW f)) ++ wu) ∧ (∀ x ∈ wu, knownP (dAt s t) x.1.num x.1.typ = false) ∧ fitsFs s (dAt s t) 1 fs 0 = true := by
  cases hw with
  | msg h1 h2 h3 h4 h5 =>
    rw [wtV_msg] at hwt
    unfold fitsP at hf
    rw [Bool.and_eq_true, Bool.and_eq_true] at hf
    obtain ⟨⟨f1, f2⟩, f3⟩ := hf
    cases hm : s.ms[t.toNat]? with
    | none => rw [hm] at f3; cases f3
    | some d =>
      rw [hm] at f3
      dsimp only at f3
      rw [Bool.and_eq_true] at f3
      obtain ⟨f4, f5⟩ := f3
      have hdm : d ∈ s.ms := List.mem_of_getElem? hm
      have hd : dAt s t = d := by unfold dAt; rw [hm]; rfl
      have hfo := hs.fs d hdm
      unfold unkOk at f4
      cases hu : splitW u.data.toList with
      | none => rw [hu] at f4; cases f4
      | some wu =>
        rw [hu] at f4
        dsimp only at f4
        have f4 : ∀ x ∈ wu, knownP d x.1.num x.1.typ = false := by simpa using f4
        have hE : ∀ x ∈ fs.flatMap (entF s d), formedW x = true ∧ x.n < 18446744073709551616 ∧ x.data.length < 18446744073709551616 := by
          intro x hx
          obtain ⟨y, hy, hxy⟩ := List.mem_flatMap.1 hx
          obtain ⟨num, vs⟩ := y
          obtain ⟨_, f, hff, hne, hrl, hv⟩ := fitsFs_mem f5 num vs hy
          have hwm := wtFs_mem hy
          rw [wtF_mk] at hwm
          exact (ent_ok hfo hff hv (fun v hv => h5 num vs v hy hv) (by omega) x hxy).1
        have hsp := split_apps (fs.flatMap (entF s d)) u.data.toList hE
        rw [hu] at hsp
        refine ⟨wu, ?_, by rw [hd]; exact f4, by rw [hd]; exact f5⟩
        rw [encM_msg, hd, encFs_ent, hsp]
        rfl
def riseP (d : MDP) : List FW → Int → Bool
  | [], _ => true
  | x :: l, last => if knownP d x.num x.typ = false then riseP d l last else if (x.num : Int) < last then false else riseP d l x.num
theorem rise_unk {d : MDP} : ∀ (l : List FW) (last : Int), (∀ x ∈ l, knownP d x.num x.typ = false) → riseP d l last = true
  | [], _, _ => rfl
  | x :: l, last, h => by
    unfold riseP
    rw [if_pos (h x (by simp))]
    exact rise_unk l last fun y hy => h y (by simp [hy])
theorem rise_same {d : MDP} {num : Int} {r : List FW} (hr : ∀ last, last ≤ num → riseP d r last = true) : ∀ (l : List FW) (last : Int), last ≤ num → (∀ x ∈ l, (x.num : Int) = num) → riseP d (l ++ r) last = true
  | [], last, h, _ => hr last h
  | x :: l, last, h, hx => by
    have e := hx x (by simp)
    rw [List.cons_append]
    unfold riseP
    split
    · exact rise_same hr l last h fun y hy => hx y (by simp [hy])
    · rw [if_neg (by omega)]
      exact rise_same hr l x.num (by omega) fun y hy => hx y (by simp [hy])
theorem rise_ents {s : SchP} {d : MDP} {dep : Int} {wu : List FW} (hu : ∀ x ∈ wu, knownP d x.num x.typ = false) : ∀ (fs : List VF) (last : Int), 0 ≤ last → fitsFs s d dep fs last = true → ∀ q, q ≤ last → riseP d (fs.flatMap (entF s d) ++ wu) q = true
  | [], last, _, _, q, _ => rise_unk wu q hu
  | .mk num vs :: fs, last, h0, h, q, hq => by
    obtain ⟨h1, f, hf, _⟩ := fitsFs_mem h num vs (by simp)
    rw [List.flatMap_cons, List.append_assoc]
    exact rise_same (fun l hl => rise_ents hu fs num (by omega) (fitsFs_tl h) l hl) _ q (by omega) (ent_num hf (by omega))
theorem encTop_fields {s : SchP} {v : VL} {t : Int} (hwf : WfV v) (hw : wtV v ≤ 100000000) (h : (encTop s v t).2 = 0) : ∃ ws, splitW (encTop s v t).1 = some ws ∧ riseP (dAt s t) (ws.map (·.1)) 0 = true := by
  unfold encTop at h ⊢
  split at h
  · rename_i hf
    rw [if_pos hf]
    split at h
    · cases h
    · rename_i hl
      rw [if_neg hl]
      have hnf := norm_top hf
      have hnw := norm_wf s v hwf
      have hnt := norm_wt s v
      generalize normP s v = w at hnf hnw hnt
      obtain ⟨fs, u, rfl, hform, ht0, ht1, hft⟩ := fits_msg hnf
      obtain ⟨wu, e1, e2, e3⟩ := enc_split (schOk hform) hnw (by omega) hft
      refine ⟨_, e1, ?_⟩
      rw [List.map_append, List.map_map, show ((·.1) ∘ fun f : FW => (f, appW f)) = id from rfl, List.map_id]
      exact rise_ents (fun x hx => by obtain ⟨y, hy, rfl⟩ := List.mem_map.1 hx; exact e2 y hy) fs 0 (Int.le_refl _) e3 0 (Int.le_refl _)
  · cases h
theorem raw_len : ∀ (ws : List (FW × List UInt8)), (∀ x ∈ ws, RawOk x) → ws.length ≤ (ws.flatMap (·.2)).length
  | [], _ => Nat.zero_le _
  | x :: ws, h => by
    have h1 := (h x (by simp)).2.2.1
    have h2 := raw_len ws fun y hy => h y (by simp [hy])
    rw [List.flatMap_cons, List.length_append, List.length_cons]
    omega
theorem EncodeFields_spec {s : SchP} {t : Int} {x : ND} (hb : BdS s) (hx : BdN x) (hrg : RgN x) : FSpec Tryz.prog 5 [schA s, .v (kI t) 0, ndA x] [u8C] fun a cs => a = bA true ∧ cs = [u8C] := by
  have hA := awake10_spec
  have hF := Few_spec hb hx
  have hok := fun h => ok_small x 0 400 (by decide) h
  have hwtx := wt_small x 0 400
  have hwfx := fun h h2 => wf_theirs x hrg (hok h) h2
  have hTx := fun h => Theirs_spec (hok h)
  generalize theirsP x = v at hwtx hwfx hTx
  generalize smallP x 0 400 = sx at *
  obtain ⟨xk, xn, xu, xb, xs, xt, xf⟩ := x
  refine a_enter hT [schA s, .v (kI t) 0, ndA (.mk xk xn xu xb xs xt xf)] [60] Tryz.func5 rfl rfl rfl ⟨Fit.refl _, rfl, Fit.refl _, trivial⟩ fun c' => ?_
  refine a_box hT 61 rfl rfl rfl rfl fun g1 => ?_
  refine a_box hT 62 rfl rfl rfl rfl fun g2 => ?_
  refine a_freezeK 3 61 rfl rfl rfl rfl rfl ?_
  refine a_freezeK 5 62 rfl rfl rfl rfl rfl ?_
  refine a_call hT rfl rfl rfl (by kernel_rfl) hA [60] [60] rfl rfl ?_
  rintro _ _ ⟨rfl, rfl⟩
  refine a_gf hT rfl rfl rfl rfl ?_
  refine a_call hT rfl rfl rfl (by kernel_rfl) hF [] [] rfl rfl ?_
  rintro _ _ ⟨⟨b1, rfl, h1⟩, rfl⟩
  cases b1 with
  | false =>
    refine a_t hT rfl rfl rfl ?_
    refine a_call hT rfl rfl rfl (by kernel_rfl) hA [60] [60] rfl rfl ?_
    rintro _ _ ⟨rfl, rfl⟩
    refine a_ret hT [60] rfl rfl rfl rfl rfl rfl ?_
    exact ⟨rfl, rfl⟩
  | true =>
  refine a_f hT rfl rfl rfl ?_
  obtain ⟨hs, q1⟩ := h1 rfl
  have hwtx := hwtx q1
  have hwfx := hwfx q1 (by omega)
  have hTx := hTx q1
  clear hF hok h1
  have hE := (Encode_spec hs hwfx (by omega) (t := t)).les (.cons (Le.refl _) (.cons (Le.refl _) (.cons nd_of .nil)))
  have ho := encTop_ok (s := s) (t := t) hwfx (by omega)
  have hr := encTop_fields (s := s) (t := t) hwfx (by omega)
  have hl := encTop_len s v t
  have hz : (encTop s v t).2 ≠ 0 → (encTop s v t).1 = [] := fun h => by
    unfold encTop at h ⊢
    split
    · rename_i hf
      rw [if_pos hf] at h
      split
      · rfl
      · rename_i h2
        rw [if_neg h2] at h
        exact absurd rfl h
    · rfl
  generalize encTop s v t = R at hE ho hl hr hz
  obtain ⟨bs, er⟩ := R
  dsimp only at ho hl hr hz
  have l1 := bytesD_len bs
  refine a_draw hT [60] false [(0, false), (1, false), (2, false), (3, true), (4, true), (5, true), (6, false), (7, false), (8, true), (9, true)] rfl rfl (by kernel_rfl) (by kernel_rfl) rfl ?_
  refine a_call hT rfl rfl rfl (by kernel_rfl) hTx [] [] rfl rfl ?_
  rintro _ _ ⟨rfl, rfl⟩
  refine a_call hT rfl rfl rfl (by kernel_rfl) hE [60] [60] rfl rfl ?_
  rintro _ _ ⟨rfl, rfl⟩
  refine a_if hT rfl rfl (fun h => ?_) (fun h => ?_)
  · have h : (!decide (er = 0)) = true := h
    have he : er ≠ 0 := by simpa using h
    have hz := hz he
    subst hz
    refine a_ret hT [60] rfl rfl rfl rfl rfl rfl ?_
    exact ⟨rfl, rfl⟩
  · have h : (!decide (er = 0)) = false := h
    have he : er = 0 := by simpa using h
    subst he
    obtain ⟨o1, o2⟩ := ho rfl
    obtain ⟨ws, r1, r2⟩ := hr rfl
    have hSp := RSplit_spec (bs := bs) (by omega)
    rw [r1] at hSp
    have hcat := splitW_cat _ _ _ (Nat.le_refl _) r1
    have hraw := split_raw _ _ _ (Nat.le_refl _) r1
    obtain ⟨fs1, u1, ev, hform, t0, t1, _⟩ := fits_msg o2
    have lm : (s.ms.map eM).length = s.ms.length := List.length_map _
    refine a_gf hT rfl rfl rfl (decide_eq_false (by show ¬ t < 0; omega)) ?_
    refine a_f hT rfl rfl (decide_eq_false (by show ¬ t ≥ ((s.ms.map eM).length : Int); omega)) ?_
    refine a_call hT rfl rfl rfl (by kernel_rfl) hSp [] [] rfl rfl ?_
    rintro _ _ ⟨rfl, rfl⟩
    have hwl : ws.length ≤ bs.length := by
      rw [← hcat]
      exact raw_len ws hraw
    have lw : (ws.map fun x => fwD x.1).length = ws.length := List.length_map _
    have hat : (s.ms.map eM)[t.toNat]? = some (eM (dAt s t)) := by
      have hm : s.ms[t.toNat]? = some (s.ms[t.toNat]'(by omega)) := List.getElem?_eq_getElem (by omega)
      rw [List.getElem?_map, hm]
      unfold dAt
      rw [hm]
      rfl
    have hdm : dAt s t ∈ s.ms := by
      have hm : s.ms[t.toNat]? = some (s.ms[t.toNat]'(by omega)) := List.getElem?_eq_getElem (by omega)
      unfold dAt
      rw [hm]
      exact List.getElem_mem _
    have hlf := (schOk hform).len _ hdm
    generalize dAt s t = d at *
    obtain ⟨dn, df⟩ := d
    have hlf : df.length ≤ 32 := hlf
    have hK := fun (n k : Nat) => RKnown_spec (d := ⟨dn, df⟩) (num := (n : Int)) (typ := (k : Int)) (by show df.length ≤ 1000000; omega)
    have hrn : ∀ x ∈ ws.map (·.1), (x.num : Int) ≤ 536870911 := fun x hx => by
      obtain ⟨y, hy, rfl⟩ := List.mem_map.1 hx
      have := (formedW_cases (hraw y hy).1).1
      omega
    refine a_loop hT [1, 3, 7, 9, 11, 12, 52, 53] (fun i : Nat × Int => [.v (kI t) 0, .d (.p (schD s)), .d (A.bytesD bs), .d (.sl 4 (ws.map fun x => fwD x.1)), .v (kI 0) 0, .v (kI i.2) 0, .v (kI ws.length) 0, .v (kI i.1) 0]) (fun _ => [(60, u8C)]) (fun i => i.1 ≤ ws.length ∧ riseP ⟨dn, df⟩ ((ws.map (·.1)).drop i.1) i.2 = true) (fun i => ws.length - i.1) (0, 0) [60] rfl rfl ⟨Nat.zero_le _, r2⟩ ⟨rfl, rfl, rfl, rfl, rfl, rfl, by rw [← lw]; rfl, rfl, trivial⟩ rfl ⟨rfl, trivial⟩ ?_
    rintro ⟨i, last⟩ ⟨i1, i2⟩
    dsimp only at i1 i2
    have hw := wN i (by omega)
    rcases Nat.lt_or_ge i ws.length with hil | hil
    · have hatw : (ws.map fun x => fwD x.1)[(i : Int).toNat]? = some (fwD ws[i].1) := by rw [Int.toNat_natCast, List.getElem?_map, List.getElem?_eq_getElem hil]; rfl
      have hdr : (ws.map (·.1)).drop i = ws[i].1 :: (ws.map (·.1)).drop (i + 1) := by
        rw [List.drop_eq_getElem_cons (by rw [List.length_map]; exact hil), List.getElem_map]
      rw [hdr] at i2
      generalize ws[i].1 = y at hatw i2
      obtain ⟨yn, yt, yu, yd⟩ := y
      have hK := hK yn yt
      unfold riseP at i2
      dsimp only at i2
      refine a_t hT rfl rfl (decide_eq_true (by show (i : Int) < (ws.length : Int); omega)) ?_
      refine a_draw hT [60] false [(0, false), (2, false), (5, false), (6, false), (10, false), (11, false), (1, false), (7, false), (12, false), (3, false), (8, false), (13, false), (4, false), (9, false), (14, false), (15, true), (16, false)] rfl rfl (by kernel_rfl) (by kernel_rfl) rfl ?_
      refine a_ix hT _ rfl rfl rfl rfl rfl rfl (by omega) hatw ?_
      refine a_ix hT _ rfl rfl rfl rfl rfl rfl (by omega) hatw ?_
      refine a_ix hT _ rfl rfl rfl rfl rfl rfl (by omega) hat ?_
      refine a_call hT rfl rfl rfl (by kernel_rfl) hK [] [] rfl rfl ?_
      rintro _ _ ⟨rfl, rfl⟩
      cases hk : knownP ⟨dn, df⟩ yn yt with
      | false =>
        rw [if_pos hk] at i2
        refine a_t hT rfl rfl rfl ?_
        exact a_next hT (i + 1, last) [60] rfl rfl ⟨⟨by show i + 1 ≤ ws.length; omega, i2⟩, by show ws.length - (i + 1) < ws.length - i; omega⟩ ⟨rfl, rfl, rfl, rfl, rfl, rfl, rfl, by show Value.int .i64 _ = Value.int .i64 _; rw [hw], trivial⟩ rfl ⟨rfl, trivial⟩
      | true =>
        rw [if_neg (by rw [hk]; decide)] at i2
        split at i2
        · cases i2
        · rename_i hlt
          refine a_f hT rfl rfl rfl ?_
          refine a_ix hT _ rfl rfl rfl rfl rfl rfl (by omega) hatw ?_
          refine a_f hT rfl rfl (decide_eq_false hlt) ?_
          refine a_ix hT _ rfl rfl rfl rfl rfl rfl (by omega) hatw ?_
          exact a_next hT (i + 1, (yn : Int)) [60] rfl rfl ⟨⟨by show i + 1 ≤ ws.length; omega, i2⟩, by show ws.length - (i + 1) < ws.length - i; omega⟩ ⟨rfl, rfl, rfl, rfl, rfl, rfl, rfl, by show Value.int .i64 _ = Value.int .i64 _; rw [hw], trivial⟩ rfl ⟨rfl, trivial⟩
    · refine a_f hT rfl rfl (decide_eq_false (by show ¬ (i : Int) < (ws.length : Int); omega)) ?_
      refine a_gt hT rfl rfl rfl rfl ?_
      refine a_ret hT [60] rfl rfl rfl rfl rfl rfl ?_
      exact ⟨congrArg (fun b => AV.v (Value.bool b) 0) (decide_eq_true (by show ((bs.map eB).length : Int) ≤ 4096; omega)), rfl⟩
theorem encodeFields_row (W : World) (args : Array Value) (htab : Lib.Utf8Tabs (u8g 3) (u8g 4) W) (ha : ArgsT Tryz.prog W Tryz.f5.params.toList args.toList) : Calls Tryz.prog 5 args W (LawR W) := by
  obtain ⟨v1, r, e, h1, ha⟩ := argsT_cons ha
  obtain ⟨v2, r, rfl, h2, ha⟩ := argsT_cons ha
  obtain ⟨v3, r, rfl, h3, ha⟩ := argsT_cons ha
  obtain rfl := argsT_nil ha
  have e : args = #[v1, v2, v3] := Array.ext' e
  subst e
  obtain ⟨s, hr1, hs⟩ := argT_sch h1
  obtain ⟨t, rfl, _⟩ := argT_int Tryz.underlying3 (by kernel_rfl) h2
  obtain ⟨x, hr3, hx, hxr⟩ := argT_ndR h3
  exact law_ofU htab (EncodeFields_spec hs hx hxr) (Reps.cons hr1 (Reps.cons mk_v (Reps.cons hr3 Reps.nil)))
end Go.Proofs.YtjcolfogmmjaoaaGreatDoor
end
