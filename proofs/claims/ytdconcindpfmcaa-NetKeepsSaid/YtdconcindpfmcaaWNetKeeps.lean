/- The walk of NetKeeps: what is sent, told and delivered is memory of its own. Whatever the bytes. -/
import Derived.Test.YtdconcindpfmcaaNd
set_option linter.unusedVariables false
set_option linter.unusedSimpArgs false
namespace Go.Proofs.Ytdconcindpfmcaa
open V

set_option maxRecDepth 100000 in
theorem netKeeps_walk (W : World) (args : Array Value) (h : ArgsOk Try.prog W [31, 51, 5] [[.sl [.int .u8]], [.int .u64], [.int .u8]] args.toList) : Calls Try.prog 9 args W (LawR W) := by
  obtain ⟨x, at_, by_, bl, rfl, hx, hbl, hat⟩ : ∃ (x : Value) (at_ : Nat) (by_ : UInt8) (bl : List UInt8), args = #[x, .int .u64 at_, byV by_] ∧ ARep no W (bytesD bl) x ∧ bl.length ≤ reachBytes ∧ at_ < 18446744073709551616 := by
    obtain ⟨v1, v2, v3, rfl, h1, h2, h3⟩ := argv_three h
    obtain ⟨bl, hx, hbl⟩ := arg_bytes h1 (by kernel_rfl)
    obtain ⟨m, rfl, hm⟩ := arg_u64 h2 (by kernel_rfl)
    obtain ⟨b, rfl⟩ := arg_u8 h3 (by kernel_rfl)
    exact ⟨v1, m, b, bl, rfl, hx, hbl, hm⟩
  obtain ⟨A, c, rfl, hc, hcell⟩ := bytes_cells hx
  refine enter hT [.slice A bl.length c, .int .u64 at_, byV by_] Try.func9 rfl rfl rfl ?_
  refine go_call hT rfl rfl (by kernel_rfl) rfl (awake_true _) ?_
  rintro e w1 ⟨rfl, he1⟩
  refine ⟨_, rfl, trivial, ?_⟩
  have hend : ∀ {w : World}, Ev no W w → True := fun _ => trivial
  refine go_gf hT rfl rfl rfl ?_
  refine go_g hT rfl rfl (fun h0 => ?_) (fun h0 => ?_)
  · refine go_t hT rfl rfl ?_
    refine go_call hT rfl rfl (by kernel_rfl) rfl (awake_true _) ?_
    rintro e w2 ⟨rfl, he2⟩
    refine ⟨_, rfl, trivial, ?_⟩
    exact go_ret hT [.bool true] rfl rfl ⟨rfl, trivial⟩ ⟨rfl, he1.trans he2⟩
  refine go_if hT rfl (fun hb => ?_) (fun hb => ?_)
  · refine go_call hT rfl rfl (by kernel_rfl) rfl (awake_true _) ?_
    rintro e w2 ⟨rfl, he2⟩
    refine ⟨_, rfl, trivial, ?_⟩
    exact go_ret hT [.bool true] rfl rfl ⟨rfl, trivial⟩ ⟨rfl, he1.trans he2⟩
  have hb1 : bl.length ≤ 1000 := by have := of_decide_eq_false hb; omega
  have hb0 : bl.length ≠ 0 := by intro e; simp [e] at h0
  refine go_call hT rfl rfl (by kernel_rfl) rfl (new_S he1) ?_
  rintro e w2 ⟨g, rfl, hg, v, bs, hn2, he2, hf2⟩
  refine ⟨_, rfl, trivial, ?_⟩
  have lt2 := hn2.lt
  refine go_lit0 hT (M := no) rfl rfl rfl fun u w3 hu3 he3 => ⟨trivial, ?_⟩
  refine go_app hT rfl rfl rfl el8 rfl rfl hu3 he3.size ((hx.to he2).past he3 (M' := or2 no (ob u)) fun b hb => hb.elim (fun h => h.elim) fun hb => .inr (hu3.lt b hb).1) (by simp; unfold lim; omega) fun u4 w4 hu4 he4 hob4 => ⟨trivial, ?_⟩
  have hown : OwnB w4 w2.heap.size bl u4 := OwnB.of (M := no) (by simpa using hu4)
  have e24 : Ev no w2 w4 := he3.then he4 fun i hi h => by have := (hu3.lt i h).1; omega
  obtain ⟨gu, capu, curu, rfl, hblk4, c1, c2, c3, c4, c5⟩ := hown.pos (by intro e; simp [e] at hb0)
  have hwl : IntKind.wrap .u64 (bl.length : Int) = (bl.length : Int) := wrapU64 (by omega) (by omega)
  have hk : at_ % bl.length < bl.length := Nat.mod_lt _ (by omega)
  refine go_rem hT ((at_ % bl.length : Nat) : Int) rfl rfl rfl rfl (by simp only [hwl]; omega) (by rw [hwl]; rfl) ?_
  have hkw : IntKind.wrap .i64 ((at_ % bl.length : Nat) : Int) = ((at_ % bl.length : Nat) : Int) := wrap64 (by omega) (by omega)
  generalize at_ % bl.length = k at hk hkw ⊢
  have s24 := e24.size
  have hfp : ∀ b, fp2 g v b → b < w2.heap.size := fun b hb => lt2 b (fp2_fp b hb)
  have hn4 := hn2.ev e24 fun _ _ h => h
  have l4 := hblk4.lt
  have hx4 : ARep (fp2 g v) w4 (bytesD bl) (.slice (some ⟨gu, 0, none⟩) bl.length capu) := hown.read _ fun b hb h => by have := (hown.lt b hb).1; have := hfp b h; omega
  refine go_call hT rfl rfl (by kernel_rfl) rfl (send_room (l := []) hn4 hx4 (by unfold lim; omega) (by simp) (by omega) (by omega)) ?_
  rintro e w5 ⟨rfl, v5, b5, hn5, he5, hv5, hb5⟩
  refine ⟨_, rfl, trivial, ?_⟩
  have hblk5 := hblk4.ev he5 fun h => by have := hfp _ h; omega
  have hf5 : ∀ b, fp g v5 (bs ++ [b5]) b → b < w2.heap.size ∨ w4.heap.size ≤ b := fun b hb => (fp_app g v v5 bs b5 _ hv5 hb5 b hb).imp (lt2 b) id
  have hadd : (⟨gu, 0, none⟩ : Addr).add (((k : Int)).toNat * 1) = ⟨gu, k, none⟩ := by rw [add_plain]; simp
  rw [hkw]
  refine go_ix hT rfl rfl rfl rfl rfl (by omega) (by omega) ?_
  rw [hadd]
  refine go_ldB hT rfl rfl rfl rfl hblk5 (take_get c4 hk) ?_
  refine go_ix hT rfl rfl rfl rfl rfl (by omega) (by omega) ?_
  rw [hadd]
  refine go_stB hT rfl rfl rfl rfl (v := byV (bl[k] + 1)) (congrArg (Value.int .u8) (add_u8 bl[k] 1)) rfl hblk5 (by simp; omega) fun w6 he6 _ => ?_
  have s5 := he5.size
  have hn6 := hn5.ev he6 fun b hb h => by simp only [at1] at h; have := hf5 b hb; omega
  have e46 : Ev no W w6 := ((he2.trans e24).then he5 fun i hi h => by have := hf2 i (fp2_fp i h); omega).then he6 fun i hi h => by simp only [at1] at h; have := he2.size; omega
  have hS6 : NetS W w6 g [⟨1, 1, 0, bl⟩] 1 := ⟨v5, bs ++ [b5], hn6, e46, fun b hb => by
    have := he2.size
    rcases fp_app g v v5 bs b5 _ hv5 hb5 b hb with h | h
    · exact hf2 b h
    · omega⟩
  refine go_call hT rfl rfl (by kernel_rfl) rfl (double_S (i := 0) hS6 rfl (by simp) (by unfold lim; show bl.length ≤ _; omega) (by omega) (by omega)) ?_
  rintro e w7 ⟨rfl, hS7⟩
  refine ⟨_, rfl, trivial, ?_⟩
  refine go_call hT rfl rfl (by kernel_rfl) rfl (damage_S (i := 0) (j := k) hS7 rfl hk) ?_
  rintro e w8 ⟨rfl, hS8⟩
  refine ⟨_, rfl, trivial, ?_⟩
  have hq : (⟨1, 1, 0, bl⟩ : Pkt).bytes.set k ((⟨1, 1, 0, bl⟩ : Pkt).bytes.getD k 0 ^^^ by_) = bl.set k (bl[k] ^^^ by_) := by
    show bl.set k (bl.getD k 0 ^^^ by_) = _
    rw [List.getD_eq_getElem?_getD, List.getElem?_eq_getElem hk]; rfl
  have hS8' : NetS W w8 g [⟨1, 1, 0, bl.set k (bl[k] ^^^ by_)⟩, ⟨2, 1, 0, bl⟩] 2 := by
    have := hS8
    rw [hq] at this
    exact this
  refine go_call hT rfl rfl (by kernel_rfl) rfl (all_S hS8' (by simp) (by simp; unfold lim; omega)) ?_
  rintro e w9 ⟨v9, bs9, rfl, he9, hrow9⟩
  refine ⟨_, rfl, trivial, ?_⟩
  obtain ⟨gv9, cap9, b9, A9, c9, rfl, rfl, hb9, hcell9, hob9, hgv9⟩ := hrow9.pkt (i := 1) (p := ⟨2, 1, 0, bl⟩) rfl
  obtain ⟨gb9, capb9, cur9, he, hblk9, d1, d2, d3, d4, d5⟩ := hob9.pos (fun e => hb0 (by rw [show bl = [] from e]; rfl))
  cases he
  refine go_f hT rfl rfl ?_
  refine go_ix hT rfl rfl rfl rfl rfl (by omega) (by simp) ?_
  refine go_ld hT rfl rfl rfl rfl (hcell9 3 _ rfl) ?_
  refine go_ix hT rfl rfl rfl rfl rfl (by omega) (by simpa using hk) ?_
  have hadd9 : (⟨gb9, 0, none⟩ : Addr).add (((k : Int)).toNat * 1) = ⟨gb9, k, none⟩ := by rw [add_plain]; simp
  rw [hadd9]
  refine go_ldB hT rfl rfl rfl rfl hblk9 (take_get d4 hk) ?_
  refine go_ix hT rfl rfl rfl rfl rfl (by omega) (by simpa using hk) ?_
  rw [hadd9]
  refine go_stB hT rfl rfl rfl rfl (v := byV (bl[k] + 1)) (congrArg (Value.int .u8) (add_u8 bl[k] 1)) rfl hblk9 (by simp; simp at d1; omega) fun w10 he10 _ => ?_
  have hS10 : NetS W w10 g [⟨1, 1, 0, bl.set k (bl[k] ^^^ by_)⟩, ⟨2, 1, 0, bl⟩] 2 := hS8'.to (he9.then he10 fun i hi h => by simp only [at1] at h; omega)
  obtain ⟨v10, bs10, hn10, he010, hf10⟩ := hS10
  refine go_call hT rfl rfl (by kernel_rfl) rfl (deliver_in (i := 1) hn10 rfl (by simp) (by unfold lim; show bl.length ≤ _; omega)) ?_
  rintro e w11 ⟨y, v11, rfl, hn11, he11, hy, hvb11, hysep⟩
  refine ⟨_, rfl, trivial, ?_⟩
  have lt10 := hn10.lt
  have hyl := hy.lt
  have hf11 : ∀ b, fp g v11 (bs10.eraseIdx 1) b → b < w10.heap.size := fun b hb => lt10 b (fp_cut hvb11 (List.eraseIdx_sublist ..) b hb)
  have s10 := he010.size
  have s11 := he11.size
  have e11 : Ev no W w11 := he010.then he11 fun i hi h => by have := hf10 i (fp2_fp i h); omega
  obtain ⟨Ay, cy, rfl, -⟩ := hy.shape
  refine go_newB hT (.agg #[.int .i64 0, .int .i64 0, .int .i64 0, .slice none 0 0]) (cs := [.int .i64 0, .int .i64 0, .int .i64 0, .slice none 0 0]) rfl rfl (by kernel_rfl) rfl fun w12 g12 he12 hg12 hb12 => ⟨trivial, ?_⟩
  have l12 := hb12.lt
  have s12 := he12.size
  refine go_staB hT [.int .i64 2, .int .i64 1, .int .i64 0, .slice Ay bl.length cy] rfl rfl rfl rfl rfl (by simp [Value.oneCell']) hb12 rfl fun w13 he13 hb13 => ⟨trivial, ?_⟩
  have s13 := he13.size
  have e1113 : Ev no w11 w13 := he12.then he13 fun i hi h => by simp only [at1] at h; omega
  have hn13 := hn11.ev e1113 fun _ _ h => h
  have hy13 := hy.ev e1113 fun _ _ h => h
  refine go_call hT rfl rfl (by kernel_rfl) rfl (deliver_in (i := 0) hn13 rfl (by simp) (by unfold lim; show (bl.set k _).length ≤ _; rw [List.length_set]; omega)) ?_
  rintro e w14 ⟨z, v14, rfl, hn14, he14, hz, hvb14, hzsep⟩
  refine ⟨_, rfl, trivial, ?_⟩
  have hfp13 : ∀ b, fp2 g v11 b → b < w10.heap.size := fun b hb => hf11 b (fp2_fp b hb)
  have hb14 := hb13.ev he14 fun h => by have := hfp13 _ h; omega
  have hy14 := hy13.ev he14 fun b hb h => by have := (hyl b hb).1; have := hfp13 b h; omega
  have e14 : Ev no W w14 := (e11.trans e1113).then he14 fun i hi h => by
    have := hf10 i (fp_cut (bs' := bs10.eraseIdx 1) hvb11 (List.eraseIdx_sublist ..) i (fp2_fp i h)); omega
  have s14 := he14.size
  have hzl := hz.lt
  obtain ⟨gz, capz, curz, rfl, hblkz, z1, z2, z3, z4, z5⟩ := hz.pos (fun e => hb0 (by
    have : (bl.set k (bl[k] ^^^ by_)).length = 0 := by rw [show bl.set k (bl[k] ^^^ by_) = [] from e]; rfl
    simpa using this))
  refine go_newB hT (.agg #[.int .i64 0, .int .i64 0, .int .i64 0, .slice none 0 0]) (cs := [.int .i64 0, .int .i64 0, .int .i64 0, .slice none 0 0]) rfl rfl (by kernel_rfl) rfl fun w15 g15 he15 hg15 hb15 => ⟨trivial, ?_⟩
  have l15 := hb15.lt
  have lz := hblkz.lt
  have l14 := hb14.lt
  refine go_staB hT [.int .i64 1, .int .i64 1, .int .i64 0, .slice (some ⟨gz, 0, none⟩) (bl.set k (bl[k] ^^^ by_)).length capz] rfl rfl rfl rfl rfl (by simp [Value.oneCell']) hb15 rfl fun w16 he16 hb16 => ⟨trivial, ?_⟩
  have e1416 : Ev no w14 w16 := he15.then he16 fun i hi h => by simp only [at1] at h; omega
  have ed : Ev no w14 w16.drew := e1416.trans (Ev.drew w16)
  have hbp := hb14.ev ed (fun h => h)
  have hyp := (hy14.ev ed fun _ _ h => h).read no fun _ _ h => h
  have hbq := hb16.ev (Ev.drew w16) (fun h => h)
  have hblkq := hblkz.ev ed (fun h => h)
  have exd : Ev no W w16.drew := e14.trans ed
  refine go_draw hT (fun w' => w' = w16.drew) false [(0, false), (3, false), (1, false), (4, false), (2, false), (5, false), (6, false), (7, false), (9, false), (12, false), (13, false), (16, false), (8, false), (14, false), (10, false), (15, false), (11, false), (17, false), (18, false), (19, false), (20, false)] rfl (by kernel_rfl) (by kernel_rfl) rfl ?_
  refine go_ldS hT rfl rfl rfl rfl (fun w' h => by subst h; exact hbp.cell 3 rfl) ?_
  refine go_strS hT rfl rfl rfl rfl rfl rfl (fun w' h => by subst h; exact hx.to exd) ?_
  refine go_strS hT rfl rfl rfl rfl rfl rfl (fun w' h => by subst h; exact hyp) ?_
  refine go_gt hT rfl rfl (by simp) ?_
  refine go_ldS hT rfl rfl rfl rfl (fun w' h => by subst h; exact hbq.cell 3 rfl) ?_
  obtain ⟨ad, rfl, -, hcb⟩ := hcell (by intro e; simp [e] at hb0)
  refine go_ix hT rfl rfl rfl rfl rfl (by omega) (by omega) ?_
  refine go_ix hT rfl rfl rfl rfl rfl (by omega) (by simpa using hk) ?_
  refine go_ldS hT rfl rfl rfl (v := byV bl[k]) rfl (fun w' h => by subst h; exact exd.cell (a := ad.add (((k : Int)).toNat * 1)) (hcb _ _ (by simp [List.getElem?_map, List.getElem?_eq_getElem hk])) fun h => h) ?_
  have haddz : (⟨gz, 0, none⟩ : Addr).add (((k : Int)).toNat * 1) = ⟨gz, k, none⟩ := by rw [add_plain]; simp
  rw [haddz]
  have hkz : k < (bl.set k (bl[k] ^^^ by_)).length := by rw [List.length_set]; exact hk
  refine go_ldS hT rfl rfl rfl rfl (fun w' h => by subst h; exact hblkq.cell k (take_get z4 hkz)) ?_
  refine go_xor hT _ rfl rfl rfl rfl (xor_u8 bl[k] by_) ?_
  refine go_ret hT [.bool true] rfl rfl ⟨congrArg Value.bool ?_, trivial⟩ ⟨rfl, exd⟩
  simp [byV]
end Go.Proofs.Ytdconcindpfmcaa
