/- The walk of NetOrders: what is sent comes in the order in which it was sent, as it was. Whatever the bytes. -/
import Derived.Test.YtdconcindpfmcaaNc
set_option linter.unusedVariables false
set_option linter.unusedSimpArgs false
namespace Go.Proofs.Ytdconcindpfmcaa
open V

def ordP : Nat → List (List UInt8) → List Pkt
  | _, [] => []
  | i, b :: bs => ⟨(i : Int) + 1, i, 0, b⟩ :: ordP (i + 1) bs
theorem ordP_app : ∀ (bs : List (List UInt8)) (i : Nat) (b : List UInt8), ordP i (bs ++ [b]) = ordP i bs ++ [⟨((i + bs.length : Nat) : Int) + 1, ((i + bs.length : Nat) : Int), 0, b⟩]
  | [], i, b => by simp [ordP]
  | c :: bs, i, b => by simp [ordP, ordP_app bs (i + 1) b, Nat.add_assoc, Nat.add_comm 1]
theorem ordP_len : ∀ (bs : List (List UInt8)) (i : Nat), (ordP i bs).length = bs.length
  | [], i => rfl
  | c :: bs, i => by simp [ordP, ordP_len bs]
set_option maxRecDepth 100000 in
theorem netOrders_walk (W : World) (args : Array Value) (h : ArgsOk Try.prog W [27, 5] [[.sl [.sl [.int .u8]]], [.int .u8]] args.toList) : Calls Try.prog 6 args W (LawR W) := by
  obtain ⟨x, k, ls, rfl, hx, hls⟩ : ∃ (x : Value) (k : UInt8) (ls : List (List UInt8)), args = #[x, byV k] ∧ ARep no W (.sl 1 (ls.flatMap fun l => [bytesD l])) x ∧ ls.length ≤ reachBytes := by
    obtain ⟨v1, v2, rfl, h1, h2⟩ := argv_two h
    obtain ⟨k, rfl⟩ := arg_u8 h2 (by kernel_rfl)
    obtain ⟨ls, hx, hl, _⟩ := arg_many h1 (by kernel_rfl) (fun l => [bytesD l]) (fun _ => True) fun ds hd => by
      obtain ⟨d, r, rfl, h3, h4⟩ := hd.cons
      obtain ⟨l, rfl, _⟩ := h3.bytes
      exact ⟨l, by rw [h4.nil], trivial⟩
    exact ⟨v1, k, ls, rfl, hx, hl⟩
  obtain ⟨A, c, rfl, hc, hr⟩ := many_get (k := 1) (fun _ => rfl) (by decide) hx
  have helem : ∀ (i : Nat) l, ls[i]? = some l → ∃ ad y, A = some ad ∧ W.cell? (ad.add (i * 1)) = some y ∧ ARep no W (bytesD l) y := by
    intro i l hi
    obtain ⟨ad, hA, _, hcell⟩ := hr (by intro e; rw [e] at hi; simp at hi)
    obtain ⟨cs, h1, h2⟩ := hcell i l hi
    unfold VRep at h2
    obtain ⟨y, r, rfl, h3, h4⟩ := h2
    refine ⟨ad, y, hA, ?_, h3⟩
    have := h1 0 y rfl
    rwa [Addr.add_add] at this
  refine enter hT [.slice A ls.length c, byV k] Try.func6 rfl rfl rfl ?_
  refine go_call hT rfl rfl (by kernel_rfl) rfl (awake_true _) ?_
  rintro e w1 ⟨rfl, he1⟩
  refine ⟨_, rfl, trivial, ?_⟩
  refine go_gf hT rfl rfl rfl ?_
  refine go_if hT rfl (fun hb => ?_) (fun hb => ?_)
  · refine go_call hT rfl rfl (by kernel_rfl) rfl (awake_true _) ?_
    rintro e w2 ⟨rfl, he2⟩
    refine ⟨_, rfl, trivial, ?_⟩
    exact go_ret hT [.bool true] rfl rfl ⟨rfl, trivial⟩ ⟨rfl, he1.trans he2⟩
  have hbl2 : ls.length ≤ 150 := by have := of_decide_eq_false hb; omega
  refine go_call hT rfl rfl (by kernel_rfl) rfl (new_S he1) ?_
  rintro e w2 ⟨g, rfl, hg, hn2⟩
  refine ⟨_, rfl, trivial, ?_⟩
  refine go_loop hT [0, 1, 5, 24, 25] (fun j : Nat => [.slice A ls.length c, byV k, .pointer (some ⟨g, 0, none⟩), .int .i64 ls.length, .int .i64 j])
    (fun j w' => j ≤ ls.length ∧ (∀ l ∈ ls.take j, l.length ≤ 500) ∧ NetS W w' g (ordP 0 (ls.take j)) j) (fun j _ => ls.length - j) 0 rfl ⟨by simp, by simp, by simpa [ordP] using hn2⟩ rfl ?_
  rintro j w3 g3 ⟨hj, hall, hn⟩
  refine go_if hT rfl (fun h => ?_) (fun h => ?_)
  · have hlt : j < ls.length := by simpa using h
    obtain ⟨ad, y, rfl, hy1, hy2⟩ := helem j _ (List.getElem?_eq_getElem hlt)
    obtain ⟨Ay, cy, rfl, -⟩ := bytes_cells hy2
    refine go_ix hT rfl rfl rfl rfl rfl (by omega) (by omega) ?_
    refine go_ld hT rfl rfl rfl rfl (hn.ev.cell hy1 (fun h => h)) ?_
    refine go_if hT rfl (fun h5 => ?_) (fun h5 => ?_)
    · exact go_ret hT [.bool true] rfl rfl ⟨rfl, trivial⟩ ⟨rfl, hn.ev⟩
    have h5 : ls[j].length ≤ 500 := by have := of_decide_eq_false h5; omega
    refine go_ix hT rfl rfl rfl rfl rfl (by omega) (by omega) ?_
    refine go_ld hT rfl rfl rfl rfl (hn.ev.cell hy1 (fun h => h)) ?_
    have htl : (ls.take j).length = j := by rw [List.length_take]; omega
    refine go_call hT rfl rfl (by kernel_rfl) rfl (send_S hn hy2 (by unfold lim; omega) (by rw [ordP_len, htl]; omega) (by omega) (by omega)) ?_
    rintro e w4 ⟨rfl, hn4⟩
    refine ⟨_, rfl, trivial, ?_⟩
    have hw : IntKind.wrap .i64 ((j : Int) + 1) = (j : Int) + 1 := wrap64 (by omega) (by omega)
    refine go_gf hT rfl rfl (by simp [hw]) ?_
    refine go_f hT rfl rfl ?_
    refine go_next hT (j + 1) rfl (congrArg (fun z => [Value.slice (some ad) ls.length c, byV k, .pointer (some ⟨g, 0, none⟩), .int .i64 ls.length, .int .i64 z]) (next64 (by omega))) ⟨by omega, ?_, ?_⟩ (by omega)
    · intro l hl
      rw [List.take_add_one, List.getElem?_eq_getElem hlt] at hl
      rcases List.mem_append.1 hl with hl | hl
      · exact hall l hl
      · simp at hl; rw [hl]; exact h5
    · rw [List.take_add_one, List.getElem?_eq_getElem hlt]
      simp only [Option.toList]
      rw [ordP_app, htl, Nat.zero_add]
      exact hn4
  · have hge : j = ls.length := by have := of_decide_eq_false h; omega
    subst hge
    rw [List.take_length] at hn hall
    refine go_loop hT [0, 1, 5, 54, 55] (fun j : Nat => [.slice A ls.length c, byV k, .pointer (some ⟨g, 0, none⟩), .int .i64 ls.length, .int .i64 j])
      (fun j w' => j ≤ ls.length ∧ NetS W w' g (ordP j (ls.drop j)) ls.length) (fun j _ => ls.length - j) 0 rfl ⟨by simp, by simpa using hn⟩ rfl ?_
    rintro j w4 g4 ⟨hj, hn⟩
    refine go_if hT rfl (fun h => ?_) (fun h => ?_)
    · have hlt : j < ls.length := by have := of_decide_eq_true h; omega
      obtain ⟨ad, y, rfl, hy1, hy2⟩ := helem j _ (List.getElem?_eq_getElem hlt)
      have h5 := hall _ (List.getElem_mem hlt)
      rw [List.drop_eq_getElem_cons hlt, ordP] at hn
      have hlen : (ordP (j + 1) (ls.drop (j + 1))).length ≤ 150 := by rw [ordP_len, List.length_drop]; omega
      refine go_call hT rfl rfl (by kernel_rfl) rfl (deliver_S (i := 0) (p := ⟨(j : Int) + 1, j, 0, ls[j]⟩) hn rfl (by rw [List.length_cons]; omega) (by unfold lim; show ls[j].length ≤ _; omega)) ?_
      rintro e w5 ⟨u, rfl, hn5, hu⟩
      refine ⟨_, rfl, trivial, ?_⟩
      obtain ⟨Au, cu, rfl, -⟩ := hu.shape
      refine go_newB hT (.agg #[.int .i64 0, .int .i64 0, .int .i64 0, .slice none 0 0]) (cs := [.int .i64 0, .int .i64 0, .int .i64 0, .slice none 0 0]) rfl rfl (by kernel_rfl) rfl fun w6 g6 he6 hg6 hb6 => ⟨trivial, ?_⟩
      have s4 := hn.ev.size
      have s5 := hn5.ev.size
      have hul := hu.lt
      have hl6 := hb6.lt
      refine go_staB hT [.int .i64 ((j : Int) + 1), .int .i64 j, .int .i64 0, .slice Au ls[j].length cu] rfl rfl rfl rfl rfl (by simp [Value.oneCell']) hb6 rfl fun w7 he7 hb7 => ⟨trivial, ?_⟩
      have e57 : Ev no w5 w7 := he6.then he7 fun i hi h => by simp only [at1] at h; omega
      have hn7 := hn5.to e57
      have hu7 := (hu.ev e57 fun _ _ h => h).read no fun _ _ h => h
      have e7d := Ev.drew w7
      have hn8 := hn7.to e7d
      have hb8 := hb7.ev e7d (fun h => h)
      refine go_draw hT (fun w' => w' = w7.drew) false [(0, false), (1, false), (2, false), (3, false), (5, false), (4, false), (6, false), (7, false), (8, false), (9, false), (10, false), (12, false), (11, false), (13, false), (14, false), (15, false), (16, false), (19, false), (20, false), (17, false), (21, false), (18, false), (22, false), (23, false), (24, false), (25, false)] rfl (by kernel_rfl) (by kernel_rfl) rfl ?_
      have hw : IntKind.wrap .i64 ((j : Int) + 1) = (j : Int) + 1 := wrap64 (by omega) (by omega)
      refine go_gf hT rfl rfl rfl ?_
      refine go_ldS hT rfl rfl rfl rfl (fun w' h => by subst h; exact hb8.cell 0 rfl) ?_
      refine go_gf hT rfl rfl (by simp [hw]) ?_
      refine go_ldS hT rfl rfl rfl rfl (fun w' h => by subst h; exact hb8.cell 1 rfl) ?_
      refine go_gf hT rfl rfl (by simp) ?_
      refine go_ldS hT rfl rfl rfl rfl (fun w' h => by subst h; exact hb8.cell 3 rfl) ?_
      refine go_ix hT rfl rfl rfl rfl rfl (by omega) (by omega) ?_
      refine go_strS hT rfl rfl rfl rfl rfl rfl (fun w' h => by subst h; exact hu7.to e7d) ?_
      refine go_ldS hT rfl rfl rfl rfl (fun w' h => by subst h; exact hn8.ev.cell hy1 (fun h => h)) ?_
      refine go_strS hT rfl rfl rfl rfl rfl rfl (fun w' h => by subst h; exact hy2.to hn8.ev) ?_
      refine go_f hT rfl (by simp) ?_
      refine go_next hT (j + 1) rfl (congrArg (fun z => [Value.slice (some ad) ls.length c, byV k, .pointer (some ⟨g, 0, none⟩), .int .i64 ls.length, .int .i64 z]) (next64 (by omega))) ⟨by omega, hn8⟩ (by omega)
    · have hge : j = ls.length := by have := of_decide_eq_false h; omega
      subst hge
      rw [List.drop_length] at hn
      have hk : IntKind.wrap .i64 (k.toNat : Int) = (k.toNat : Int) := by have := k.toNat_lt; exact wrap64 (by omega) (by omega)
      refine go_call hT rfl rfl (by kernel_rfl) rfl (deliverout_S hn (by simp [ordP])) ?_
      rintro e w5 ⟨rfl, hn5⟩
      refine ⟨_, rfl, trivial, ?_⟩
      refine go_newB hT (.agg #[.int .i64 0, .int .i64 0, .int .i64 0, .slice none 0 0]) (cs := [.int .i64 0, .int .i64 0, .int .i64 0, .slice none 0 0]) rfl rfl (by kernel_rfl) rfl fun w6 g6 he6 hg6 hb6 => ⟨trivial, ?_⟩
      have s5 := hn5.ev.size
      refine go_staB hT [.int .i64 0, .int .i64 0, .int .i64 0, .slice none 0 0] rfl rfl rfl rfl rfl (by simp [Value.oneCell']) hb6 rfl fun w7 he7 hb7 => ⟨trivial, ?_⟩
      have e57 : Ev no w5 w7 := he6.then he7 fun i hi h => by simp only [at1] at h; omega
      have hn7 := hn5.to e57
      refine go_gt hT rfl rfl rfl ?_
      refine go_call hT rfl rfl (by kernel_rfl) rfl (len_S hn7) ?_
      rintro e w8 ⟨rfl, rfl⟩
      refine ⟨_, rfl, trivial, ?_⟩
      exact go_ret hT [.bool true] rfl rfl ⟨rfl, trivial⟩ ⟨rfl, hn7.ev⟩
end Go.Proofs.Ytdconcindpfmcaa
