/- The walk of NetFull: just so many packets are under way. Whatever the number and the bytes. -/
import Derived.Test.YtdconcindpfmcaaNc
set_option linter.unusedVariables false
set_option linter.unusedSimpArgs false
namespace Go.Proofs.Ytdconcindpfmcaa
open V

set_option maxRecDepth 100000 in
theorem netFull_walk (W : World) (args : Array Value) (h : ArgsOk Try.prog W [5, 31] [[.int .u8], [.sl [.int .u8]]] args.toList) : Calls Try.prog 7 args W (LawR W) := by
  obtain ⟨k, x, bl, rfl, hx, hbl⟩ : ∃ (k : UInt8) (x : Value) (bl : List UInt8), args = #[byV k, x] ∧ ARep no W (bytesD bl) x ∧ bl.length ≤ reachBytes := by
    obtain ⟨v1, v2, rfl, h1, h2⟩ := argv_two h
    obtain ⟨k, rfl⟩ := arg_u8 h1 (by kernel_rfl)
    obtain ⟨bl, hx, hbl⟩ := arg_bytes h2 (by kernel_rfl)
    exact ⟨k, v2, bl, rfl, hx, hbl⟩
  obtain ⟨A, c, rfl, hc, hcell⟩ := bytes_cells hx
  refine enter hT [byV k, .slice A bl.length c] Try.func7 rfl rfl rfl ?_
  refine go_call hT rfl rfl (by kernel_rfl) rfl (awake_true _) ?_
  rintro e w1 ⟨rfl, he1⟩
  refine ⟨_, rfl, trivial, ?_⟩
  refine go_gf hT rfl rfl rfl ?_
  refine go_if hT rfl (fun hb => ?_) (fun hb => ?_)
  · refine go_call hT rfl rfl (by kernel_rfl) rfl (awake_true _) ?_
    rintro e w2 ⟨rfl, he2⟩
    refine ⟨_, rfl, trivial, ?_⟩
    exact go_ret hT [.bool true] rfl rfl ⟨rfl, trivial⟩ ⟨rfl, he1.trans he2⟩
  have hbl2 : bl.length ≤ 100 := by have := of_decide_eq_false hb; omega
  refine go_call hT rfl rfl (by kernel_rfl) rfl (new_S he1) ?_
  rintro e w2 ⟨g, rfl, hg, hn2⟩
  refine ⟨_, rfl, trivial, ?_⟩
  refine go_loop hT [1, 5, 24, 0] (fun x : Nat × List Pkt => [.slice A bl.length c, .pointer (some ⟨g, 0, none⟩), .int .i64 x.1, byV k])
    (fun x w' => x.1 ≤ 200 ∧ x.2.length = x.1 ∧ (∀ p ∈ x.2, p.bytes = bl) ∧ NetS W w' g x.2 x.1) (fun x _ => 200 - x.1) (0, []) rfl ⟨by simp, rfl, by simp, hn2⟩ rfl ?_
  rintro ⟨j, l⟩ w3 g3 ⟨hj, hl, hall, hn⟩
  simp only at hj hl hall hn
  refine go_if hT rfl (fun h => ?_) (fun h => ?_)
  · have hj' : j < 200 := by have := of_decide_eq_true h; omega
    refine go_call hT rfl rfl (by kernel_rfl) rfl (send_S hn hx (by unfold lim; omega) (by omega) (by omega) (by omega)) ?_
    rintro e w4 ⟨rfl, hn4⟩
    refine ⟨_, rfl, trivial, ?_⟩
    refine go_next hT (j + 1, l ++ [⟨(j : Int) + 1, 1, 0, bl⟩]) rfl (congrArg (fun z => [Value.slice A bl.length c, .pointer (some ⟨g, 0, none⟩), .int .i64 z, byV k]) (next64 (by omega))) ⟨by simp; omega, by simp [hl], fun p hp => ?_, hn4⟩ (by simp; omega)
    rcases List.mem_append.1 hp with hp | hp
    · exact hall p hp
    · simp at hp; rw [hp]
  · have hj' : j = 200 := by have := of_decide_eq_false h; omega
    subst hj'
    have hk : IntKind.wrap .i64 (k.toNat : Int) = (k.toNat : Int) := by have := k.toNat_lt; exact wrap64 (by omega) (by omega)
    refine go_call hT rfl rfl (by kernel_rfl) rfl (sendfull_S hn (by omega)) ?_
    rintro e w4 ⟨rfl, rfl⟩
    refine ⟨_, rfl, trivial, ?_⟩
    have hrem : (IntKind.wrap .i64 (k.toNat : Int)).tmod 200 = ((k.toNat % 200 : Nat) : Int) := by rw [hk]; rfl
    have hlt : k.toNat % 200 < 200 := Nat.mod_lt _ (by decide)
    refine go_rem hT _ rfl rfl rfl rfl (by decide) hrem ?_
    refine go_call hT rfl rfl (by kernel_rfl) rfl (doublefull_S hn (by omega) (by omega)) ?_
    rintro e w5 ⟨rfl, hn5⟩
    refine ⟨_, rfl, trivial, ?_⟩
    refine go_rem hT _ rfl rfl rfl rfl (by decide) hrem ?_
    refine go_call hT rfl rfl (by kernel_rfl) rfl (drop_S hn5 (by omega)) ?_
    rintro e w6 ⟨rfl, hn6⟩
    have hin : (0 : Int) ≤ ((k.toNat % 200 : Nat) : Int) ∧ ((k.toNat % 200 : Nat) : Int) < l.length := by omega
    rw [if_pos hin] at hn6
    refine ⟨.bool true, by rw [decide_eq_true hin], trivial, ?_⟩
    have hl6 : (l.eraseIdx ((k.toNat % 200 : Nat) : Int).toNat).length = 199 := by rw [List.length_eraseIdx_of_lt (by omega)]; omega
    have h0 : (l.eraseIdx ((k.toNat % 200 : Nat) : Int).toNat)[0]? = some (l.eraseIdx ((k.toNat % 200 : Nat) : Int).toNat)[0] := List.getElem?_eq_getElem (by omega)
    refine go_call hT rfl rfl (by kernel_rfl) rfl (double_S (i := 0) hn6 h0 (by omega) ?_ (by omega) (by omega)) ?_
    · rw [hall _ (List.mem_of_mem_eraseIdx (List.getElem_mem _))]; unfold lim; omega
    rintro e w7 ⟨rfl, hn7⟩
    refine ⟨_, rfl, trivial, ?_⟩
    refine go_call hT rfl rfl (by kernel_rfl) rfl (doublenone_S hn7 (by simp only [List.length_append, hl6]; simp)) ?_
    rintro e w8 ⟨rfl, rfl⟩
    refine ⟨_, rfl, trivial, ?_⟩
    refine go_gt hT rfl rfl rfl ?_
    refine go_gt hT rfl rfl rfl ?_
    refine go_gt hT rfl rfl rfl ?_
    refine go_gt hT rfl rfl rfl ?_
    refine go_gt hT rfl rfl rfl ?_
    refine go_gt hT rfl rfl rfl ?_
    refine go_call hT rfl rfl (by kernel_rfl) rfl (len_S hn7) ?_
    rintro e w8 ⟨rfl, rfl⟩
    refine ⟨.int .i64 200, by simp only [List.length_append, hl6]; rfl, trivial, ?_⟩
    exact go_ret hT [.bool true] rfl rfl ⟨rfl, trivial⟩ ⟨rfl, hn7.ev⟩
end Go.Proofs.Ytdconcindpfmcaa
