/- The walk of NetNil: a nil net takes nothing. Whatever the operation. -/
import Derived.Test.YtdconcindpfmcaaNa
set_option linter.unusedVariables false
set_option linter.unusedSimpArgs false
namespace Go.Proofs.Ytdconcindpfmcaa
open V

theorem netNil_walk (W : World) (args : Array Value) (h : ArgsOk Try.prog W [101] [nopT] args.toList) : Calls Try.prog 15 args W (LawR W) := by
  obtain ⟨v, rfl, ds, hd, hv, hs⟩ : ∃ v, args = #[v] ∧ ∃ ds, HasTys nopT ds ∧ VRep no W ds v.cells.toList ∧ (isStruct Try.prog 101 = true → v = .agg v.cells) := by
    rcases args with ⟨l⟩
    match l, h with
    | [v], h => unfold ArgsOk at h; exact ⟨v, rfl, h.1⟩
    | _ :: _ :: _, h => unfold ArgsOk at h; exact absurd h.2 (by unfold ArgsOk; exact id)
    | [], h => unfold ArgsOk at h; exact h.elim
  obtain ⟨o, rfl, hok⟩ := nop_of hd
  obtain ⟨y, hc, hy⟩ := nop_cells hv
  obtain ⟨Ay, cy, rfl, -⟩ := bytes_cells hy
  have hv' : v = .agg #[.int .i64 o.kind, .int .i64 o.a, .int .i64 o.b, byV o.by_, .slice Ay o.bytes.length cy] := by
    rw [hs (by kernel_rfl)]
    congr 1
    exact Array.ext' hc
  subst hv'
  refine enter hT [.agg #[.int .i64 o.kind, .int .i64 o.a, .int .i64 o.b, byV o.by_, .slice Ay o.bytes.length cy]] Try.func15 rfl rfl rfl ?_
  refine go_boxB hT (cs := [.int .i64 o.kind, .int .i64 o.a, .int .i64 o.b, byV o.by_, .slice Ay o.bytes.length cy]) rfl rfl rfl rfl fun w1 g1 he1 hg1 hb1 => ⟨trivial, ?_⟩
  refine go_call hT rfl rfl (by kernel_rfl) rfl (awake_true _) ?_
  rintro e w2 ⟨rfl, he2⟩
  refine ⟨_, rfl, trivial, ?_⟩
  have hb2 := hb1.ev he2 (fun h => h)
  refine go_gf hT rfl rfl rfl ?_
  refine go_lda hT [.int .i64 o.kind, .int .i64 o.a, .int .i64 o.b, byV o.by_, .slice Ay o.bytes.length cy] rfl rfl rfl rfl hb2.cells ?_
  refine go_lit1 hT (M := no) (ds := o.dat) rfl rfl rfl (k := 5) (by kernel_rfl) rfl rfl rfl ((hv.to he1).to he2) fun u w3 hu he3 => ⟨trivial, ?_⟩
  have hur := hu.read (fun _ _ h => h)
  refine go_call hT rfl rfl (by kernel_rfl) rfl (few_any (ops := [o]) (x := u) (by simpa using hur) (by simp [reachBytes]) (by simpa using hok)) ?_
  rintro e w4 ⟨b, rfl, -, rfl⟩
  refine ⟨_, rfl, trivial, ?_⟩
  have he13 : Ev no W w3 := (he1.trans he2).trans he3
  cases b with
  | false =>
    refine go_t hT rfl rfl ?_
    refine go_call hT rfl rfl (by kernel_rfl) rfl (awake_true _) ?_
    rintro e w5 ⟨rfl, he5⟩
    refine ⟨_, rfl, trivial, ?_⟩
    exact go_ret hT [.bool true] rfl rfl ⟨rfl, trivial⟩ ⟨rfl, he13.trans he5⟩
  | true =>
    have hb3 := hb2.ev he3 (fun h => h)
    refine go_f hT rfl rfl ?_
    refine go_ldB hT rfl rfl rfl rfl hb3 rfl ?_
    refine go_ldB hT rfl rfl rfl rfl hb3 rfl ?_
    refine go_ldB hT rfl rfl rfl rfl hb3 rfl ?_
    refine go_call hT rfl rfl (by kernel_rfl) rfl send_nil ?_
    rintro e w4 ⟨rfl, rfl⟩
    refine ⟨_, rfl, trivial, ?_⟩
    refine go_ldB hT rfl rfl rfl rfl hb3 rfl ?_
    refine go_call hT rfl rfl (by kernel_rfl) rfl double_nil ?_
    rintro e w4 ⟨rfl, rfl⟩
    refine ⟨_, rfl, trivial, ?_⟩
    refine go_ldB hT rfl rfl rfl rfl hb3 rfl ?_
    refine go_call hT rfl rfl (by kernel_rfl) rfl deliver_nil ?_
    rintro e w4 ⟨rfl, he4⟩
    refine ⟨_, rfl, trivial, ?_⟩
    have hb4 := hb3.ev he4 (fun h => h)
    refine go_newB hT (.agg #[.int .i64 0, .int .i64 0, .int .i64 0, .slice none 0 0]) (cs := [.int .i64 0, .int .i64 0, .int .i64 0, .slice none 0 0]) rfl rfl (by kernel_rfl) rfl fun w5 g5 he5 hg5 hb5 => ⟨trivial, ?_⟩
    have l4 := hb4.lt
    have hb4 := hb4.ev he5 (fun h => h)
    refine go_staB hT [.int .i64 0, .int .i64 0, .int .i64 0, .slice none 0 0] rfl rfl rfl rfl rfl (by simp [Value.oneCell']) hb5 rfl fun w6 he6 hb6 => ⟨trivial, ?_⟩
    have hb4 := hb4.ev he6 (fun h => by simp only [at1] at h; omega)
    refine go_gt hT rfl rfl rfl ?_
    refine go_gt hT rfl rfl rfl ?_
    refine go_gt hT rfl rfl rfl ?_
    refine go_ldB hT rfl rfl rfl rfl hb4 rfl ?_
    refine go_call hT rfl rfl (by kernel_rfl) rfl drop_nil ?_
    rintro e w7 ⟨rfl, rfl⟩
    refine ⟨_, rfl, trivial, ?_⟩
    refine go_gt hT rfl rfl rfl ?_
    refine go_ldB hT rfl rfl rfl rfl hb4 rfl ?_
    refine go_ldB hT rfl rfl rfl rfl hb4 rfl ?_
    refine go_ldB hT rfl rfl rfl rfl hb4 rfl ?_
    refine go_call hT rfl rfl (by kernel_rfl) rfl damage_nil ?_
    rintro e w7 ⟨rfl, rfl⟩
    refine ⟨_, rfl, trivial, ?_⟩
    refine go_gt hT rfl rfl rfl ?_
    refine go_ldB hT rfl rfl rfl rfl hb4 rfl ?_
    refine go_ldB hT rfl rfl rfl rfl hb4 rfl ?_
    refine go_call hT rfl rfl (by kernel_rfl) rfl move_nil ?_
    rintro e w7 ⟨rfl, rfl⟩
    refine ⟨_, rfl, trivial, ?_⟩
    refine go_gt hT rfl rfl rfl ?_
    refine go_call hT rfl rfl (by kernel_rfl) rfl len_nil ?_
    rintro e w7 ⟨rfl, rfl⟩
    refine ⟨_, rfl, trivial, ?_⟩
    refine go_gt hT rfl rfl rfl ?_
    refine go_call hT rfl rfl (by kernel_rfl) rfl all_nil ?_
    rintro e w7 ⟨rfl, rfl⟩
    refine ⟨_, rfl, trivial, ?_⟩
    refine go_ret hT [.bool true] rfl rfl ⟨rfl, trivial⟩ ⟨rfl, (he13.trans (he4.trans he5)).then he6 fun i hi h => ?_⟩
    simp only [at1] at h
    have := he13.size
    have := he4.size
    omega

end Go.Proofs.Ytdconcindpfmcaa
