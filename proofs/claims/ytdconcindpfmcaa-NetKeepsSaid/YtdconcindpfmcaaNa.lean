/- The scripts of the net's laws; awake; a nil net. -/
import Derived.Test.YtdconcindpfmcaaN
import Derived.Test.YtdconcindpfmcaaL
set_option linter.unusedVariables false
set_option linter.unusedSimpArgs false
namespace Go.Proofs.Ytdconcindpfmcaa
open V

structure NOp where
  kind : Int
  a : Int
  b : Int
  by_ : UInt8
  bytes : List UInt8
def NOp.dat (o : NOp) : List Dat := [.v (.int .i64 o.kind), .v (.int .i64 o.a), .v (.int .i64 o.b), byD o.by_, bytesD o.bytes]
def NOp.ok (o : NOp) : Prop := -9223372036854775808 ≤ o.a ∧ o.a ≤ 9223372036854775807 ∧ -9223372036854775808 ≤ o.b ∧ o.b ≤ 9223372036854775807 ∧ o.bytes.length ≤ reachBytes
def nopT : List Ty := [.int .i64, .int .i64, .int .i64, .int .u8, .sl [.int .u8]]
theorem nop_of {ds : List Dat} (h : HasTys nopT ds) : ∃ o : NOp, ds = o.dat ∧ o.ok := by
  unfold nopT at h
  obtain ⟨d1, r, rfl, h1, h⟩ := h.cons
  obtain ⟨d2, r, rfl, h2, h⟩ := h.cons
  obtain ⟨d3, r, rfl, h3, h⟩ := h.cons
  obtain ⟨d4, r, rfl, h4, h⟩ := h.cons
  obtain ⟨d5, r, rfl, h5, h6⟩ := h.cons
  obtain ⟨k, rfl, _⟩ := h1.i64
  obtain ⟨a, rfl, ha⟩ := h2.i64
  obtain ⟨b, rfl, hb⟩ := h3.i64
  obtain ⟨y, rfl⟩ := h4.u8
  obtain ⟨l, rfl, hl⟩ := h5.bytes
  exact ⟨⟨k, a, b, y, l⟩, by rw [h6.nil]; rfl, ha.1, ha.2, hb.1, hb.2, hl⟩

theorem nop_cells {M : Nat → Prop} {w : World} {o : NOp} {cs : List Value} (h : VRep M w o.dat cs) : ∃ y, cs = [.int .i64 o.kind, .int .i64 o.a, .int .i64 o.b, byV o.by_, y] ∧ ARep M w (bytesD o.bytes) y := by
  unfold NOp.dat at h
  unfold VRep at h
  obtain ⟨x1, r, rfl, h1, h⟩ := h
  unfold VRep at h
  obtain ⟨x2, r, rfl, h2, h⟩ := h
  unfold VRep at h
  obtain ⟨x3, r, rfl, h3, h⟩ := h
  unfold VRep at h
  obtain ⟨x4, r, rfl, h4, h⟩ := h
  unfold VRep at h
  obtain ⟨x5, r, rfl, h5, h⟩ := h
  unfold VRep at h
  subst h
  exact ⟨x5, by rw [h1.val, h2.val, h3.val, ARep.val (u := byV o.by_) h4], h5⟩

/-- Few: tells only of a script that is short, and of few bytes. -/
theorem few_any {M : Nat → Prop} {w : World} {ops : List NOp} {x : Value} (h : ARep M w (.sl 5 (ops.flatMap NOp.dat)) x) (hl : ops.length ≤ reachBytes) (hok : ∀ o ∈ ops, o.ok) :
    Calls Try.prog 52 #[x] w fun e w' => ∃ b, e = .returned (.bool b) ∧ (b = true → ops.length ≤ 500 ∧ ∀ o ∈ ops, o.bytes.length ≤ 20000) ∧ w = w' := by
  obtain ⟨A, c, rfl, hc, hr⟩ := many_get (k := 5) (fun _ => rfl) (by decide) h
  refine enter hT [.slice A ops.length c] Try.func52 rfl rfl rfl ?_
  refine go_loop hT [0, 6, 3, 7] (fun x : Nat × Nat => [.slice A ops.length c, .int .i64 ops.length, .int .i64 x.2, .int .i64 x.1])
    (fun x w' => w = w' ∧ x.1 ≤ ops.length ∧ x.1 ≤ 500 ∧ x.2 ≤ 20000 ∧ ∀ (i : Nat) o, i < x.1 → ops[i]? = some o → o.bytes.length ≤ x.2) (fun x _ => ops.length - x.1) (0, 0) rfl ⟨rfl, by simp, by simp, by simp, fun i o h => by simp at h⟩ rfl ?_
  rintro ⟨i, m⟩ w1 g1 ⟨rfl, hi, hi5, hm, hall⟩
  refine go_if hT rfl (fun h => ?_) (fun h => ?_)
  · have hlt : i < ops.length := by simpa using h
    obtain ⟨ad, rfl, hM, hcell⟩ := hr (by intro h; simp [h] at hlt)
    obtain ⟨o, ho⟩ : ∃ o, ops[i]? = some o := ⟨_, List.getElem?_eq_getElem hlt⟩
    obtain ⟨cs, hcs, hv⟩ := hcell i o ho
    obtain ⟨y, rfl, hy⟩ := nop_cells hv
    obtain ⟨Ay, cy, rfl, _⟩ := bytes_cells hy
    refine go_ix hT rfl rfl rfl rfl rfl (by omega) (by omega) ?_
    have hob := (hok o (List.mem_of_getElem? ho)).2.2.2.2
    unfold reachBytes at hob
    refine go_ld hT rfl rfl rfl rfl (hcs 4 _ rfl) ?_
    have hsum : IntKind.wrap .i64 ((m : Int) + (o.bytes.length : Int)) = ((m + o.bytes.length : Nat) : Int) := by simp [IntKind.wrap, IntKind.bits, IntKind.signed]; omega
    refine go_g hT rfl rfl (fun h5 => ?_) (fun h5 => ?_)
    · refine go_t hT rfl rfl ?_
      exact go_ret hT [.bool false] rfl rfl ⟨rfl, trivial⟩ ⟨false, rfl, (fun h => by cases h), rfl⟩
    · have h5 : i < 500 := by have := of_decide_eq_false h5; simp at this; omega
      rw [show (IntKind.wrap .i64 ((m : Int) + (o.bytes.length : Int))) = _ from hsum]
      refine go_if hT rfl (fun h6 => ?_) (fun h6 => ?_)
      · exact go_ret hT [.bool false] rfl rfl ⟨rfl, trivial⟩ ⟨false, rfl, (fun h => by cases h), rfl⟩
      · have h6 : m + o.bytes.length ≤ 20000 := by
          have := of_decide_eq_false h6
          omega
        refine go_next hT (i + 1, m + o.bytes.length) rfl ?_ ⟨rfl, by simp; omega, by simp; omega, h6, fun j p hj hp => ?_⟩ (by simp; omega)
        · exact congrArg (fun z => [Value.slice (some ad) ops.length c, .int .i64 ops.length, .int .i64 ((m + o.bytes.length : Nat) : Int), .int .i64 z]) (next64 (by omega))
        · rcases Nat.lt_or_ge j i with hji | hji
          · have := hall j p hji hp
            simp at this ⊢
            omega
          · obtain rfl : j = i := by simp at hj; omega
            rw [ho] at hp
            cases hp
            simp
  · have hge : ops.length ≤ i := by simpa using h
    refine go_ret hT [.bool true] rfl rfl ⟨rfl, trivial⟩ ⟨true, rfl, fun _ => ⟨by omega, fun o ho => ?_⟩, rfl⟩
    obtain ⟨j, hj, rfl⟩ := List.getElem_of_mem ho
    have := hall j _ (by omega) (List.getElem?_eq_getElem hj)
    omega

/-- awake is true: a net takes a packet. -/
theorem awake_true (w : World) : Calls Try.prog 24 #[] w fun e w' => e = .returned (.bool true) ∧ Ev no w w' := by
  refine enter hT [] Try.func24 rfl rfl rfl ?_
  refine go_call hT rfl rfl (by kernel_rfl) rfl (new_any _) ?_
  rintro e w1 ⟨g, rfl, he1, hg, v, bs, hn, hS⟩
  refine ⟨_, rfl, trivial, ?_⟩
  have hfp : ∀ b, fp g v bs b → b = g := fun b hb => by rw [← hS] at hb; exact hb
  have hvg : ∀ b, ob v b → b = g := fun b hb => hfp b (by simp only [fp, fpl, List.mem_cons, List.mem_filterMap]; exact .inr ⟨v, .inl rfl, hb⟩)
  have hgl := hn.blk.lt
  refine go_lit1 hT (M := fp2 g v) (ds := [byD 120]) rfl rfl rfl el8 rfl rfl rfl (VRep.nil.cons (ARep.mkVal rfl)) fun u w2 hu he2 => ⟨trivial, ?_⟩
  have hul := hu.lt
  have hur := hu.read (fun b hb h => by
    have := (hul b hb).1
    rcases h with h | h
    · simp only [at1] at h; omega
    · have := hvg b h; omega)
  obtain ⟨A, c, rfl, hc, hcu⟩ := bytes_cells (l := [120]) hur
  obtain ⟨ad, rfl, _⟩ := hcu (by simp)
  have hs1 := he1.size
  have hs2 := he2.size
  refine go_mark hT rfl rfl rfl rfl rfl ⟨_, _, _, rfl⟩ hur fun w3 he3 hx => ⟨trivial, ?_⟩
  have hn3 := (hn.ev he2 fun _ _ h => h).ev he3 fun b hb h => by have := (hul b h).1; have := hfp b hb; omega
  have hs3 := he3.size
  refine go_call hT rfl rfl (by kernel_rfl) rfl (send_room (l := []) (bytes := [120]) hn3 hx (by decide) (by simp) (by omega) (by omega)) ?_
  rintro e w4 ⟨rfl, v', b', hn4, he4, -, -⟩
  refine ⟨_, rfl, trivial, ?_⟩
  refine go_gt hT rfl rfl rfl ?_
  refine go_gt hT rfl rfl rfl ?_
  refine go_call hT rfl rfl (by kernel_rfl) rfl (len_any hn4) ?_
  rintro e w5 ⟨rfl, rfl⟩
  refine ⟨_, rfl, trivial, ?_⟩
  refine go_ret hT [.bool true] rfl rfl ⟨rfl, trivial⟩ ⟨rfl, ?_⟩
  refine ((he1.trans he2).then he3 fun i hi h => ?_).then he4 fun i hi h => ?_
  · have := (hul i h).1; omega
  · rcases h with h | h
    · simp only [at1] at h; omega
    · have := hvg i h; omega

/-! ### A nil net -/
theorem double_nil {w : World} {i : Int} : Calls Try.prog 29 #[.pointer none, .int .i64 i] w fun e w' => e = .returned (.tuple #[.int .i64 0, .int .i64 1]) ∧ w = w' := by
  refine enter hT [.pointer none, .int .i64 i] Try.func29 rfl rfl rfl ?_
  refine go_t hT rfl rfl ?_
  exact go_ret hT [.int .i64 0, .int .i64 1] rfl rfl ⟨rfl, rfl, trivial⟩ ⟨rfl, rfl⟩
theorem drop_nil {w : World} {i : Int} : Calls Try.prog 30 #[.pointer none, .int .i64 i] w fun e w' => e = .returned (.bool false) ∧ w = w' := by
  refine enter hT [.pointer none, .int .i64 i] Try.func30 rfl rfl rfl ?_
  refine go_call hT rfl rfl (by kernel_rfl) rfl there_nil ?_
  rintro e w1 ⟨rfl, rfl⟩
  refine ⟨_, rfl, trivial, ?_⟩
  refine go_t hT rfl rfl ?_
  exact go_ret hT [.bool false] rfl rfl ⟨rfl, trivial⟩ ⟨rfl, rfl⟩
theorem damage_nil {w : World} {i j : Int} {x : Value} : Calls Try.prog 35 #[.pointer none, .int .i64 i, .int .i64 j, x] w fun e w' => e = .returned (.bool false) ∧ w = w' := by
  refine enter hT [.pointer none, .int .i64 i, .int .i64 j, x] Try.func35 rfl rfl rfl ?_
  refine go_call hT rfl rfl (by kernel_rfl) rfl there_nil ?_
  rintro e w1 ⟨rfl, rfl⟩
  refine ⟨_, rfl, trivial, ?_⟩
  refine go_gt hT rfl rfl rfl ?_
  refine go_gt hT rfl rfl rfl ?_
  refine go_t hT rfl rfl ?_
  exact go_ret hT [.bool false] rfl rfl ⟨rfl, trivial⟩ ⟨rfl, rfl⟩
theorem move_nil {w : World} {i j : Int} : Calls Try.prog 56 #[.pointer none, .int .i64 i, .int .i64 j] w fun e w' => e = .returned (.bool false) ∧ w = w' := by
  refine enter hT [.pointer none, .int .i64 i, .int .i64 j] Try.func56 rfl rfl rfl ?_
  refine go_call hT rfl rfl (by kernel_rfl) rfl there_nil ?_
  rintro e w1 ⟨rfl, rfl⟩
  refine ⟨_, rfl, trivial, ?_⟩
  refine go_gt hT rfl rfl rfl ?_
  refine go_t hT rfl rfl ?_
  exact go_ret hT [.bool false] rfl rfl ⟨rfl, trivial⟩ ⟨rfl, rfl⟩
theorem deliver_nil {w : World} {i : Int} : Calls Try.prog 27 #[.pointer none, .int .i64 i] w fun e w' => e = .returned (.tuple #[.agg #[.int .i64 0, .int .i64 0, .int .i64 0, .slice none 0 0], .bool false]) ∧ Ev no w w' := by
  refine enter hT [.pointer none, .int .i64 i] Try.func27 rfl rfl rfl ?_
  refine go_newB hT (.agg #[.int .i64 0, .int .i64 0, .int .i64 0, .slice none 0 0]) (cs := [.int .i64 0, .int .i64 0, .int .i64 0, .slice none 0 0]) rfl rfl (by kernel_rfl) rfl fun w1 g1 he1 hg1 hb1 => ⟨trivial, ?_⟩
  refine go_call hT rfl rfl (by kernel_rfl) rfl there_nil ?_
  rintro e w2 ⟨rfl, rfl⟩
  refine ⟨_, rfl, trivial, ?_⟩
  refine go_t hT rfl rfl ?_
  refine go_build hT #[.int .i64 0, .int .i64 0, .int .i64 0, .slice none 0 0] rfl rfl rfl (by kernel_rfl) rfl ?_
  refine go_staB hT [.int .i64 0, .int .i64 0, .int .i64 0, .slice none 0 0] rfl rfl rfl rfl rfl (by simp [Value.oneCell']) hb1 rfl fun w3 he3 hb3 => ⟨trivial, ?_⟩
  refine go_ret hT [.agg #[.int .i64 0, .int .i64 0, .int .i64 0, .slice none 0 0], .bool false] rfl rfl ⟨⟨_, rfl, run_loada hT rfl hb3.cells⟩, rfl, trivial⟩ ⟨rfl, he1.then he3 fun i hi h => ?_⟩
  simp only [at1] at h; omega
theorem all_nil {w : World} : Calls Try.prog 36 #[.pointer none] w fun e w' => e = .returned (.slice none 0 0) ∧ w = w' := by
  refine enter hT [.pointer none] Try.func36 rfl rfl rfl ?_
  refine go_call hT rfl rfl (by kernel_rfl) rfl len_nil ?_
  rintro e w1 ⟨rfl, rfl⟩
  refine ⟨_, rfl, trivial, ?_⟩
  refine go_loop hT [3, 6, 7] (fun x : Unit => [.slice none 0 0, .int .i64 0, .int .i64 0]) (fun x w' => w = w') (fun x _ => 0) () rfl rfl rfl ?_
  rintro ⟨⟩ w1 g1 rfl
  refine go_f hT rfl rfl ?_
  exact go_ret hT [.slice none 0 0] rfl rfl ⟨rfl, trivial⟩ ⟨rfl, rfl⟩
end Go.Proofs.Ytdconcindpfmcaa
