import Derived.Test.YtjcolfogmmjaoaaGreatDoorQEncodeNormal8
import Derived.Test.YtjcolfogmmjaoaaGreatDoorQEncodeNormal6
section
/- Layer 2: wire.Formed, wire.Take. -/
set_option linter.unusedVariables false
set_option linter.unusedSimpArgs false
set_option maxRecDepth 100000
set_option maxHeartbeats 1000000
namespace Go.Proofs.YtjcolfogmmjaoaaGreatDoor
open V A
structure FW where
  num : Nat
  typ : Nat
  n : Nat
  data : List UInt8
def fwD (f : FW) : List A.Dat := [.v (kI f.num), .v (kI f.typ), .v (kU f.n), .sl 1 (f.data.map eB)]
def fwA (f : FW) : AV := .agg [.v (kI f.num) 0, .v (kI f.typ) 0, .v (kU f.n) 0, .d (A.bytesD f.data)]
def fw0 : FW := ⟨0, 0, 0, []⟩
def formedW (f : FW) : Bool := decide (1 ≤ f.num ∧ f.num ≤ 536870911) && (if f.typ = 0 ∨ f.typ = 1 then decide (f.data = []) else if f.typ = 5 then decide (f.data = [] ∧ f.n ≤ 4294967295) else decide (f.typ = 2 ∧ f.n = 0))
theorem WFormed_spec {f : FW} : FSpec Tryz.prog 133 [fwA f] [] fun a cs => a = bA (formedW f) ∧ cs = [] := by
  obtain ⟨num, typ, n, data⟩ := f
  have hlen := bytesD_len data
  have hnil : data = [] ↔ data.length = 0 := List.length_eq_zero_iff.symm
  refine a_enter hT [fwA ⟨num, typ, n, data⟩] [] Tryz.func133 rfl rfl rfl ⟨Fit.refl _, trivial⟩ fun c' => ?_
  refine a_box hT 20 rfl rfl rfl rfl fun g => ?_
  refine a_g hT rfl rfl rfl (fun h => ?_) (fun h => ?_)
  · have h := of_decide_eq_true h
    refine a_t hT rfl rfl rfl ?_
    refine a_ret hT [] rfl rfl rfl rfl rfl rfl ?_
    exact b_eq (by rcases data with _ | ⟨x, l⟩ <;> simp_all [formedW] <;> first | omega | (split <;> omega) | (intros; refine ⟨by omega, ?_⟩; split <;> omega))
  · have h := of_decide_eq_false h
    refine a_if hT rfl rfl (fun h1 => ?_) (fun h1 => ?_)
    · have h1 := of_decide_eq_true h1
      refine a_ret hT [] rfl rfl rfl rfl rfl rfl ?_
      exact b_eq (by rcases data with _ | ⟨x, l⟩ <;> simp_all [formedW] <;> first | omega | (split <;> omega) | (intros; refine ⟨by omega, ?_⟩; split <;> omega))
    · have h1 := of_decide_eq_false h1
      refine a_if hT rfl rfl (fun h2 => ?_) (fun h2 => ?_)
      · have h2 := eq_of_beq h2
        refine a_if hT rfl rfl (fun h3 => ?_) (fun h3 => ?_)
        · have h3 := eq_of_beq h3
          refine a_ret hT [] rfl rfl rfl rfl rfl rfl ?_
          exact b_eq (by rcases data with _ | ⟨x, l⟩ <;> simp_all [formedW] <;> first | omega | (split <;> omega) | (intros; refine ⟨by omega, ?_⟩; split <;> omega))
        · have h3 := ne_of_beq_false h3
          (exfalso; first | omega | contradiction)
      · have h2 := ne_of_beq_false h2
        refine a_if hT rfl rfl (fun h3 => ?_) (fun h3 => ?_)
        · have h3 := eq_of_beq h3
          refine a_ret hT [] rfl rfl rfl rfl rfl rfl ?_
          exact b_eq (by rcases data with _ | ⟨x, l⟩ <;> simp_all [formedW] <;> first | omega | (split <;> omega) | (intros; refine ⟨by omega, ?_⟩; split <;> omega))
        · have h3 := ne_of_beq_false h3
          refine a_if hT rfl rfl (fun h4 => ?_) (fun h4 => ?_)
          · have h4 := eq_of_beq h4
            refine a_g hT rfl rfl rfl (fun h5 => ?_) (fun h5 => ?_)
            · have h5 := eq_of_beq h5
              refine a_ret hT [] rfl rfl rfl rfl rfl rfl ?_
              exact b_eq (by rcases data with _ | ⟨x, l⟩ <;> simp_all [formedW] <;> first | omega | (split <;> omega) | (intros; refine ⟨by omega, ?_⟩; split <;> omega))
            · have h5 := ne_of_beq_false h5
              refine a_ret hT [] rfl rfl rfl rfl rfl rfl ?_
              exact b_eq (by rcases data with _ | ⟨x, l⟩ <;> simp_all [formedW] <;> first | omega | (split <;> omega) | (intros; refine ⟨by omega, ?_⟩; split <;> omega))
          · have h4 := ne_of_beq_false h4
            refine a_g hT rfl rfl rfl (fun h5 => ?_) (fun h5 => ?_)
            · have h5 := eq_of_beq h5
              refine a_ret hT [] rfl rfl rfl rfl rfl rfl ?_
              exact b_eq (by rcases data with _ | ⟨x, l⟩ <;> simp_all [formedW] <;> first | omega | (split <;> omega) | (intros; refine ⟨by omega, ?_⟩; split <;> omega))
            · have h5 := ne_of_beq_false h5
              refine a_ret hT [] rfl rfl rfl rfl rfl rfl ?_
              exact b_eq (by rcases data with _ | ⟨x, l⟩ <;> simp_all [formedW] <;> first | omega | (split <;> omega) | (intros; refine ⟨by omega, ?_⟩; split <;> omega))
theorem takeP_ok : ∀ (bs : List UInt8) (i n : Nat), i ≤ 9 → n < 2 ^ (7 * i) → ((takeP bs i n).2.2 = 0 → i < (takeP bs i n).2.1 ∧ (takeP bs i n).2.1 ≤ i + bs.length) ∧ (takeP bs i n).1 < 18446744073709551616 ∧ ((takeP bs i n).2.2 = 0 ∨ (takeP bs i n).2.2 = 2 ∨ (takeP bs i n).2.2 = 5)
  | [], i, n, hi, hn => by unfold takeP; simp
  | c :: l, i, n, hi, hn => by
    unfold takeP
    split
    · simp
    · rename_i hno
      split
      · have := stepB hi hn (c := c) (fun e => by have : ¬ (i = 9 ∧ 1 < c.toNat) := hno; omega)
        simp
        omega
      · rename_i hc
        have hi9 : i ≠ 9 := fun e => hno ⟨e, by omega⟩
        have := takeP_ok l (i + 1) (n + c.toNat % 128 * 2 ^ (7 * i)) (by omega) (stepL hn)
        refine ⟨fun h => ?_, this.2⟩
        have := this.1 h
        simp only [List.length_cons]
        omega
def takeFP (bs : List UInt8) : FW × Nat × Nat :=
  let r := takeP bs 0 0
  if r.2.2 ≠ 0 then (fw0, 0, r.2.2) else
  if formedW ⟨min (r.1 / 8) 536870912, r.1 % 8, 0, []⟩ = false then (fw0, 0, 2) else
  let rest := bs.drop r.2.1
  if r.1 % 8 = 0 then (if (takeP rest 0 0).2.2 ≠ 0 then (fw0, 0, (takeP rest 0 0).2.2) else (⟨min (r.1 / 8) 536870912, 0, (takeP rest 0 0).1, []⟩, r.2.1 + (takeP rest 0 0).2.1, 0)) else
  if r.1 % 8 = 1 then (if (take64P rest).2 ≠ 0 then (fw0, 0, (take64P rest).2) else (⟨min (r.1 / 8) 536870912, 1, (take64P rest).1, []⟩, r.2.1 + 8, 0)) else
  if r.1 % 8 = 5 then (if (take32P rest).2 ≠ 0 then (fw0, 0, (take32P rest).2) else (⟨min (r.1 / 8) 536870912, 5, (take32P rest).1, []⟩, r.2.1 + 4, 0)) else
  if (takeP rest 0 0).2.2 ≠ 0 then (fw0, 0, (takeP rest 0 0).2.2) else
  if rest.length - (takeP rest 0 0).2.1 < (takeP rest 0 0).1 then (fw0, 0, 5) else
  (⟨min (r.1 / 8) 536870912, 2, 0, (rest.drop (takeP rest 0 0).2.1).take (takeP rest 0 0).1⟩, r.2.1 + ((takeP rest 0 0).2.1 + (takeP rest 0 0).1), 0)
def tfA (r : FW × Nat × Nat) : AV := .tup [fwA r.1, .v (kI r.2.1) 0, .v (kI r.2.2) 0]
theorem le_fw0 (a b : AV) : Le (.tup [.agg [.v (Value.int IntKind.i64 0) 0, .v (Value.int IntKind.i64 0) 0, .v (Value.int IntKind.u64 0) 0, .v (Value.slice none 0 0) 0], a, b]) (.tup [fwA fw0, a, b]) := Le.tup (.cons (Le.agg (.cons (Le.refl _) (.cons (Le.refl _) (.cons (Le.refl _) (.cons le_nil .nil))))) (.cons (Le.refl _) (.cons (Le.refl _) .nil)))
theorem take32_ok (bs : List UInt8) : (take32P bs).1 < 4294967296 ∧ ((take32P bs).2 = 0 → 4 ≤ bs.length) ∧ ((take32P bs).2 = 0 ∨ (take32P bs).2 = 5) := by
  have := le4_lt bs
  unfold take32P
  split <;> simp <;> omega
theorem take64_ok (bs : List UInt8) : (take64P bs).1 < 18446744073709551616 ∧ ((take64P bs).2 = 0 → 8 ≤ bs.length) ∧ ((take64P bs).2 = 0 ∨ (take64P bs).2 = 5) := by
  have := le4_lt bs
  have := le4_lt (bs.drop 4)
  unfold take64P
  split <;> simp <;> omega
theorem numE {n : Nat} (h : n < 18446744073709551616) : IntKind.wrap IntKind.i64 (if 536870912 < Int.fdiv (n : Int) (2 ^ min (Int.toNat 3) (IntKind.bits IntKind.u64)) then 536870912 else Int.fdiv (n : Int) (2 ^ min (Int.toNat 3) (IntKind.bits IntKind.u64))) = ((min (n / 8) 536870912 : Nat) : Int) := by
  have e : Int.fdiv (n : Int) (2 ^ min (Int.toNat 3) (IntKind.bits IntKind.u64)) = ((n / 8 : Nat) : Int) := by
    show Int.fdiv (n : Int) 8 = _
    rw [Int.fdiv_eq_ediv_of_nonneg _ (by decide)]
    omega
  rw [e]
  split <;> rw [w64 (by omega) (by omega)] <;> omega
theorem typE {n : Nat} (h : n < 18446744073709551616) : IntKind.wrap IntKind.i64 (IntKind.wrap IntKind.u64 ↑(BitVec.toNat (BitVec.ofInt (IntKind.bits IntKind.u64) (n : Int) &&& BitVec.ofInt (IntKind.bits IntKind.u64) 7))) = ((n % 8 : Nat) : Int) := by
  have e : IntKind.wrap IntKind.u64 ↑(BitVec.toNat (BitVec.ofInt (IntKind.bits IntKind.u64) (n : Int) &&& BitVec.ofInt (IntKind.bits IntKind.u64) 7)) = ((n % 8 : Nat) : Int) := by
    show IntKind.wrap IntKind.u64 ↑(BitVec.toNat (BitVec.ofInt 64 (n : Int) &&& BitVec.ofInt 64 ((7 : Nat) : Int))) = _
    rw [BitVec.toNat_and, bv_nat, bv_nat, Nat.mod_eq_of_lt (by simpa using h), Nat.mod_eq_of_lt (show 7 < 2 ^ 64 by decide), show n &&& 7 = n % 8 from Nat.and_two_pow_sub_one_eq_mod n 3]
    exact wrapN64 (by omega)
  rw [e, w64 (by omega) (by omega)]
theorem WTake_spec {bs : List UInt8} (hl : bs.length ≤ lim) : FSpec Tryz.prog 117 [.d (A.bytesD bs)] [] fun a cs => a = tfA (takeFP bs) ∧ cs = [] := by
  refine FSpec.le ?_
  have hlen := bytesD_len bs
  have hlim : lim = 4294967296 := rfl
  have h1 := Take_spec (bs := bs) (by omega)
  have o1 := takeP_ok bs 0 0 (by decide) (by decide)
  have hT0 : takeFP bs = takeFP bs := rfl
  conv at hT0 => rhs; unfold takeFP
  generalize takeFP bs = R at hT0 ⊢
  generalize takeP bs 0 0 = r at h1 o1 hT0
  obtain ⟨n, p, e⟩ := r
  dsimp only at o1 hT0
  have hw1 : IntKind.i64.wrap ((min ((n : Int) / 8) 536870912)) = ((min (n / 8) 536870912 : Nat) : Int) := by rw [w64 (by omega) (by omega)]; omega
  refine a_enter hT [.d (A.bytesD bs)] [] Tryz.func117 rfl rfl rfl ⟨Fit.refl _, trivial⟩ fun c' => ?_
  refine a_new hT hZ 20 rfl rfl rfl rfl fun g => ?_
  refine a_call hT rfl rfl rfl (by kernel_rfl) h1 [] [] rfl rfl ?_
  rintro _ _ ⟨rfl, rfl⟩
  refine a_if hT rfl rfl (fun h => ?_) (fun h => ?_)
  · have h := bne_iff_ne.1 h
    refine a_build hT hZ [.v (Value.int IntKind.i64 0) 0, .v (Value.int IntKind.i64 0) 0, .v (Value.int IntKind.u64 0) 0, .v (Value.slice none 0 0) 0] rfl rfl rfl rfl rfl rfl ?_
    refine a_ret hT [] rfl rfl rfl rfl rfl rfl ?_
    have he : e ≠ 0 := fun h2 => h (by show ((e : Int)) = 0; omega)
    rw [if_pos he] at hT0
    subst hT0
    exact ⟨_, le_fw0 _ _, rfl, rfl⟩
  · simp at h
    refine a_bin hT _ rfl rfl rfl (by decide) rfl rfl (fun w => (bin_shr (by omega) w)) ?_
    refine a_bin hT _ rfl rfl rfl (by decide) rfl rfl (fun w => (bin_and w)) ?_
    refine a_build hT hZ [.v (Value.int IntKind.i64 (IntKind.wrap IntKind.i64 (if 536870912 < Int.fdiv (↑(Prod.fst (n, p, e))) (2 ^ min (Int.toNat 3) (IntKind.bits IntKind.u64)) then 536870912 else Int.fdiv (↑(Prod.fst (n, p, e))) (2 ^ min (Int.toNat 3) (IntKind.bits IntKind.u64))))) 0, .v (Value.int IntKind.i64 (IntKind.wrap IntKind.i64 (IntKind.wrap IntKind.u64 ↑(BitVec.toNat (BitVec.ofInt (IntKind.bits IntKind.u64) ↑(Prod.fst (n, p, e)) &&& BitVec.ofInt (IntKind.bits IntKind.u64) 7))))) 0, .v (Value.int IntKind.u64 0) 0, .v (Value.slice none 0 0) 0] rfl rfl rfl rfl rfl rfl ?_
    refine a_new hT hZ 21 rfl rfl rfl rfl fun g1 => ?_
    have he : e = 0 := by omega
    subst he
    rw [if_neg (by simp)] at hT0
    have hn64 := o1.2.1
    have ho := o1.1 rfl
    refine a_run hT 1 rfl rfl ?_
    refine a_cellL 21 0 (b := .v (kI (min (n / 8) 536870912 : Nat)) 0) rfl rfl rfl (Fit.le (congrArg (Value.int .i64) (numE hn64))) ?_
    refine a_cellL 21 1 (b := .v (kI (n % 8 : Nat)) 0) rfl rfl rfl (Fit.le (congrArg (Value.int .i64) (typE hn64))) ?_
    refine a_cellL 21 3 (b := .d (A.bytesD [])) rfl rfl rfl le_nil ?_
    have h2 := WFormed_spec (f := ⟨min (n / 8) 536870912, n % 8, 0, []⟩)
    by_cases hfm : formedW ⟨min (n / 8) 536870912, n % 8, 0, []⟩ = false
    · rw [hfm] at h2
      rw [if_pos hfm] at hT0
      subst hT0
      refine a_call hT rfl rfl rfl (by kernel_rfl) h2 [] [] rfl rfl ?_
      rintro _ _ ⟨rfl, rfl⟩
      refine a_t hT rfl rfl rfl ?_
      refine a_build hT hZ [.v (Value.int IntKind.i64 0) 0, .v (Value.int IntKind.i64 0) 0, .v (Value.int IntKind.u64 0) 0, .v (Value.slice none 0 0) 0] rfl rfl rfl rfl rfl rfl ?_
      refine a_ret hT [] rfl rfl rfl rfl rfl rfl ?_
      exact ⟨_, le_fw0 _ _, rfl, rfl⟩
    · rw [if_neg hfm] at hT0
      rw [show formedW ⟨min (n / 8) 536870912, n % 8, 0, []⟩ = true by simpa using hfm] at h2
      have hbl : (bs.drop p).length = bs.length - p := List.length_drop
      have h3 := Take_spec (bs := bs.drop p) (by omega)
      have h4 := Take64_spec (bs := bs.drop p) (by omega)
      have h5 := Take32_spec (bs := bs.drop p) (by omega)
      refine a_call hT rfl rfl rfl (by kernel_rfl) h2 [] [] rfl rfl ?_
      rintro _ _ ⟨rfl, rfl⟩
      refine a_f hT rfl rfl rfl ?_
      refine a_sl hT p (bs.map eB).length ((bs.drop p).map eB) rfl rfl rfl rfl rfl ⟨.i64, 0, rfl⟩ rfl (by rw [hlen]; omega) (Nat.le_refl _) (slD bs p) ?_
      have o3 := takeP_ok (bs.drop p) 0 0 (by decide) (by decide)
      have o4 := take64_ok (bs.drop p)
      have o5 := take32_ok (bs.drop p)
      generalize bs.drop p = rest at *
      have hrl := bytesD_len rest
      generalize takeP rest 0 0 = q at h3 o3 hT0
      generalize take64P rest = q4 at h4 o4 hT0
      generalize take32P rest = q5 at h5 o5 hT0
      obtain ⟨n2, p2, e2⟩ := q
      obtain ⟨n4, e4⟩ := q4
      obtain ⟨n5, e5⟩ := q5
      dsimp only at o3 o4 o5 hT0
      have hty : n % 8 = 0 ∨ n % 8 = 1 ∨ n % 8 = 5 ∨ n % 8 = 2 := by
        unfold formedW at hfm
        simp at hfm
        by_cases h5' : n % 8 = 5
        · omega
        · simp [h5'] at hfm
          omega
      refine a_if hT rfl rfl (fun h6 => ?_) (fun h6 => ?_)
      · have h6 := eq_of_beq h6
        refine a_call hT rfl rfl rfl (by kernel_rfl) h3 [] [] rfl rfl ?_
        rintro _ _ ⟨rfl, rfl⟩
        refine a_if hT rfl rfl (fun h7 => ?_) (fun h7 => ?_)
        · have h7 := bne_iff_ne.1 h7
          refine a_build hT hZ [.v (Value.int IntKind.i64 0) 0, .v (Value.int IntKind.i64 0) 0, .v (Value.int IntKind.u64 0) 0, .v (Value.slice none 0 0) 0] rfl rfl rfl rfl rfl rfl ?_
          refine a_ret hT [] rfl rfl rfl rfl rfl rfl ?_
          have he2 : e2 ≠ 0 := fun h => h7 (by show (e2 : Int) = 0; omega)
          exact ⟨_, le_fw0 _ _, by rw [hT0, if_pos (show n % 8 = 0 by have : ((n % 8 : Nat) : Int) = 0 := h6; omega), if_pos he2]; rfl, rfl⟩
        · simp at h7
          refine a_ret hT [] rfl rfl rfl rfl rfl rfl ?_
          have he2 : e2 = 0 := by omega
          subst he2
          have hwp : IntKind.i64.wrap ((p : Int) + (p2 : Int)) = ((p + p2 : Nat) : Int) := by rw [w64 (by omega) (by omega)]; omega
          exact ⟨_, Fit.le (b := tfA (⟨min (n / 8) 536870912, 0, n2, []⟩, p + p2, 0)) ⟨⟨rfl, congrArg (Value.int .i64) h6, rfl, rfl, trivial⟩, congrArg (Value.int .i64) hwp, rfl, trivial⟩, by rw [hT0, if_pos (show n % 8 = 0 by have : ((n % 8 : Nat) : Int) = 0 := h6; omega), if_neg (by simp)], rfl⟩
      · have h6 := ne_of_beq_false h6
        refine a_if hT rfl rfl (fun h7 => ?_) (fun h7 => ?_)
        · have h7 := eq_of_beq h7
          refine a_call hT rfl rfl rfl (by kernel_rfl) h4 [] [] rfl rfl ?_
          rintro _ _ ⟨rfl, rfl⟩
          refine a_if hT rfl rfl (fun h8 => ?_) (fun h8 => ?_)
          · have h8 := bne_iff_ne.1 h8
            refine a_build hT hZ [.v (Value.int IntKind.i64 0) 0, .v (Value.int IntKind.i64 0) 0, .v (Value.int IntKind.u64 0) 0, .v (Value.slice none 0 0) 0] rfl rfl rfl rfl rfl rfl ?_
            refine a_ret hT [] rfl rfl rfl rfl rfl rfl ?_
            have he2 : e4 ≠ 0 := fun h => h8 (by show (e4 : Int) = 0; omega)
            exact ⟨_, le_fw0 _ _, by rw [hT0, if_neg (show ¬ n % 8 = 0 from fun e => h6 (by show ((n % 8 : Nat) : Int) = 0; omega)), if_pos (show n % 8 = 1 by have : ((n % 8 : Nat) : Int) = 1 := h7; omega), if_pos he2]; rfl, rfl⟩
          · simp at h8
            refine a_ret hT [] rfl rfl rfl rfl rfl rfl ?_
            have he2 : e4 = 0 := by omega
            subst he2
            have hwp : IntKind.i64.wrap ((p : Int) + 8) = ((p + 8 : Nat) : Int) := by rw [w64 (by omega) (by omega)]; omega
            exact ⟨_, Fit.le (b := tfA (⟨min (n / 8) 536870912, 1, n4, []⟩, p + 8, 0)) ⟨⟨rfl, congrArg (Value.int .i64) h7, rfl, rfl, trivial⟩, congrArg (Value.int .i64) hwp, rfl, trivial⟩, by rw [hT0, if_neg (show ¬ n % 8 = 0 from fun e => h6 (by show ((n % 8 : Nat) : Int) = 0; omega)), if_pos (show n % 8 = 1 by have : ((n % 8 : Nat) : Int) = 1 := h7; omega), if_neg (by simp)], rfl⟩
        · have h7 := ne_of_beq_false h7
          refine a_if hT rfl rfl (fun h8 => ?_) (fun h8 => ?_)
          · have h8 := eq_of_beq h8
            refine a_call hT rfl rfl rfl (by kernel_rfl) h5 [] [] rfl rfl ?_
            rintro _ _ ⟨rfl, rfl⟩
            refine a_if hT rfl rfl (fun h9 => ?_) (fun h9 => ?_)
            · have h9 := bne_iff_ne.1 h9
              refine a_build hT hZ [.v (Value.int IntKind.i64 0) 0, .v (Value.int IntKind.i64 0) 0, .v (Value.int IntKind.u64 0) 0, .v (Value.slice none 0 0) 0] rfl rfl rfl rfl rfl rfl ?_
              refine a_ret hT [] rfl rfl rfl rfl rfl rfl ?_
              have he2 : e5 ≠ 0 := fun h => h9 (by show (e5 : Int) = 0; omega)
              exact ⟨_, le_fw0 _ _, by rw [hT0, if_neg (show ¬ n % 8 = 0 from fun e => h6 (by show ((n % 8 : Nat) : Int) = 0; omega)), if_neg (show ¬ n % 8 = 1 from fun e => h7 (by show ((n % 8 : Nat) : Int) = 1; omega)), if_pos (show n % 8 = 5 by have : ((n % 8 : Nat) : Int) = 5 := h8; omega), if_pos he2]; rfl, rfl⟩
            · simp at h9
              refine a_ret hT [] rfl rfl rfl rfl rfl rfl ?_
              have he2 : e5 = 0 := by omega
              subst he2
              have hwp : IntKind.i64.wrap ((p : Int) + 4) = ((p + 4 : Nat) : Int) := by rw [w64 (by omega) (by omega)]; omega
              exact ⟨_, Fit.le (b := tfA (⟨min (n / 8) 536870912, 5, n5, []⟩, p + 4, 0)) ⟨⟨rfl, congrArg (Value.int .i64) h8, congrArg (Value.int .u64) (wrapN64 (by omega)), rfl, trivial⟩, congrArg (Value.int .i64) hwp, rfl, trivial⟩, by rw [hT0, if_neg (show ¬ n % 8 = 0 from fun e => h6 (by show ((n % 8 : Nat) : Int) = 0; omega)), if_neg (show ¬ n % 8 = 1 from fun e => h7 (by show ((n % 8 : Nat) : Int) = 1; omega)), if_pos (show n % 8 = 5 by have : ((n % 8 : Nat) : Int) = 5 := h8; omega), if_neg (by simp)], rfl⟩
          · have h8 := ne_of_beq_false h8
            refine a_if hT rfl rfl (fun h9 => ?_) (fun h9 => ?_)
            · have h9 := eq_of_beq h9
              refine a_call hT rfl rfl rfl (by kernel_rfl) h3 [] [] rfl rfl ?_
              rintro _ _ ⟨rfl, rfl⟩
              refine a_g hT rfl rfl rfl (fun h10 => ?_) (fun h10 => ?_)
              · have h10 := eq_of_beq h10
                refine a_if hT rfl rfl (fun h11 => ?_) (fun h11 => ?_)
                · have h11 := of_decide_eq_true h11
                  refine a_f hT rfl rfl rfl ?_
                  refine a_t hT rfl rfl rfl ?_
                  refine a_build hT hZ [.v (Value.int IntKind.i64 0) 0, .v (Value.int IntKind.i64 0) 0, .v (Value.int IntKind.u64 0) 0, .v (Value.slice none 0 0) 0] rfl rfl rfl rfl rfl rfl ?_
                  refine a_ret hT [] rfl rfl rfl rfl rfl rfl ?_
                  have he2 : e2 = 0 := by have : (e2 : Int) = 0 := h10; omega
                  subst he2
                  have hwl : IntKind.u64.wrap (IntKind.i64.wrap (((rest.map eB).length : Int) - (p2 : Int))) = ((rest.length - p2 : Nat) : Int) := by rw [hrl, w64 (by omega) (by omega), wrapU (by omega) (by omega)]; omega
                  have h13 : rest.length - p2 < n2 := by have : (n2 : Int) > IntKind.u64.wrap (IntKind.i64.wrap (((rest.map eB).length : Int) - (p2 : Int))) := h11; rw [hwl] at this; omega
                  exact ⟨_, le_fw0 _ _, by rw [hT0, if_neg (show ¬ n % 8 = 0 from fun e => h6 (by show ((n % 8 : Nat) : Int) = 0; omega)), if_neg (show ¬ n % 8 = 1 from fun e => h7 (by show ((n % 8 : Nat) : Int) = 1; omega)), if_neg (show ¬ n % 8 = 5 from fun e => h8 (by show ((n % 8 : Nat) : Int) = 5; omega)), if_neg (show ¬ (0 : Nat) ≠ 0 by simp), if_pos h13]; rfl, rfl⟩
                · have h11 := of_decide_eq_false h11
                  refine a_if hT rfl rfl (fun h12 => ?_) (fun h12 => ?_)
                  · have h12 := eq_of_beq h12
                    have he2 : e2 = 0 := by have : (e2 : Int) = 0 := h10; omega
                    subst he2
                    have hwl : IntKind.u64.wrap (IntKind.i64.wrap (((rest.map eB).length : Int) - (p2 : Int))) = ((rest.length - p2 : Nat) : Int) := by rw [hrl, w64 (by omega) (by omega), wrapU (by omega) (by omega)]; omega
                    have h13 : ¬ rest.length - p2 < n2 := by have : ¬ (n2 : Int) > IntKind.u64.wrap (IntKind.i64.wrap (((rest.map eB).length : Int) - (p2 : Int))) := h11; rw [hwl] at this; omega
                    have hw9 : IntKind.i64.wrap ((p2 : Int) + IntKind.i64.wrap (n2 : Int)) = ((p2 + n2 : Nat) : Int) := by rw [w64 (x := (n2 : Int)) (by omega) (by omega), w64 (by omega) (by omega)]; omega
                    have hcl := cloneF (l := (rest.drop p2).take n2) (by rw [List.length_take, List.length_drop]; omega)
                    refine a_sl hT p2 (p2 + n2) (((rest.drop p2).take n2).map eB) rfl rfl rfl rfl rfl ⟨.i64, 0, rfl⟩ ⟨.i64, 0, congrArg (fun x => AV.v (Value.int .i64 x) 0) hw9⟩ (by omega) (by rw [hrl]; omega) (by rw [List.map_take, List.map_drop, Nat.add_sub_cancel_left]) ?_
                    refine a_call hT rfl rfl rfl (by kernel_rfl) hcl [] [] rfl rfl ?_
                    rintro _ _ ⟨rfl, rfl⟩
                    refine a_f hT rfl rfl rfl ?_
                    refine a_ret hT [] rfl rfl rfl rfl rfl rfl ?_
                    have hwp : IntKind.i64.wrap ((p : Int) + IntKind.i64.wrap ((p2 : Int) + IntKind.i64.wrap (n2 : Int))) = ((p + (p2 + n2) : Nat) : Int) := by rw [hw9, w64 (by omega) (by omega)]; omega
                    exact ⟨_, Fit.le (b := tfA (⟨min (n / 8) 536870912, 2, 0, (rest.drop p2).take n2⟩, p + (p2 + n2), 0)) ⟨⟨rfl, congrArg (Value.int .i64) h9, rfl, rfl, trivial⟩, congrArg (Value.int .i64) hwp, rfl, trivial⟩, by rw [hT0, if_neg (show ¬ n % 8 = 0 from fun e => h6 (by show ((n % 8 : Nat) : Int) = 0; omega)), if_neg (show ¬ n % 8 = 1 from fun e => h7 (by show ((n % 8 : Nat) : Int) = 1; omega)), if_neg (show ¬ n % 8 = 5 from fun e => h8 (by show ((n % 8 : Nat) : Int) = 5; omega)), if_neg (show ¬ (0 : Nat) ≠ 0 by simp), if_neg h13], rfl⟩
                  · have h12 := ne_of_beq_false h12
                    (exfalso; first | omega | contradiction)
              · have h10 := ne_of_beq_false h10
                refine a_f hT rfl rfl rfl ?_
                refine a_if hT rfl rfl (fun h11 => ?_) (fun h11 => ?_)
                · have h11 := eq_of_beq h11
                  (exfalso; first | omega | contradiction)
                · have h11 := ne_of_beq_false h11
                  refine a_if hT rfl rfl (fun h12 => ?_) (fun h12 => ?_)
                  · have h12 := bne_iff_ne.1 h12
                    refine a_build hT hZ [.v (Value.int IntKind.i64 0) 0, .v (Value.int IntKind.i64 0) 0, .v (Value.int IntKind.u64 0) 0, .v (Value.slice none 0 0) 0] rfl rfl rfl rfl rfl rfl ?_
                    refine a_ret hT [] rfl rfl rfl rfl rfl rfl ?_
                    have he2 : e2 ≠ 0 := fun h => h12 (by show (e2 : Int) = 0; omega)
                    exact ⟨_, le_fw0 _ _, by rw [hT0, if_neg (show ¬ n % 8 = 0 from fun e => h6 (by show ((n % 8 : Nat) : Int) = 0; omega)), if_neg (show ¬ n % 8 = 1 from fun e => h7 (by show ((n % 8 : Nat) : Int) = 1; omega)), if_neg (show ¬ n % 8 = 5 from fun e => h8 (by show ((n % 8 : Nat) : Int) = 5; omega)), if_pos he2]; rfl, rfl⟩
                  · simp at h12
                    refine a_ret hT [] rfl rfl rfl rfl rfl rfl ?_
                    exact absurd (show (e2 : Int) = 0 by first | omega | (have : e2 = 0 := h12; omega)) h10
            · have h9 := ne_of_beq_false h9
              refine a_f hT rfl rfl rfl ?_
              refine a_ret hT [] rfl rfl rfl rfl rfl rfl ?_
              exfalso
              rcases hty with h13 | h13 | h13 | h13
              · exact h6 (by show ((n % 8 : Nat) : Int) = 0; omega)
              · exact h7 (by show ((n % 8 : Nat) : Int) = 1; omega)
              · exact h8 (by show ((n % 8 : Nat) : Int) = 5; omega)
              · exact h9 (by show ((n % 8 : Nat) : Int) = 2; omega)
end Go.Proofs.YtjcolfogmmjaoaaGreatDoor
end

section
/- Layer 2: wire.Split. -/
set_option linter.unusedVariables false
set_option linter.unusedSimpArgs false
set_option maxRecDepth 100000
set_option maxHeartbeats 1000000
namespace Go.Proofs.YtjcolfogmmjaoaaGreatDoor
open V A
theorem takeFP_ok (bs : List UInt8) : (takeFP bs).2.2 = 0 → 1 ≤ (takeFP bs).2.1 ∧ (takeFP bs).2.1 ≤ bs.length := by
  have o1 := takeP_ok bs 0 0 (by decide) (by decide)
  unfold takeFP
  generalize takeP bs 0 0 = r at o1 ⊢
  obtain ⟨n, p, e⟩ := r
  have hbl : (bs.drop p).length = bs.length - p := List.length_drop
  have o3 := takeP_ok (bs.drop p) 0 0 (by decide) (by decide)
  have o4 := take64_ok (bs.drop p)
  have o5 := take32_ok (bs.drop p)
  dsimp only at *
  generalize bs.drop p = rest at *
  generalize takeP rest 0 0 = q at *
  generalize take64P rest = q4 at *
  generalize take32P rest = q5 at *
  obtain ⟨n2, p2, e2⟩ := q
  obtain ⟨n4, e4⟩ := q4
  obtain ⟨n5, e5⟩ := q5
  dsimp only at *
  by_cases he : e ≠ 0
  · rw [if_pos he]; exact fun h => absurd h he
  rw [if_neg he]
  have h1 := o1.1 (by omega)
  by_cases hf : formedW ⟨min (n / 8) 536870912, n % 8, 0, []⟩ = false
  · rw [if_pos hf]; exact fun h => absurd h (by decide)
  rw [if_neg hf]
  by_cases t0 : n % 8 = 0
  · rw [if_pos t0]
    by_cases h2 : e2 ≠ 0
    · rw [if_pos h2]; exact fun h => absurd h h2
    rw [if_neg h2]
    have := o3.1 (by omega)
    exact fun _ => by dsimp only; omega
  rw [if_neg t0]
  by_cases t1 : n % 8 = 1
  · rw [if_pos t1]
    by_cases h2 : e4 ≠ 0
    · rw [if_pos h2]; exact fun h => absurd h h2
    rw [if_neg h2]
    have := o4.2.1 (by omega)
    exact fun _ => by dsimp only; omega
  rw [if_neg t1]
  by_cases t5 : n % 8 = 5
  · rw [if_pos t5]
    by_cases h2 : e5 ≠ 0
    · rw [if_pos h2]; exact fun h => absurd h h2
    rw [if_neg h2]
    have := o5.2.1 (by omega)
    exact fun _ => by dsimp only; omega
  rw [if_neg t5]
  by_cases h2 : e2 ≠ 0
  · rw [if_pos h2]; exact fun h => absurd h h2
  rw [if_neg h2]
  have := o3.1 (by omega)
  by_cases h3 : rest.length - p2 < n2
  · rw [if_pos h3]; exact fun h => absurd h (by decide)
  rw [if_neg h3]
  exact fun _ => by dsimp only; omega
def wsplitP : Nat → List UInt8 → Option (List (FW × List UInt8))
  | _, [] => some []
  | 0, _ :: _ => none
  | k + 1, b :: bs => if (takeFP (b :: bs)).2.2 ≠ 0 then none else (wsplitP k ((b :: bs).drop (takeFP (b :: bs)).2.1)).map (((takeFP (b :: bs)).1, (b :: bs).take (takeFP (b :: bs)).2.1) :: ·)
theorem wsplitP_fuel : ∀ (k : Nat) (bs : List UInt8), bs.length ≤ k → wsplitP k bs = wsplitP bs.length bs := by
  intro k
  induction k using Nat.strongRecOn with
  | _ k ih =>
  intro bs h
  cases bs with
  | nil => cases k <;> rfl
  | cons b bs =>
    cases k with
    | zero => simp at h
    | succ k =>
      simp only [List.length_cons]
      unfold wsplitP
      split
      · rfl
      · rename_i he
        have he := takeFP_ok (b :: bs) (by simpa using he)
        generalize (takeFP (b :: bs)).2.1 = p at he ⊢
        generalize (takeFP (b :: bs)).1 = f
        have hl : ((b :: bs).drop p).length ≤ bs.length := by rw [List.length_drop]; simp only [List.length_cons]; omega
        simp only [List.length_cons] at h
        rw [ih k (by omega) _ (by omega), ih bs.length (by omega) _ hl]
def splitW (bs : List UInt8) : Option (List (FW × List UInt8)) := wsplitP bs.length bs
theorem splitW_nil : splitW [] = some [] := rfl
theorem splitW_cons {bs : List UInt8} (h : bs ≠ []) : splitW bs = if (takeFP bs).2.2 ≠ 0 then none else (splitW (bs.drop (takeFP bs).2.1)).map (((takeFP bs).1, bs.take (takeFP bs).2.1) :: ·) := by
  cases bs with
  | nil => exact absurd rfl h
  | cons b bs =>
    show wsplitP (bs.length + 1) (b :: bs) = _
    conv => lhs; unfold wsplitP
    split
    · rfl
    · rename_i he
      have he := takeFP_ok (b :: bs) (by simpa using he)
      unfold splitW
      rw [wsplitP_fuel bs.length _ (by rw [List.length_drop]; simp only [List.length_cons]; omega)]
def rawD (x : FW × List UInt8) : List A.Dat := [.sl 1 (x.2.map eB)]
def wsplitA : Option (List (FW × List UInt8)) → AV
  | none => .tup [.d (.sl 4 []), .d (.sl 1 []), .v (kI 2) 0]
  | some L => .tup [.d (.sl 4 (L.map fun x => fwD x.1)), .d (.sl 1 (L.map rawD)), .v (kI 0) 0]
theorem WSplit_spec {bs : List UInt8} (hl : bs.length ≤ 1000000000) : FSpec Tryz.prog 74 [.d (A.bytesD bs)] [] fun a cs => a = wsplitA (splitW bs) ∧ cs = [] := by
  refine FSpec.le ?_
  have hlim : lim = 4294967296 := rfl
  have hlen := bytesD_len bs
  refine a_enter hT [.d (A.bytesD bs)] [] Tryz.func74 rfl rfl rfl ⟨Fit.refl _, trivial⟩ fun c' => ?_
  refine a_run hT 4 rfl rfl ?_
  refine a_nilrow 2 12 139 4 rfl rfl ?_
  refine a_nilrow 3 13 27 1 rfl rfl ?_
  refine a_loop hT [0, 2, 3] (fun x : List (FW × List UInt8) × List UInt8 × Value × Value => [.d (A.bytesD x.2.1), .row x.2.2.1 12, .row x.2.2.2 13]) (fun x => [(12, .row x.2.2.1 139 4 (x.1.map fun y => fwD y.1)), (13, .row x.2.2.2 27 1 (x.1.map rawD))]) (fun x => (splitW x.2.1).map (x.1 ++ ·) = splitW bs ∧ x.1.length + x.2.1.length ≤ bs.length) (fun x => x.2.1.length) ([], bs, .slice none 0 0, .slice none 0 0) [12, 13] rfl rfl ⟨by show (splitW bs).map ([] ++ ·) = _; simp, by simp⟩ ⟨rfl, rfl, rfl, trivial⟩ rfl ⟨⟨rfl, rfl, rfl, rfl⟩, ⟨rfl, rfl, rfl, rfl⟩, trivial⟩ ?_
  rintro ⟨acc, rest, v2, v3⟩ ⟨i1, i2⟩
  dsimp only at i1 i2
  have hrl := bytesD_len rest
  rcases Nat.eq_zero_or_pos rest.length with h0 | h0
  · have : rest = [] := List.eq_nil_of_length_eq_zero h0
    subst this
    refine a_f hT rfl rfl rfl ?_
    refine a_freeze 2 12 rfl rfl rfl rfl ?_
    refine a_freeze 3 13 rfl rfl rfl rfl ?_
    refine a_ret hT [] rfl rfl rfl rfl rfl rfl ?_
    exact ⟨_, Le.refl _, by rw [← i1, splitW_nil]; show _ = wsplitA (some (acc ++ [])); rw [List.append_nil]; rfl, rfl⟩
  · have hne : rest ≠ [] := fun e => by rw [e] at h0; simp at h0
    have hw := splitW_cons hne
    have ht := WTake_spec (bs := rest) (by omega)
    have ho := takeFP_ok rest
    generalize takeFP rest = r at hw ht ho
    obtain ⟨f, p, e⟩ := r
    dsimp only at hw ho
    refine a_t hT rfl rfl (decide_eq_true (by show ((rest.map eB).length : Int) > 0; rw [hrl]; omega)) ?_
    obtain ⟨fn, ft, fu, fd⟩ := f
    refine a_call hT rfl rfl rfl (by kernel_rfl) ht [] [] rfl rfl ?_
    rintro _ _ ⟨rfl, rfl⟩
    refine a_new hT hZ 20 rfl rfl rfl rfl fun g => ?_
    refine a_if hT rfl rfl (fun h => ?_) (fun h => ?_)
    · have h := bne_iff_ne.1 h
      refine a_ret hT [] rfl rfl rfl rfl rfl rfl ?_
      have he : e ≠ 0 := fun h2 => h (by show (e : Int) = 0; omega)
      rw [if_pos he] at hw
      exact ⟨_, Le.tup (.cons (le_nil (k := 4)) (.cons (le_nil (k := 1)) (.cons (Le.refl _) .nil))), by rw [← i1, hw]; rfl, rfl⟩
    · simp at h
      have he : e = 0 := by omega
      subst he
      have ho := ho rfl
      rw [if_neg (show ¬ (0 : Nat) ≠ 0 by simp)] at hw
      refine a_draw hT [12, 13] false [(0, false), (1, false), (4, false), (5, false), (6, false), (7, false), (2, true), (3, true), (8, true), (9, true), (10, true), (11, true), (12, true)] rfl rfl (by kernel_rfl) (by kernel_rfl) rfl ?_
      refine a_sl hT 0 p ((rest.take p).map eB) rfl rfl rfl rfl rfl rfl ⟨.i64, 0, rfl⟩ (by omega) (by rw [hrl]; omega) (by simp [List.map_take]) ?_
      have hcl := cloneF (l := rest.take p) (by rw [List.length_take]; omega)
      refine a_lit hT 21 rfl rfl rfl rfl (by kernel_rfl) rfl rfl rfl rfl fun x21 => ?_
      refine a_app hT 12 _ rfl rfl rfl rfl (by kernel_rfl) rfl rfl rfl rfl rfl rfl (by first | (simp; done) | (simp; omega) | (simp; unfold lim; omega) | (simp; assumption)) fun v => ?_
      refine a_call hT rfl rfl rfl (by kernel_rfl) hcl [] [] rfl rfl ?_
      rintro _ _ ⟨rfl, rfl⟩
      refine a_lit hT 22 rfl rfl rfl rfl (by kernel_rfl) rfl rfl rfl rfl fun x22 => ?_
      refine a_app hT 13 _ rfl rfl rfl rfl (by kernel_rfl) rfl rfl rfl rfl rfl rfl (by first | (simp; done) | (simp; omega) | (simp; unfold lim; omega) | (simp; assumption)) fun v1 => ?_
      refine a_sl hT p (rest.map eB).length ((rest.drop p).map eB) rfl rfl rfl rfl rfl ⟨.i64, 0, rfl⟩ rfl (by rw [hrl]; omega) (Nat.le_refl _) (slD rest p) ?_
      exact a_next hT (acc ++ [(⟨fn, ft, fu, fd⟩, rest.take p)], rest.drop p, v, v1) [12, 13] rfl rfl ⟨⟨by rw [← i1, hw]; show (splitW (rest.drop p)).map _ = _; rw [Option.map_map]; congr 1; funext L; simp, by show (acc ++ [_]).length + (rest.drop p).length ≤ bs.length; rw [List.length_append, List.length_drop]; simp only [List.length_cons, List.length_nil]; omega⟩, by show (rest.drop p).length < rest.length; rw [List.length_drop]; omega⟩ ⟨rfl, rfl, rfl, trivial⟩ rfl ⟨⟨rfl, rfl, rfl, by show _ = (acc ++ [_]).map _; rw [List.map_append]; rfl⟩, ⟨rfl, rfl, rfl, by show _ = (acc ++ [_]).map _; rw [List.map_append]; rfl⟩, trivial⟩
end Go.Proofs.YtjcolfogmmjaoaaGreatDoor
end

section
/- Layer 9: values as trees, on either side. -/
set_option linter.unusedVariables false
set_option linter.unusedSimpArgs false
set_option maxRecDepth 100000
namespace Go.Proofs.YtjcolfogmmjaoaaGreatDoor
open V A
mutual
/-- A node of the document's. -/
inductive ND where
  | mk (kind n u : Int) (b : Bool) (s : ByteArray) (ty : Int) (fs : List NF)
inductive NF where
  | mk (num : Int) (vs : List ND)
end
mutual
/-- A value. -/
inductive VL where
  | none
  | int (n : Int)
  | uint (u : Int)
  | bool (b : Bool)
  | text (s : ByteArray)
  | bytes (s : ByteArray)
  | enum (n : Int)
  | msg (ty : Int) (fs : List VF) (unk : ByteArray)
inductive VF where
  | mk (num : Int) (vs : List VL)
end
mutual
def ndD : ND → List A.Dat
  | .mk k n u b s t fs => [.v (kI k), .v (kI n), .v (kU u), .v (.bool b), .v (.string s), .v (kI t), .sl 2 (nfsD fs)]
def nfD : NF → List A.Dat
  | .mk num vs => [.v (kI num), .sl 7 (ndsD vs)]
def nfsD : List NF → List (List A.Dat)
  | [] => []
  | f :: fs => nfD f :: nfsD fs
def ndsD : List ND → List (List A.Dat)
  | [] => []
  | x :: xs => ndD x :: ndsD xs
end
mutual
def vlD : VL → A.Dat
  | .none => .v .nilIface
  | .int n => .ifc 89 false [.v (kI n)]
  | .uint u => .ifc 90 false [.v (kU u)]
  | .bool b => .ifc 91 false [.v (.bool b)]
  | .text s => .ifc 92 false [.v (.string s)]
  | .bytes s => .ifc 93 false [.v (.string s)]
  | .enum n => .ifc 94 false [.v (.int .i32 n)]
  | .msg t fs s => .ifc 97 true [.v (kI t), .sl 2 (vfsD fs), .v (.string s)]
def vfD : VF → List A.Dat
  | .mk num vs => [.v (kI num), .sl 1 (vlsD vs)]
def vfsD : List VF → List (List A.Dat)
  | [] => []
  | f :: fs => vfD f :: vfsD fs
def vlsD : List VL → List (List A.Dat)
  | [] => []
  | x :: xs => [vlD x] :: vlsD xs
end
theorem nfsD_map : ∀ fs, nfsD fs = fs.map nfD
  | [] => rfl
  | f :: fs => by unfold nfsD; rw [nfsD_map fs]; rfl
theorem ndsD_map : ∀ fs, ndsD fs = fs.map ndD
  | [] => rfl
  | f :: fs => by unfold ndsD; rw [ndsD_map fs]; rfl
theorem vfsD_map : ∀ fs, vfsD fs = fs.map vfD
  | [] => rfl
  | f :: fs => by unfold vfsD; rw [vfsD_map fs]; rfl
theorem vlsD_map : ∀ fs, vlsD fs = fs.map fun x => [vlD x]
  | [] => rfl
  | f :: fs => by unfold vlsD; rw [vlsD_map fs]; rfl
mutual
def theirsP : ND → VL
  | .mk k n u b s t fs => if k = 1 then .int n else if k = 2 then .uint u else if k = 3 then .bool b else if k = 4 then .text s else if k = 5 then .bytes s else if k = 6 then .enum (IntKind.i32.wrap n) else if k = 7 then .msg t (theirsFs fs) s else .none
def theirsF : NF → VF
  | .mk num vs => .mk num (theirsVs vs)
def theirsFs : List NF → List VF
  | [] => []
  | f :: fs => theirsF f :: theirsFs fs
def theirsVs : List ND → List VL
  | [] => []
  | x :: xs => theirsP x :: theirsVs xs
end
theorem theirsFs_map : ∀ fs, theirsFs fs = fs.map theirsF
  | [] => rfl
  | f :: fs => by unfold theirsFs; rw [theirsFs_map fs]; rfl
theorem theirsVs_map : ∀ fs, theirsVs fs = fs.map theirsP
  | [] => rfl
  | f :: fs => by unfold theirsVs; rw [theirsVs_map fs]; rfl
mutual
def oursP : VL → ND
  | .none => .mk 0 0 0 false .empty 0 []
  | .int n => .mk 1 n 0 false .empty 0 []
  | .uint u => .mk 2 0 u false .empty 0 []
  | .bool b => .mk 3 0 0 b .empty 0 []
  | .text s => .mk 4 0 0 false s 0 []
  | .bytes s => .mk 5 0 0 false s 0 []
  | .enum n => .mk 6 n 0 false .empty 0 []
  | .msg t fs s => .mk 7 0 0 false s t (oursFs fs)
def oursF : VF → NF
  | .mk num vs => .mk num (oursVs vs)
def oursFs : List VF → List NF
  | [] => []
  | f :: fs => oursF f :: oursFs fs
def oursVs : List VL → List ND
  | [] => []
  | x :: xs => oursP x :: oursVs xs
end
theorem oursFs_map : ∀ fs, oursFs fs = fs.map oursF
  | [] => rfl
  | f :: fs => by unfold oursFs; rw [oursFs_map fs]; rfl
theorem oursVs_map : ∀ fs, oursVs fs = fs.map oursP
  | [] => rfl
  | f :: fs => by unfold oursVs; rw [oursVs_map fs]; rfl
/-- Not too wide anywhere. -/
inductive OkN : ND → Prop
  | mk {k n u : Int} {b : Bool} {s : ByteArray} {t : Int} {fs : List NF} : fs.length ≤ 100000 → (∀ num vs, NF.mk num vs ∈ fs → vs.length ≤ 100000) → (∀ num vs x, NF.mk num vs ∈ fs → x ∈ vs → OkN x) → OkN (.mk k n u b s t fs)
def fV (f : VF) : Int × List VL := match f with | .mk n vs => (n, vs)
def ndA (x : ND) : AV := .agg ((ndD x).map nd)
theorem Theirs_spec : ∀ {x : ND}, OkN x → FSpec Tryz.prog 22 [ndA x] [] fun a cs => a = .d (vlD (theirsP x)) ∧ cs = [] := by
  intro x hok
  induction hok with
  | @mk k n u b s t fs hl hvl hv ih =>
  refine FSpec.le ?_
  refine a_enter hT [ndA (.mk k n u b s t fs)] [] Tryz.func22 rfl rfl rfl ⟨Fit.refl _, trivial⟩ fun c' => ?_
  refine a_box hT 20 rfl rfl rfl rfl fun g1 => ?_
  refine a_freezeK 1 20 rfl rfl rfl rfl rfl ?_
  refine a_if hT rfl rfl (fun h => ?_) (fun h => ?_)
  · have h := eq_of_beq h
    refine a_ret hT [] rfl rfl rfl rfl rfl rfl ?_
    exact ⟨_, le_ifcV rfl, by unfold theirsP; simp_all [vlD], rfl⟩
  · have h := ne_of_beq_false h
    refine a_if hT rfl rfl (fun h1 => ?_) (fun h1 => ?_)
    · have h1 := eq_of_beq h1
      refine a_ret hT [] rfl rfl rfl rfl rfl rfl ?_
      exact ⟨_, le_ifcV rfl, by unfold theirsP; simp_all [vlD], rfl⟩
    · have h1 := ne_of_beq_false h1
      refine a_if hT rfl rfl (fun h2 => ?_) (fun h2 => ?_)
      · have h2 := eq_of_beq h2
        refine a_ret hT [] rfl rfl rfl rfl rfl rfl ?_
        exact ⟨_, le_ifcV rfl, by unfold theirsP; simp_all [vlD], rfl⟩
      · have h2 := ne_of_beq_false h2
        refine a_if hT rfl rfl (fun h3 => ?_) (fun h3 => ?_)
        · have h3 := eq_of_beq h3
          refine a_ret hT [] rfl rfl rfl rfl rfl rfl ?_
          exact ⟨_, le_ifcV rfl, by unfold theirsP; simp_all [vlD], rfl⟩
        · have h3 := ne_of_beq_false h3
          refine a_if hT rfl rfl (fun h4 => ?_) (fun h4 => ?_)
          · have h4 := eq_of_beq h4
            refine a_ret hT [] rfl rfl rfl rfl rfl rfl ?_
            exact ⟨_, le_ifcV rfl, by unfold theirsP; simp_all [vlD], rfl⟩
          · have h4 := ne_of_beq_false h4
            refine a_if hT rfl rfl (fun h5 => ?_) (fun h5 => ?_)
            · have h5 := eq_of_beq h5
              refine a_ret hT [] rfl rfl rfl rfl rfl rfl ?_
              exact ⟨_, le_ifcV rfl, by unfold theirsP; simp_all [vlD], rfl⟩
            · have h5 := ne_of_beq_false h5
              refine a_if hT rfl rfl (fun h6 => ?_) (fun h6 => ?_)
              · have h6 := eq_of_beq h6
                refine a_build hT hZ [.v (kI t) 0, .v (Value.slice none 0 0) 0, .v (Value.string s) 0] rfl rfl rfl rfl rfl rfl ?_
                refine a_new hT hZ 20 rfl rfl rfl rfl fun g => ?_
                have hth : theirsP (.mk k n u b s t fs) = .msg t (theirsFs fs) s := by unfold theirsP; simp_all
                have hlen : (nfsD fs).length = fs.length := by rw [nfsD_map, List.length_map]
                refine a_run hT 2 rfl rfl ?_
                refine a_nilrowB 20 1 21 99 2 rfl rfl rfl ?_
                refine a_loop hT [1, 3, 49, 50] (fun x : Nat × Value => [.d (.p (ndD (.mk k n u b s t fs))), .v (.pointer (some ⟨g, 0, none⟩)) 20, .v (kI fs.length) 0, .v (kI x.1) 0]) (fun x => [(20, .blk g 97 [.v (kI t) 0, .row x.2 21, .v (.string s) 0]), (21, .row x.2 99 2 ((fs.take x.1).map fun f => vfD (theirsF f)))]) (fun x => x.1 ≤ fs.length) (fun x => fs.length - x.1) (0, .slice none 0 0) [20, 21] rfl rfl (Nat.zero_le _) ⟨rfl, rfl, by rw [← hlen]; rfl, rfl, trivial⟩ rfl ⟨⟨rfl, rfl, ⟨rfl, rfl, rfl, trivial⟩⟩, ⟨rfl, rfl, rfl, rfl⟩, trivial⟩ ?_
                rintro ⟨i, v⟩ i2
                dsimp only at i2
                have hw := wN i (by omega)
                rcases Nat.lt_or_ge i fs.length with hil | hil
                · have hat : (nfsD fs)[(i : Int).toNat]? = some (nfD fs[i]) := by rw [nfsD_map]; simp [hil]
                  have hmem := List.getElem_mem hil
                  have htk : (fs.take (i + 1)).map (fun f => vfD (theirsF f)) = (fs.take i).map (fun f => vfD (theirsF f)) ++ [vfD (theirsF fs[i])] := by rw [List.take_succ_eq_append_getElem hil, List.map_append]; rfl
                  generalize fs[i] = f at hat hmem htk
                  obtain ⟨num, vs⟩ := f
                  have hvs := hvl num vs hmem
                  have hih := fun x hx => ih num vs x hmem hx
                  have hlv : (ndsD vs).length = vs.length := by rw [ndsD_map, List.length_map]
                  refine a_t hT rfl rfl (decide_eq_true (by show (i : Int) < (fs.length : Int); omega)) ?_
                  refine a_ix hT _ rfl rfl rfl rfl rfl rfl (by first | omega | assumption) (by first | assumption | rfl) ?_
                  refine a_build hT hZ [.v (kI num) 0, .v (Value.slice none 0 0) 0] rfl rfl rfl rfl rfl rfl ?_
                  refine a_new hT hZ 22 rfl rfl rfl rfl fun g2 => ?_
                  refine a_ix hT _ rfl rfl rfl rfl rfl rfl (by first | omega | assumption) (by first | assumption | rfl) ?_
                  refine a_nilrowB 22 1 23 31 1 rfl rfl rfl ?_
                  refine a_loop hT [1, 3, 4, 5, 49, 50, 66, 67] (fun x : Nat × Value => [.d (.p (ndD (.mk k n u b s t fs))), .v (.pointer (some ⟨g, 0, none⟩)) 20, .v (kI i) 0, .v (.pointer (some ⟨g2, 0, none⟩)) 22, .v (kI fs.length) 0, .v (kI i) 0, .v (kI vs.length) 0, .v (kI x.1) 0]) (fun x => [(20, .blk g 97 [.v (kI t) 0, .row v 21, .v (.string s) 0]), (21, .row v 99 2 ((fs.take i).map fun f => vfD (theirsF f))), (22, .blk g2 99 [.v (kI num) 0, .row x.2 23]), (23, .row x.2 31 1 ((vs.take x.1).map fun y => [vlD (theirsP y)]))]) (fun x => x.1 ≤ vs.length) (fun x => vs.length - x.1) (0, .slice none 0 0) [20, 21, 22, 23] rfl rfl (Nat.zero_le _) ⟨rfl, rfl, rfl, rfl, rfl, rfl, by rw [← hlv]; rfl, rfl, trivial⟩ rfl ⟨⟨rfl, rfl, ⟨rfl, rfl, rfl, trivial⟩⟩, ⟨rfl, rfl, rfl, rfl⟩, ⟨rfl, rfl, ⟨rfl, rfl, trivial⟩⟩, ⟨rfl, rfl, rfl, rfl⟩, trivial⟩ ?_
                  rintro ⟨j, v2⟩ i3
                  dsimp only at i3
                  have hw2 := wN j (by omega)
                  rcases Nat.lt_or_ge j vs.length with hjl | hjl
                  · have hat2 : (ndsD vs)[(j : Int).toNat]? = some (ndD vs[j]) := by rw [ndsD_map]; simp [hjl]
                    have htk2 : (vs.take (j + 1)).map (fun y => [vlD (theirsP y)]) = (vs.take j).map (fun y => [vlD (theirsP y)]) ++ [[vlD (theirsP vs[j])]] := by rw [List.take_succ_eq_append_getElem hjl, List.map_append]; rfl
                    have hy := hih vs[j] (List.getElem_mem hjl)
                    generalize vs[j] = y at hat2 htk2 hy
                    obtain ⟨yk, yn, yu, yb, ys, yt, yf⟩ := y
                    refine a_t hT rfl rfl (decide_eq_true (by show (j : Int) < (vs.length : Int); omega)) ?_
                    refine a_draw hT [23] true [(0, false), (1, false), (2, false), (3, false), (4, false), (5, false), (6, false), (7, false), (8, false), (9, false), (10, false), (11, true), (12, true), (13, true), (14, true), (15, true)] rfl rfl (by kernel_rfl) (by kernel_rfl) rfl ?_
                    refine a_ix hT _ rfl rfl rfl rfl rfl rfl (by first | omega | assumption) (by first | assumption | rfl) ?_
                    refine a_ix hT _ rfl rfl rfl rfl rfl rfl (by first | omega | assumption) (by first | assumption | rfl) ?_
                    refine a_call hT rfl rfl rfl (by kernel_rfl) hy [] [] rfl rfl ?_
                    rintro _ _ ⟨rfl, rfl⟩
                    refine a_lit hT 24 rfl rfl rfl rfl (by kernel_rfl) rfl rfl rfl rfl fun x24 => ?_
                    have hlim : ((vs.take j).map (fun y => [vlD (theirsP y)])).length + 1 ≤ lim := by rw [List.length_map, List.length_take]; unfold lim; omega
                    refine a_app hT 23 _ rfl rfl rfl rfl (by kernel_rfl) rfl rfl rfl rfl rfl rfl hlim fun v1 => ?_
                    exact a_next hT (j + 1, v1) [20, 21, 22, 23] rfl rfl ⟨by show j + 1 ≤ vs.length; omega, by show vs.length - (j + 1) < vs.length - j; omega⟩ ⟨rfl, rfl, rfl, rfl, rfl, rfl, rfl, by show Value.int .i64 _ = Value.int .i64 _; rw [hw2], trivial⟩ rfl ⟨⟨rfl, rfl, ⟨rfl, rfl, rfl, trivial⟩⟩, ⟨rfl, rfl, rfl, rfl⟩, ⟨rfl, rfl, ⟨rfl, rfl, trivial⟩⟩, ⟨rfl, rfl, rfl, htk2.symm⟩, trivial⟩
                  · refine a_f hT rfl rfl (decide_eq_false (by show ¬ (j : Int) < (vs.length : Int); omega)) ?_
                    refine a_freezeB 22 1 23 rfl rfl rfl rfl rfl ?_
                    have hj : j = vs.length := by omega
                    subst hj
                    have htk3 : (fs.take i).map (fun f => vfD (theirsF f)) ++ [[.v (kI num), .sl 1 ((vs.take vs.length).map (fun y => [vlD (theirsP y)]))]] = (fs.take (i + 1)).map (fun f => vfD (theirsF f)) := by
                      rw [htk, List.take_length]
                      unfold theirsF vfD
                      rw [vlsD_map, theirsVs_map, List.map_map]
                      rfl
                    refine a_lit hT 23 rfl rfl rfl rfl (by kernel_rfl) rfl rfl rfl rfl fun x23 => ?_
                    refine a_app hT 21 _ rfl rfl rfl rfl (by kernel_rfl) rfl rfl rfl rfl rfl rfl (by first | (simp; done) | (simp; omega) | (simp; unfold lim; omega) | (simp; assumption)) fun v1 => ?_
                    exact a_next hT (i + 1, v1) [20, 21] rfl rfl ⟨by show i + 1 ≤ fs.length; omega, by show fs.length - (i + 1) < fs.length - i; omega⟩ ⟨rfl, rfl, rfl, by show Value.int .i64 _ = Value.int .i64 _; rw [hw], trivial⟩ rfl ⟨⟨rfl, rfl, ⟨rfl, rfl, rfl, trivial⟩⟩, ⟨rfl, rfl, rfl, htk3⟩, trivial⟩
                · refine a_f hT rfl rfl (decide_eq_false (by show ¬ (i : Int) < (fs.length : Int); omega)) ?_
                  refine a_freezeB 20 1 21 rfl rfl rfl rfl rfl ?_
                  have hi : i = fs.length := by omega
                  subst hi
                  refine a_ret hT [] rfl rfl rfl rfl rfl rfl ?_
                  refine ⟨_, le_ifcA rfl, ?_, rfl⟩
                  rw [hth]
                  unfold vlD
                  rw [vfsD_map, theirsFs_map, List.map_map]
                  show AV.d (.ifc _ true [_, .sl 2 ((fs.take fs.length).map fun f => vfD (theirsF f)), _]) = _
                  rw [List.take_length]
                  rfl
              · have h6 := ne_of_beq_false h6
                refine a_ret hT [] rfl rfl rfl rfl rfl rfl ?_
                exact ⟨_, Fit.le (b := .d (.v .nilIface)) ⟨rfl, rfl⟩, by unfold theirsP; simp_all [vlD], rfl⟩
end Go.Proofs.YtjcolfogmmjaoaaGreatDoor
end

section
/- Layer 9: Ours. -/
set_option linter.unusedVariables false
set_option linter.unusedSimpArgs false
set_option maxRecDepth 100000
set_option maxHeartbeats 1000000
namespace Go.Proofs.YtjcolfogmmjaoaaGreatDoor
open V A
inductive OkV : VL → Prop
  | none : OkV .none
  | int (n : Int) : OkV (.int n)
  | uint (u : Int) : OkV (.uint u)
  | bool (b : Bool) : OkV (.bool b)
  | text (s : ByteArray) : OkV (.text s)
  | bytes (s : ByteArray) : OkV (.bytes s)
  | enum (n : Int) : -2147483648 ≤ n → n < 2147483648 → OkV (.enum n)
  | msg {t : Int} {fs : List VF} {s : ByteArray} : fs.length ≤ 100000 → (∀ num vs, VF.mk num vs ∈ fs → vs.length ≤ 100000) → (∀ num vs x, VF.mk num vs ∈ fs → x ∈ vs → OkV x) → OkV (.msg t fs s)
theorem Ours_spec : ∀ {v : VL}, OkV v → FSpec Tryz.prog 18 [nd (vlD v)] [] fun a cs => a = ndA (oursP v) ∧ cs = [] := by
  intro v hok
  induction hok with
  | none =>
    refine FSpec.le ?_
    refine a_enter hT [nd (vlD .none)] [] Tryz.func18 rfl rfl rfl ⟨Fit.refl _, trivial⟩ fun c' => ?_
    refine a_new hT hZ 20 rfl rfl rfl rfl fun g => ?_
    refine a_assertN hT (.int .i64 0) rfl rfl rfl rfl rfl (by kernel_rfl) rfl ?_
    refine a_f hT rfl rfl rfl ?_
    refine a_assertN hT (.int .u64 0) rfl rfl rfl rfl rfl (by kernel_rfl) rfl ?_
    refine a_f hT rfl rfl rfl ?_
    refine a_assertN hT (.bool false) rfl rfl rfl rfl rfl (by kernel_rfl) rfl ?_
    refine a_f hT rfl rfl rfl ?_
    refine a_assertN hT (.string ByteArray.empty) rfl rfl rfl rfl rfl (by kernel_rfl) rfl ?_
    refine a_f hT rfl rfl rfl ?_
    refine a_assertN hT (.string ByteArray.empty) rfl rfl rfl rfl rfl (by kernel_rfl) rfl ?_
    refine a_f hT rfl rfl rfl ?_
    refine a_assertN hT (.int .i32 0) rfl rfl rfl rfl rfl (by kernel_rfl) rfl ?_
    refine a_f hT rfl rfl rfl ?_
    refine a_assertN hT (.agg #[.int .i64 0, .slice none 0 0, .string ByteArray.empty]) rfl rfl rfl rfl rfl (by kernel_rfl) rfl ?_
    refine a_f hT rfl rfl rfl ?_
    refine a_build hT hZ [.v (Value.int IntKind.i64 0) 0, .v (Value.int IntKind.i64 0) 0, .v (Value.int IntKind.u64 0) 0, .v (Value.bool false) 0, .v (Value.string ByteArray.empty) 0, .v (Value.int IntKind.i64 0) 0, .v (Value.slice none 0 0) 0] rfl rfl rfl rfl rfl rfl ?_
    refine a_ret hT [] rfl rfl rfl rfl rfl rfl ?_
    exact ⟨_, Fit.le (b := ndA (oursP .none)) ⟨rfl, rfl, rfl, rfl, rfl, rfl, ⟨rfl, rfl⟩, trivial⟩, rfl, rfl⟩
  | int n =>
    refine FSpec.le ?_
    refine a_enter hT [nd (vlD (.int n))] [] Tryz.func18 rfl rfl rfl ⟨Fit.refl _, trivial⟩ fun c' => ?_
    refine a_new hT hZ 20 rfl rfl rfl rfl fun g => ?_
    refine a_t hT rfl rfl rfl ?_
    refine a_build hT hZ [.v (Value.int IntKind.i64 1) 0, .d (A.Dat.v (kI n)), .v (Value.int IntKind.u64 0) 0, .v (Value.bool false) 0, .v (Value.string ByteArray.empty) 0, .v (Value.int IntKind.i64 0) 0, .v (Value.slice none 0 0) 0] rfl rfl rfl rfl rfl rfl ?_
    refine a_ret hT [] rfl rfl rfl rfl rfl rfl ?_
    exact ⟨_, Fit.le (b := ndA (oursP (.int n))) ⟨rfl, rfl, rfl, rfl, rfl, rfl, ⟨rfl, rfl⟩, trivial⟩, rfl, rfl⟩
  | uint u =>
    refine FSpec.le ?_
    refine a_enter hT [nd (vlD (.uint u))] [] Tryz.func18 rfl rfl rfl ⟨Fit.refl _, trivial⟩ fun c' => ?_
    refine a_new hT hZ 20 rfl rfl rfl rfl fun g => ?_
    refine a_assertN hT (.int .i64 0) rfl rfl rfl rfl rfl (by kernel_rfl) rfl ?_
    refine a_f hT rfl rfl rfl ?_
    refine a_t hT rfl rfl rfl ?_
    refine a_build hT hZ [.v (Value.int IntKind.i64 2) 0, .v (Value.int IntKind.i64 0) 0, .d (A.Dat.v (kU u)), .v (Value.bool false) 0, .v (Value.string ByteArray.empty) 0, .v (Value.int IntKind.i64 0) 0, .v (Value.slice none 0 0) 0] rfl rfl rfl rfl rfl rfl ?_
    refine a_ret hT [] rfl rfl rfl rfl rfl rfl ?_
    exact ⟨_, Fit.le (b := ndA (oursP (.uint u))) ⟨rfl, rfl, rfl, rfl, rfl, rfl, ⟨rfl, rfl⟩, trivial⟩, rfl, rfl⟩
  | bool b =>
    refine FSpec.le ?_
    refine a_enter hT [nd (vlD (.bool b))] [] Tryz.func18 rfl rfl rfl ⟨Fit.refl _, trivial⟩ fun c' => ?_
    refine a_new hT hZ 20 rfl rfl rfl rfl fun g => ?_
    refine a_assertN hT (.int .i64 0) rfl rfl rfl rfl rfl (by kernel_rfl) rfl ?_
    refine a_f hT rfl rfl rfl ?_
    refine a_assertN hT (.int .u64 0) rfl rfl rfl rfl rfl (by kernel_rfl) rfl ?_
    refine a_f hT rfl rfl rfl ?_
    refine a_t hT rfl rfl rfl ?_
    refine a_build hT hZ [.v (Value.int IntKind.i64 3) 0, .v (Value.int IntKind.i64 0) 0, .v (Value.int IntKind.u64 0) 0, .d (A.Dat.v (Value.bool b)), .v (Value.string ByteArray.empty) 0, .v (Value.int IntKind.i64 0) 0, .v (Value.slice none 0 0) 0] rfl rfl rfl rfl rfl rfl ?_
    refine a_ret hT [] rfl rfl rfl rfl rfl rfl ?_
    exact ⟨_, Fit.le (b := ndA (oursP (.bool b))) ⟨rfl, rfl, rfl, rfl, rfl, rfl, ⟨rfl, rfl⟩, trivial⟩, rfl, rfl⟩
  | text s =>
    refine FSpec.le ?_
    refine a_enter hT [nd (vlD (.text s))] [] Tryz.func18 rfl rfl rfl ⟨Fit.refl _, trivial⟩ fun c' => ?_
    refine a_new hT hZ 20 rfl rfl rfl rfl fun g => ?_
    refine a_assertN hT (.int .i64 0) rfl rfl rfl rfl rfl (by kernel_rfl) rfl ?_
    refine a_f hT rfl rfl rfl ?_
    refine a_assertN hT (.int .u64 0) rfl rfl rfl rfl rfl (by kernel_rfl) rfl ?_
    refine a_f hT rfl rfl rfl ?_
    refine a_assertN hT (.bool false) rfl rfl rfl rfl rfl (by kernel_rfl) rfl ?_
    refine a_f hT rfl rfl rfl ?_
    refine a_t hT rfl rfl rfl ?_
    refine a_build hT hZ [.v (Value.int IntKind.i64 4) 0, .v (Value.int IntKind.i64 0) 0, .v (Value.int IntKind.u64 0) 0, .v (Value.bool false) 0, .d (A.Dat.v (Value.string s)), .v (Value.int IntKind.i64 0) 0, .v (Value.slice none 0 0) 0] rfl rfl rfl rfl rfl rfl ?_
    refine a_ret hT [] rfl rfl rfl rfl rfl rfl ?_
    exact ⟨_, Fit.le (b := ndA (oursP (.text s))) ⟨rfl, rfl, rfl, rfl, rfl, rfl, ⟨rfl, rfl⟩, trivial⟩, rfl, rfl⟩
  | bytes s =>
    refine FSpec.le ?_
    refine a_enter hT [nd (vlD (.bytes s))] [] Tryz.func18 rfl rfl rfl ⟨Fit.refl _, trivial⟩ fun c' => ?_
    refine a_new hT hZ 20 rfl rfl rfl rfl fun g => ?_
    refine a_assertN hT (.int .i64 0) rfl rfl rfl rfl rfl (by kernel_rfl) rfl ?_
    refine a_f hT rfl rfl rfl ?_
    refine a_assertN hT (.int .u64 0) rfl rfl rfl rfl rfl (by kernel_rfl) rfl ?_
    refine a_f hT rfl rfl rfl ?_
    refine a_assertN hT (.bool false) rfl rfl rfl rfl rfl (by kernel_rfl) rfl ?_
    refine a_f hT rfl rfl rfl ?_
    refine a_assertN hT (.string ByteArray.empty) rfl rfl rfl rfl rfl (by kernel_rfl) rfl ?_
    refine a_f hT rfl rfl rfl ?_
    refine a_t hT rfl rfl rfl ?_
    refine a_build hT hZ [.v (Value.int IntKind.i64 5) 0, .v (Value.int IntKind.i64 0) 0, .v (Value.int IntKind.u64 0) 0, .v (Value.bool false) 0, .d (A.Dat.v (Value.string s)), .v (Value.int IntKind.i64 0) 0, .v (Value.slice none 0 0) 0] rfl rfl rfl rfl rfl rfl ?_
    refine a_ret hT [] rfl rfl rfl rfl rfl rfl ?_
    exact ⟨_, Fit.le (b := ndA (oursP (.bytes s))) ⟨rfl, rfl, rfl, rfl, rfl, rfl, ⟨rfl, rfl⟩, trivial⟩, rfl, rfl⟩
  | enum n h1 h2 =>
    refine FSpec.le ?_
    refine a_enter hT [nd (vlD (.enum n))] [] Tryz.func18 rfl rfl rfl ⟨Fit.refl _, trivial⟩ fun c' => ?_
    refine a_new hT hZ 20 rfl rfl rfl rfl fun g => ?_
    refine a_assertN hT (.int .i64 0) rfl rfl rfl rfl rfl (by kernel_rfl) rfl ?_
    refine a_f hT rfl rfl rfl ?_
    refine a_assertN hT (.int .u64 0) rfl rfl rfl rfl rfl (by kernel_rfl) rfl ?_
    refine a_f hT rfl rfl rfl ?_
    refine a_assertN hT (.bool false) rfl rfl rfl rfl rfl (by kernel_rfl) rfl ?_
    refine a_f hT rfl rfl rfl ?_
    refine a_assertN hT (.string ByteArray.empty) rfl rfl rfl rfl rfl (by kernel_rfl) rfl ?_
    refine a_f hT rfl rfl rfl ?_
    refine a_assertN hT (.string ByteArray.empty) rfl rfl rfl rfl rfl (by kernel_rfl) rfl ?_
    refine a_f hT rfl rfl rfl ?_
    have hwn : IntKind.i64.wrap n = n := w64 (by omega) (by omega)
    refine a_t hT rfl rfl rfl ?_
    refine a_build hT hZ [.v (Value.int IntKind.i64 6) 0, .v (Value.int IntKind.i64 (IntKind.wrap IntKind.i64 n)) 0, .v (Value.int IntKind.u64 0) 0, .v (Value.bool false) 0, .v (Value.string ByteArray.empty) 0, .v (Value.int IntKind.i64 0) 0, .v (Value.slice none 0 0) 0] rfl rfl rfl rfl rfl rfl ?_
    refine a_ret hT [] rfl rfl rfl rfl rfl rfl ?_
    exact ⟨_, Fit.le (b := ndA (oursP (.enum n))) ⟨rfl, by show Value.int .i64 _ = Value.int .i64 _; rw [hwn], rfl, rfl, rfl, rfl, ⟨rfl, rfl⟩, trivial⟩, rfl, rfl⟩
  | @msg t fs s hl hvl hv ih =>
    refine FSpec.le ?_
    refine a_enter hT [nd (vlD (.msg t fs s))] [] Tryz.func18 rfl rfl rfl ⟨Fit.refl _, trivial⟩ fun c' => ?_
    refine a_new hT hZ 20 rfl rfl rfl rfl fun g0 => ?_
    refine a_assertN hT (.int .i64 0) rfl rfl rfl rfl rfl (by kernel_rfl) rfl ?_
    refine a_f hT rfl rfl rfl ?_
    refine a_assertN hT (.int .u64 0) rfl rfl rfl rfl rfl (by kernel_rfl) rfl ?_
    refine a_f hT rfl rfl rfl ?_
    refine a_assertN hT (.bool false) rfl rfl rfl rfl rfl (by kernel_rfl) rfl ?_
    refine a_f hT rfl rfl rfl ?_
    refine a_assertN hT (.string ByteArray.empty) rfl rfl rfl rfl rfl (by kernel_rfl) rfl ?_
    refine a_f hT rfl rfl rfl ?_
    refine a_assertN hT (.string ByteArray.empty) rfl rfl rfl rfl rfl (by kernel_rfl) rfl ?_
    refine a_f hT rfl rfl rfl ?_
    refine a_assertN hT (.int .i32 0) rfl rfl rfl rfl rfl (by kernel_rfl) rfl ?_
    refine a_f hT rfl rfl rfl ?_
    refine a_t hT rfl rfl rfl ?_
    refine a_new hT hZ 21 rfl rfl rfl rfl fun g => ?_
    refine a_build hT hZ [.v (Value.int IntKind.i64 7) 0, .v (Value.int IntKind.i64 0) 0, .v (Value.int IntKind.u64 0) 0, .v (Value.bool false) 0, .d (A.Dat.v (Value.string s)), .d (A.Dat.v (kI t)), .v (Value.slice none 0 0) 0] rfl rfl rfl rfl rfl rfl ?_
    refine a_new hT hZ 22 rfl rfl rfl rfl fun g1 => ?_
    have hlen : (vfsD fs).length = fs.length := by rw [vfsD_map, List.length_map]
    refine a_run hT 2 rfl rfl ?_
    refine a_nilrowB 22 6 23 79 2 rfl rfl rfl ?_
    refine a_loop hT [2, 9, 10, 56, 57] (fun x : Nat × Value => [.v (.pointer (some ⟨g0, 0, none⟩)) 20, .v (.pointer (some ⟨g, 0, none⟩)) 21, .v (.pointer (some ⟨g1, 0, none⟩)) 22, .v (kI fs.length) 0, .v (kI x.1) 0]) (fun x => [(20, .blk g0 38 [.v (Value.int IntKind.i64 0) 0, .v (Value.int IntKind.i64 0) 0, .v (Value.int IntKind.u64 0) 0, .v (Value.bool false) 0, .v (Value.string ByteArray.empty) 0, .v (Value.int IntKind.i64 0) 0, .v (Value.slice none 0 0) 0]), (21, .blk g 97 [.d (A.Dat.v (kI t)), .d (A.Dat.sl 2 (vfsD fs)), .d (A.Dat.v (Value.string s))]), (22, .blk g1 38 [.v (Value.int IntKind.i64 7) 0, .v (Value.int IntKind.i64 0) 0, .v (Value.int IntKind.u64 0) 0, .v (Value.bool false) 0, .d (A.Dat.v (Value.string s)), .d (A.Dat.v (kI t)), .row x.2 23]), (23, .row x.2 79 2 ((fs.take x.1).map fun f => nfD (oursF f)))]) (fun x => x.1 ≤ fs.length) (fun x => fs.length - x.1) (0, .slice none 0 0) [20, 21, 22, 23] rfl rfl (Nat.zero_le _) ⟨rfl, rfl, rfl, by rw [← hlen]; rfl, rfl, trivial⟩ rfl ⟨⟨rfl, rfl, ⟨rfl, rfl, rfl, rfl, Fit.refl _, Fit.refl _, rfl, trivial⟩⟩, ⟨rfl, rfl, ⟨rfl, rfl, rfl, trivial⟩⟩, ⟨rfl, rfl, ⟨rfl, rfl, rfl, rfl, Fit.refl _, Fit.refl _, rfl, trivial⟩⟩, ⟨rfl, rfl, rfl, rfl⟩, trivial⟩ ?_
    rintro ⟨i, v⟩ i2
    dsimp only at i2
    have hw := wN i (by omega)
    rcases Nat.lt_or_ge i fs.length with hil | hil
    · have hat : (vfsD fs)[(i : Int).toNat]? = some (vfD fs[i]) := by rw [vfsD_map]; simp [hil]
      have hmem := List.getElem_mem hil
      have htk : (fs.take (i + 1)).map (fun f => nfD (oursF f)) = (fs.take i).map (fun f => nfD (oursF f)) ++ [nfD (oursF fs[i])] := by rw [List.take_succ_eq_append_getElem hil, List.map_append]; rfl
      generalize fs[i] = f at hat hmem htk
      obtain ⟨num, vs⟩ := f
      have hvs := hvl num vs hmem
      have hih := fun x hx => ih num vs x hmem hx
      have hlv : (vlsD vs).length = vs.length := by rw [vlsD_map, List.length_map]
      refine a_t hT rfl rfl (decide_eq_true (by show (i : Int) < (fs.length : Int); omega)) ?_
      refine a_ix hT _ rfl rfl rfl rfl rfl rfl (by first | omega | assumption) (by first | assumption | rfl) ?_
      refine a_build hT hZ [.v (kI num) 0, .v (Value.slice none 0 0) 0] rfl rfl rfl rfl rfl rfl ?_
      refine a_new hT hZ 24 rfl rfl rfl rfl fun g2 => ?_
      refine a_ix hT _ rfl rfl rfl rfl rfl rfl (by first | omega | assumption) (by first | assumption | rfl) ?_
      refine a_nilrowB 24 1 25 38 7 rfl rfl rfl ?_
      refine a_loop hT [2, 9, 10, 11, 12, 56, 57, 73, 74] (fun x : Nat × Value => [.v (.pointer (some ⟨g0, 0, none⟩)) 20, .v (.pointer (some ⟨g, 0, none⟩)) 21, .v (.pointer (some ⟨g1, 0, none⟩)) 22, .v (kI i) 0, .v (.pointer (some ⟨g2, 0, none⟩)) 24, .v (kI fs.length) 0, .v (kI i) 0, .v (kI vs.length) 0, .v (kI x.1) 0]) (fun x => [(20, .blk g0 38 [.v (Value.int IntKind.i64 0) 0, .v (Value.int IntKind.i64 0) 0, .v (Value.int IntKind.u64 0) 0, .v (Value.bool false) 0, .v (Value.string ByteArray.empty) 0, .v (Value.int IntKind.i64 0) 0, .v (Value.slice none 0 0) 0]), (21, .blk g 97 [.d (A.Dat.v (kI t)), .d (A.Dat.sl 2 (vfsD fs)), .d (A.Dat.v (Value.string s))]), (22, .blk g1 38 [.v (Value.int IntKind.i64 7) 0, .v (Value.int IntKind.i64 0) 0, .v (Value.int IntKind.u64 0) 0, .v (Value.bool false) 0, .d (A.Dat.v (Value.string s)), .d (A.Dat.v (kI t)), .row v 23]), (23, .row v 79 2 ((fs.take i).map fun f => nfD (oursF f))), (24, .blk g2 79 [.v (kI num) 0, .row x.2 25]), (25, .row x.2 38 7 ((vs.take x.1).map fun y => ndD (oursP y)))]) (fun x => x.1 ≤ vs.length) (fun x => vs.length - x.1) (0, .slice none 0 0) [20, 21, 22, 23, 24, 25] rfl rfl (Nat.zero_le _) ⟨rfl, rfl, rfl, rfl, rfl, rfl, rfl, by rw [← hlv]; rfl, rfl, trivial⟩ rfl ⟨⟨rfl, rfl, ⟨rfl, rfl, rfl, rfl, Fit.refl _, Fit.refl _, rfl, trivial⟩⟩, ⟨rfl, rfl, ⟨rfl, rfl, rfl, trivial⟩⟩, ⟨rfl, rfl, ⟨rfl, rfl, rfl, rfl, Fit.refl _, Fit.refl _, rfl, trivial⟩⟩, ⟨rfl, rfl, rfl, rfl⟩, ⟨rfl, rfl, ⟨rfl, rfl, trivial⟩⟩, ⟨rfl, rfl, rfl, rfl⟩, trivial⟩ ?_
      rintro ⟨j, v2⟩ i3
      dsimp only at i3
      have hw2 := wN j (by omega)
      rcases Nat.lt_or_ge j vs.length with hjl | hjl
      · have hat2 : (vlsD vs)[(j : Int).toNat]? = some [vlD vs[j]] := by rw [vlsD_map]; simp [hjl]
        have htk2 : (vs.take (j + 1)).map (fun y => ndD (oursP y)) = (vs.take j).map (fun y => ndD (oursP y)) ++ [ndD (oursP vs[j])] := by rw [List.take_succ_eq_append_getElem hjl, List.map_append]; rfl
        have hy := hih vs[j] (List.getElem_mem hjl)
        generalize vs[j] = y at hat2 htk2 hy
        generalize hz : oursP y = z at htk2 hy
        obtain ⟨zk, zn, zu, zb, zs, zt, zf⟩ := z
        refine a_t hT rfl rfl (decide_eq_true (by show (j : Int) < (vs.length : Int); omega)) ?_
        refine a_draw hT [25] true [(0, false), (1, false), (2, false), (3, false), (4, false), (5, false), (6, false), (7, false), (8, false), (9, false), (10, false), (11, true), (12, true), (13, true), (14, true), (15, true)] rfl rfl (by kernel_rfl) (by kernel_rfl) rfl ?_
        refine a_ix hT _ rfl rfl rfl rfl rfl rfl (by first | omega | assumption) (by first | assumption | rfl) ?_
        refine a_ix hT _ rfl rfl rfl rfl rfl rfl (by first | omega | assumption) (by first | assumption | rfl) ?_
        refine a_call hT rfl rfl rfl (by kernel_rfl) hy [] [] rfl rfl ?_
        rintro _ _ ⟨rfl, rfl⟩
        refine a_lit hT 26 rfl rfl rfl rfl (by kernel_rfl) rfl rfl rfl rfl fun x26 => ?_
        have hlim : ((vs.take j).map (fun y => ndD (oursP y))).length + 1 ≤ lim := by rw [List.length_map, List.length_take]; unfold lim; omega
        refine a_app hT 25 _ rfl rfl rfl rfl (by kernel_rfl) rfl rfl rfl rfl rfl rfl hlim fun v1 => ?_
        exact a_next hT (j + 1, v1) [20, 21, 22, 23, 24, 25] rfl rfl ⟨by show j + 1 ≤ vs.length; omega, by show vs.length - (j + 1) < vs.length - j; omega⟩ ⟨rfl, rfl, rfl, rfl, rfl, rfl, rfl, rfl, by show Value.int .i64 _ = Value.int .i64 _; rw [hw2], trivial⟩ rfl ⟨⟨rfl, rfl, ⟨rfl, rfl, rfl, rfl, Fit.refl _, Fit.refl _, rfl, trivial⟩⟩, ⟨rfl, rfl, ⟨rfl, rfl, rfl, trivial⟩⟩, ⟨rfl, rfl, ⟨rfl, rfl, rfl, rfl, Fit.refl _, Fit.refl _, rfl, trivial⟩⟩, ⟨rfl, rfl, rfl, rfl⟩, ⟨rfl, rfl, ⟨rfl, rfl, trivial⟩⟩, ⟨rfl, rfl, rfl, htk2.symm⟩, trivial⟩
      · refine a_f hT rfl rfl (decide_eq_false (by show ¬ (j : Int) < (vs.length : Int); omega)) ?_
        refine a_freezeB 24 1 25 rfl rfl rfl rfl rfl ?_
        have hj : j = vs.length := by omega
        subst hj
        have htk3 : (fs.take i).map (fun f => nfD (oursF f)) ++ [[.v (kI num), .sl 7 ((vs.take vs.length).map (fun y => ndD (oursP y)))]] = (fs.take (i + 1)).map (fun f => nfD (oursF f)) := by
          rw [htk, List.take_length]
          unfold oursF nfD
          rw [ndsD_map, oursVs_map, List.map_map]
          rfl
        refine a_lit hT 26 rfl rfl rfl rfl (by kernel_rfl) rfl rfl rfl rfl fun x26 => ?_
        refine a_app hT 23 _ rfl rfl rfl rfl (by kernel_rfl) rfl rfl rfl rfl rfl rfl (by first | (simp; done) | (simp; omega) | (simp; unfold lim; omega) | (simp; assumption)) fun v1 => ?_
        exact a_next hT (i + 1, v1) [20, 21, 22, 23] rfl rfl ⟨by show i + 1 ≤ fs.length; omega, by show fs.length - (i + 1) < fs.length - i; omega⟩ ⟨rfl, rfl, rfl, rfl, by show Value.int .i64 _ = Value.int .i64 _; rw [hw], trivial⟩ rfl ⟨⟨rfl, rfl, ⟨rfl, rfl, rfl, rfl, Fit.refl _, Fit.refl _, rfl, trivial⟩⟩, ⟨rfl, rfl, ⟨rfl, rfl, rfl, trivial⟩⟩, ⟨rfl, rfl, ⟨rfl, rfl, rfl, rfl, Fit.refl _, Fit.refl _, rfl, trivial⟩⟩, ⟨rfl, rfl, rfl, htk3⟩, trivial⟩
    · refine a_f hT rfl rfl (decide_eq_false (by show ¬ (i : Int) < (fs.length : Int); omega)) ?_
      refine a_freezeB 22 6 23 rfl rfl rfl rfl rfl ?_
      refine a_cellL 22 4 (b := .v (.string s) 0) rfl rfl rfl le_dv ?_
      refine a_cellL 22 5 (b := .v (kI t) 0) rfl rfl rfl le_dv ?_
      have hi : i = fs.length := by omega
      subst hi
      refine a_ret hT [] rfl rfl rfl rfl rfl rfl ?_
      refine ⟨_, Fit.le (b := ndA (oursP (.msg t fs s))) ⟨rfl, rfl, rfl, rfl, rfl, rfl, ?_, trivial⟩, rfl, rfl⟩
      have hth : ((fs.take fs.length).map fun f => nfD (oursF f)) = nfsD (oursFs fs) := by rw [List.take_length, nfsD_map, oursFs_map, List.map_map]; rfl
      show Fit (.d (.sl 2 ((fs.take fs.length).map fun f => nfD (oursF f)))) (.d (.sl 2 (nfsD (oursFs fs))))
      rw [hth]
      exact Fit.refl _
end Go.Proofs.YtjcolfogmmjaoaaGreatDoor
end

section
/- Layer 9: the document's Small. -/
set_option linter.unusedVariables false
set_option linter.unusedSimpArgs false
set_option maxRecDepth 100000
set_option maxHeartbeats 1000000
namespace Go.Proofs.YtjcolfogmmjaoaaGreatDoor
open V A
/-- Not too wide anywhere for any machine. -/
inductive BdN : ND → Prop
  | mk {k n u : Int} {b : Bool} {s : ByteArray} {t : Int} {fs : List NF} : s.size ≤ reachN → fs.length ≤ reachN → (∀ num vs, NF.mk num vs ∈ fs → vs.length ≤ reachN) → (∀ num vs x, NF.mk num vs ∈ fs → x ∈ vs → BdN x) → BdN (.mk k n u b s t fs)
mutual
def smallP : ND → Int → Int → Int
  | .mk _ _ _ _ s _ fs, d, l => if 40 < d ∨ l - 1 - Int.tdiv s.size 100 < 0 then -1 else smallFs fs d (l - 1 - Int.tdiv s.size 100)
def smallF : NF → Int → Int → Option Int
  | .mk _ vs, d, l => smallVs vs (d + 1) l
def smallFs : List NF → Int → Int → Int
  | [], _, l => l
  | f :: fs, d, l => match smallF f d (l - 1) with
    | none => -1
    | some l' => smallFs fs d l'
def smallVs : List ND → Int → Int → Option Int
  | [], _, l => some l
  | x :: xs, d, l => if smallP x d l < 0 then none else smallVs xs d (smallP x d l)
end
theorem tdiv100 (n : Nat) : 0 ≤ Int.tdiv (n : Int) 100 ∧ Int.tdiv (n : Int) 100 ≤ n := by
  rw [Int.tdiv_eq_ediv_of_nonneg (by omega)]
  omega
mutual
theorem smallP_le : ∀ (x : ND) (d l : Int), 0 ≤ smallP x d l → smallP x d l + 1 ≤ l
  | .mk _ _ _ _ s _ fs, d, l, h => by
    unfold smallP at h ⊢
    split at h
    · omega
    · rename_i hc
      rw [if_neg hc]
      have := smallFs_le fs d _ h
      have := tdiv100 s.size
      omega
theorem smallF_le : ∀ (f : NF) (d l l' : Int), smallF f d l = some l' → l' ≤ l ∧ (∀ num vs, f = .mk num vs → l' + vs.length ≤ l)
  | .mk num vs, d, l, l', h => by
    unfold smallF at h
    have := smallVs_le vs _ _ _ h
    exact ⟨by omega, fun _ _ e => by cases e; exact this⟩
theorem smallFs_le : ∀ (fs : List NF) (d l : Int), 0 ≤ smallFs fs d l → smallFs fs d l + fs.length ≤ l
  | [], d, l, h => by unfold smallFs; simp
  | f :: fs, d, l, h => by
    unfold smallFs at h ⊢
    split at h
    · omega
    · rename_i l' e
      have := (smallF_le f d _ _ e).1
      have := smallFs_le fs d l' h
      simp only [List.length_cons]
      omega
theorem smallVs_le : ∀ (vs : List ND) (d l l' : Int), smallVs vs d l = some l' → l' + vs.length ≤ l
  | [], d, l, l', h => by unfold smallVs at h; cases h; simp
  | x :: xs, d, l, l', h => by
    unfold smallVs at h
    split at h
    · cases h
    · rename_i hc
      have := smallP_le x d l (by omega)
      have := smallVs_le xs d _ _ h
      simp only [List.length_cons]
      omega
end
theorem smallVs_mem : ∀ {vs : List ND} {d l l' : Int}, smallVs vs d l = some l' → ∀ x ∈ vs, ∃ l2, l2 ≤ l ∧ 0 ≤ smallP x d l2
  | [], d, l, l', h, x, hx => by simp at hx
  | y :: vs, d, l, l', h, x, hx => by
    unfold smallVs at h
    split at h
    · cases h
    · rename_i hc
      rcases List.mem_cons.1 hx with rfl | hx
      · exact ⟨l, Int.le_refl _, by omega⟩
      · obtain ⟨l2, h2, h3⟩ := smallVs_mem h x hx
        have := smallP_le y d l (by omega)
        exact ⟨l2, by omega, h3⟩
theorem smallFs_mem : ∀ {fs : List NF} {d l : Int}, 0 ≤ smallFs fs d l → ∀ num vs, NF.mk num vs ∈ fs → ∃ l2 l', l2 ≤ l ∧ smallVs vs (d + 1) l2 = some l' ∧ 0 ≤ l'
  | [], d, l, h, num, vs, hx => by simp at hx
  | f :: fs, d, l, h, num, vs, hx => by
    have h0 := h
    unfold smallFs at h
    split at h
    · omega
    · rename_i l' e
      have h1 := smallFs_le fs d l' h
      rcases List.mem_cons.1 hx with rfl | hx
      · exact ⟨l - 1, l', by omega, by unfold smallF at e; exact e, by omega⟩
      · have := (smallF_le f d _ _ e).1
        obtain ⟨l2, l3, h2, h3, h4⟩ := smallFs_mem h num vs hx
        exact ⟨l2, l3, by omega, h3, h4⟩
/-- What is small is not too wide. -/
theorem ok_small : ∀ (x : ND) (d l : Int), l ≤ 400 → 0 ≤ smallP x d l → OkN x
  | .mk k n u b s t fs, d, l, hl, h => by
    unfold smallP at h
    split at h
    · omega
    · have h0 := tdiv100 s.size
      have h1 := smallFs_le fs d _ h
      refine OkN.mk (by omega) (fun num vs hm => ?_) (fun num vs x hm hx => ?_)
      · obtain ⟨l2, l', h2, h3, h4⟩ := smallFs_mem h num vs hm
        have := smallVs_le vs _ _ _ h3
        omega
      · obtain ⟨l2, l', h2, h3, h4⟩ := smallFs_mem h num vs hm
        obtain ⟨l3, h5, h6⟩ := smallVs_mem h3 x hx
        exact ok_small x (d + 1) l3 (by omega) h6
termination_by x => SizeOf.sizeOf x
decreasing_by
  have h7 := List.sizeOf_lt_of_mem hx
  have h8 := List.sizeOf_lt_of_mem hm
  simp at h8 ⊢
  omega
theorem small_spec : ∀ {x : ND}, BdN x → ∀ {d l : Int}, 0 ≤ d → d ≤ 41 → -281474976710656 ≤ l → l ≤ 400 → FSpec Tryz.prog 85 [ndA x, .v (kI d) 0, .v (kI l) 0] [] fun a cs => a = .v (kI (smallP x d l)) 0 ∧ cs = [] := by
  intro x hok
  induction hok with
  | @mk k n u b s t fs hs hl hvl hv ih =>
  intro d l hd1 hd2 hl1 hl2
  have hrn : reachN = 140737488351232 := rfl
  have h100 := tdiv100 s.size
  have hw1 : IntKind.i64.wrap (l - 1) = l - 1 := w64 (by omega) (by omega)
  have hw2 : IntKind.i64.wrap (Int.tdiv (s.size : Int) 100) = Int.tdiv (s.size : Int) 100 := w64 (by omega) (by omega)
  have hw3 : IntKind.i64.wrap (l - 1 - Int.tdiv (s.size : Int) 100) = l - 1 - Int.tdiv (s.size : Int) 100 := w64 (by omega) (by omega)
  have hlen : (nfsD fs).length = fs.length := by rw [nfsD_map, List.length_map]
  refine a_enter hT [ndA (.mk k n u b s t fs), .v (kI d) 0, .v (kI l) 0] [] Tryz.func85 rfl rfl rfl ⟨Fit.refl _, rfl, rfl, trivial⟩ fun c' => ?_
  refine a_box hT 20 rfl rfl rfl rfl fun g => ?_
  refine a_bin hT _ rfl rfl rfl (by decide) rfl rfl (fun w => (bin_quo (by decide) w)) ?_
  refine a_g hT rfl rfl rfl (fun h => ?_) (fun h => ?_)
  · have h := of_decide_eq_true h
    refine a_t hT rfl rfl rfl ?_
    refine a_ret hT [] rfl rfl rfl rfl rfl rfl ?_
    exact ⟨by unfold smallP; rw [if_pos (.inl (by omega))]; rfl, rfl⟩
  · have h := of_decide_eq_false h
    refine a_if hT rfl rfl (fun h1 => ?_) (fun h1 => ?_)
    · have h1 := of_decide_eq_true h1
      refine a_ret hT [] rfl rfl rfl rfl rfl rfl ?_
      exact ⟨by unfold smallP; rw [if_pos (.inr (by rw [hw1, hw2, hw3] at h1; omega))]; rfl, rfl⟩
    · have h1 := of_decide_eq_false h1
      rw [hw1, hw2, hw3] at h1
      have hdl : ¬ (40 < d ∨ l - 1 - Int.tdiv (s.size : Int) 100 < 0) := by omega
      have hP : smallP (.mk k n u b s t fs) d l = smallFs fs d (l - 1 - Int.tdiv (s.size : Int) 100) := by unfold smallP; rw [if_neg hdl]
      rw [hP]
      generalize hq : l - 1 - Int.tdiv (s.size : Int) 100 = l1 at hw3 hdl
      refine a_loop hT [1, 2, 3, 24, 25] (fun x : Nat × Int => [.v (kI d) 0, .v (kI x.2) 0, .v (.pointer (some ⟨g, 0, none⟩)) 20, .v (kI fs.length) 0, .v (kI x.1) 0]) (fun _ => [(20, .blk g 38 [.v (kI k) 0, .v (kI n) 0, .v (kU u) 0, .v (Value.bool b) 0, .v (Value.string s) 0, .v (kI t) 0, .d (A.Dat.sl 2 (nfsD fs))])]) (fun x => x.1 ≤ fs.length ∧ smallFs (fs.drop x.1) d x.2 = smallFs fs d l1 ∧ -(x.1 : Int) ≤ x.2 ∧ x.2 ≤ 400) (fun x => fs.length - x.1) (0, l1) [20] rfl rfl ⟨Nat.zero_le _, rfl, by show -((0 : Nat) : Int) ≤ l1; omega, by show l1 ≤ 400; omega⟩ ⟨rfl, by show Value.int .i64 _ = Value.int .i64 _; rw [hw1, hw2, hq, hw3], rfl, by rw [← hlen]; rfl, rfl, trivial⟩ rfl ⟨⟨rfl, rfl, ⟨rfl, rfl, rfl, rfl, rfl, rfl, rfl, trivial⟩⟩, trivial⟩ ?_
      rintro ⟨i, l2⟩ ⟨i2, i3, i4, i5⟩
      dsimp only at i2 i3 i4 i5
      have hw := wN i (by omega)
      rcases Nat.lt_or_ge i fs.length with hil | hil
      · have hat : (nfsD fs)[(i : Int).toNat]? = some (nfD fs[i]) := by rw [nfsD_map]; simp [hil]
        have hmem := List.getElem_mem hil
        rw [drop_at hil] at i3
        generalize fs[i] = f at hat hmem i3
        obtain ⟨num, vs⟩ := f
        have hvs := hvl num vs hmem
        have hlv : (ndsD vs).length = vs.length := by rw [ndsD_map, List.length_map]
        have hw4 : IntKind.i64.wrap (l2 - 1) = l2 - 1 := w64 (by omega) (by omega)
        have hw5 : IntKind.i64.wrap (d + 1) = d + 1 := w64 (by omega) (by omega)
        refine a_t hT rfl rfl (decide_eq_true (by show (i : Int) < (fs.length : Int); omega)) ?_
        refine a_ix hT _ rfl rfl rfl rfl rfl rfl (by first | omega | assumption) (by first | assumption | rfl) ?_
        refine a_loop hT [1, 2, 3, 7, 24, 25, 36, 37] (fun x : Nat × Int => [.v (kI d) 0, .v (kI x.2) 0, .v (.pointer (some ⟨g, 0, none⟩)) 20, .v (kI i) 0, .v (kI fs.length) 0, .v (kI i) 0, .v (kI vs.length) 0, .v (kI x.1) 0]) (fun _ => [(20, .blk g 38 [.v (kI k) 0, .v (kI n) 0, .v (kU u) 0, .v (Value.bool b) 0, .v (Value.string s) 0, .v (kI t) 0, .d (A.Dat.sl 2 (nfsD fs))])]) (fun x => x.1 ≤ vs.length ∧ smallVs (vs.drop x.1) (d + 1) x.2 = smallVs vs (d + 1) (l2 - 1) ∧ -(i : Int) - 1 ≤ x.2 ∧ x.2 ≤ 400) (fun x => vs.length - x.1) (0, l2 - 1) [20] rfl rfl ⟨Nat.zero_le _, rfl, by show -(i : Int) - 1 ≤ l2 - 1; omega, by show l2 - 1 ≤ 400; omega⟩ ⟨rfl, by show Value.int .i64 _ = Value.int .i64 _; rw [hw4], rfl, rfl, rfl, rfl, by rw [← hlv]; rfl, rfl, trivial⟩ rfl ⟨⟨rfl, rfl, ⟨rfl, rfl, rfl, rfl, rfl, rfl, rfl, trivial⟩⟩, trivial⟩ ?_
        rintro ⟨j, l3⟩ ⟨j2, j3, j4, j5⟩
        dsimp only at j2 j3 j4 j5
        have hw2 := wN j (by omega)
        rcases Nat.lt_or_ge j vs.length with hjl | hjl
        · have hat2 : (ndsD vs)[(j : Int).toNat]? = some (ndD vs[j]) := by rw [ndsD_map]; simp [hjl]
          have hy := ih num vs vs[j] hmem (List.getElem_mem hjl) (d := d + 1) (l := l3) (by omega) (by omega) (by omega) (by omega)
          rw [drop_at hjl] at j3
          generalize vs[j] = y at hat2 hy j3
          have hle := smallP_le y (d + 1) l3
          obtain ⟨yk, yn, yu, yb, ys, yt, yf⟩ := y
          refine a_t hT rfl rfl (decide_eq_true (by show (j : Int) < (vs.length : Int); omega)) ?_
          refine a_ix hT _ rfl rfl rfl rfl rfl rfl (by first | omega | assumption) (by first | assumption | rfl) ?_
          refine a_ix hT _ rfl rfl rfl rfl rfl rfl (by first | omega | assumption) (by first | assumption | rfl) ?_
          have hy2 : FSpec Tryz.prog 85 [ndA (.mk yk yn yu yb ys yt yf), .v (.int .i64 (IntKind.i64.wrap (d + 1))) 0, .v (kI l3) 0] [] fun a cs => a = .v (kI (smallP (.mk yk yn yu yb ys yt yf) (d + 1) l3)) 0 ∧ cs = [] := by rw [hw5]; exact hy
          have j6 : (if smallP (.mk yk yn yu yb ys yt yf) (d + 1) l3 < 0 then none else smallVs (vs.drop (j + 1)) (d + 1) (smallP (.mk yk yn yu yb ys yt yf) (d + 1) l3)) = smallVs vs (d + 1) (l2 - 1) := by rw [← j3]; conv => rhs; unfold smallVs
          generalize smallP (.mk yk yn yu yb ys yt yf) (d + 1) l3 = r at hy2 hle j6
          refine a_call hT rfl rfl rfl (by kernel_rfl) hy2 [] [] rfl rfl ?_
          rintro _ _ ⟨rfl, rfl⟩
          refine a_if hT rfl rfl (fun h2 => ?_) (fun h2 => ?_)
          · have h2 := of_decide_eq_true h2
            rw [if_pos h2] at j6
            refine a_ret hT [] rfl rfl rfl rfl rfl rfl ?_
            exact ⟨by rw [← i3]; unfold smallFs smallF; rw [← j6]; rfl, rfl⟩
          · have h2 := of_decide_eq_false h2
            rw [if_neg h2] at j6
            exact a_next hT (j + 1, r) [20] rfl rfl ⟨⟨by show j + 1 ≤ vs.length; omega, j6, by show -(i : Int) - 1 ≤ r; omega, by show r ≤ 400; omega⟩, by show vs.length - (j + 1) < vs.length - j; omega⟩ ⟨rfl, rfl, rfl, rfl, rfl, rfl, rfl, by show Value.int .i64 _ = Value.int .i64 _; rw [hw2], trivial⟩ rfl ⟨⟨rfl, rfl, ⟨rfl, rfl, rfl, rfl, rfl, rfl, rfl, trivial⟩⟩, trivial⟩
        · refine a_f hT rfl rfl (decide_eq_false (by show ¬ (j : Int) < (vs.length : Int); omega)) ?_
          rw [List.drop_eq_nil_of_le hjl] at j3
          have hi3 : smallFs (fs.drop (i + 1)) d l3 = smallFs fs d l1 := by rw [← i3]; conv => rhs; unfold smallFs smallF; rw [← j3]; unfold smallVs
          exact a_next hT (i + 1, l3) [20] rfl rfl ⟨⟨by show i + 1 ≤ fs.length; omega, hi3, by show -((i + 1 : Nat) : Int) ≤ l3; omega, by show l3 ≤ 400; omega⟩, by show fs.length - (i + 1) < fs.length - i; omega⟩ ⟨rfl, rfl, rfl, rfl, by show Value.int .i64 _ = Value.int .i64 _; rw [hw], trivial⟩ rfl ⟨⟨rfl, rfl, ⟨rfl, rfl, rfl, rfl, rfl, rfl, rfl, trivial⟩⟩, trivial⟩
      · refine a_f hT rfl rfl (decide_eq_false (by show ¬ (i : Int) < (fs.length : Int); omega)) ?_
        refine a_ret hT [] rfl rfl rfl rfl rfl rfl ?_
        rw [List.drop_eq_nil_of_le hil] at i3
        exact ⟨by rw [← i3]; unfold smallFs; rfl, rfl⟩
end Go.Proofs.YtjcolfogmmjaoaaGreatDoor
end

section
/- Layer 9: the document's Same. -/
set_option linter.unusedVariables false
set_option linter.unusedSimpArgs false
set_option maxRecDepth 100000
set_option maxHeartbeats 1000000
namespace Go.Proofs.YtjcolfogmmjaoaaGreatDoor
open V A
mutual
def sameN : ND → ND → Bool
  | .mk k n u b s t fs, .mk k' n' u' b' s' t' fs' => decide (k = k') && (decide (n = n') && (decide (u = u') && (b == b' && (decide (s = s') && (decide (t = t') && (decide (fs.length = fs'.length) && sameFs fs fs'))))))
def sameF : NF → NF → Bool
  | .mk n vs, .mk n' vs' => decide (n = n') && (decide (vs.length = vs'.length) && sameVs vs vs')
def sameFs : List NF → List NF → Bool
  | f :: fs, f' :: fs' => sameF f f' && sameFs fs fs'
  | _, _ => true
def sameVs : List ND → List ND → Bool
  | x :: xs, y :: ys => sameN x y && sameVs xs ys
  | _, _ => true
end
mutual
theorem sameN_refl : ∀ x : ND, sameN x x = true
  | .mk k n u b s t fs => by unfold sameN; simp [sameFs_refl fs]
theorem sameF_refl : ∀ f : NF, sameF f f = true
  | .mk n vs => by unfold sameF; simp [sameVs_refl vs]
theorem sameFs_refl : ∀ fs : List NF, sameFs fs fs = true
  | [] => by unfold sameFs; rfl
  | f :: fs => by unfold sameFs; simp [sameF_refl f, sameFs_refl fs]
theorem sameVs_refl : ∀ xs : List ND, sameVs xs xs = true
  | [] => by unfold sameVs; rfl
  | x :: xs => by unfold sameVs; simp [sameN_refl x, sameVs_refl xs]
end
theorem toL_eq (s t : ByteArray) : s.toList = t.toList ↔ s = t := by
  have := ba_list s t
  rw [Bool.eq_iff_iff] at this
  simpa using this
theorem Same_spec : ∀ {x : ND}, BdN x → ∀ {y : ND}, FSpec Tryz.prog 17 [ndA x, ndA y] [] fun a cs => a = bA (sameN x y) ∧ cs = [] := by
  intro x hok
  induction hok with
  | @mk k n u b s t fs hs hl hvl hv ih =>
  intro y
  obtain ⟨k', n', u', b', s', t', fs'⟩ := y
  have hrn : reachN = 140737488351232 := rfl
  have hlen : (nfsD fs).length = fs.length := by rw [nfsD_map, List.length_map]
  have hlen' : (nfsD fs').length = fs'.length := by rw [nfsD_map, List.length_map]
  refine a_enter hT [ndA (.mk k n u b s t fs), ndA (.mk k' n' u' b' s' t' fs')] [] Tryz.func17 rfl rfl rfl ⟨Fit.refl _, Fit.refl _, trivial⟩ fun c' => ?_
  refine a_box hT 20 rfl rfl rfl rfl fun g => ?_
  refine a_box hT 21 rfl rfl rfl rfl fun g1 => ?_
  refine a_g hT rfl rfl rfl (fun h => ?_) (fun h => ?_)
  · have h := bne_iff_ne.1 h
    refine a_gt hT rfl rfl rfl rfl ?_
    refine a_gt hT rfl rfl rfl rfl ?_
    refine a_gt hT rfl rfl rfl rfl ?_
    refine a_gt hT rfl rfl rfl rfl ?_
    refine a_gt hT rfl rfl rfl rfl ?_
    refine a_t hT rfl rfl rfl ?_
    refine a_ret hT [] rfl rfl rfl rfl rfl rfl ?_
    exact b_eq (by unfold sameN; first | (simp_all [toL_eq]; done) | (simp_all [toL_eq]; intro _; omega))
  · simp at h
    refine a_g hT rfl rfl rfl (fun h1 => ?_) (fun h1 => ?_)
    · have h1 := bne_iff_ne.1 h1
      refine a_gt hT rfl rfl rfl rfl ?_
      refine a_gt hT rfl rfl rfl rfl ?_
      refine a_gt hT rfl rfl rfl rfl ?_
      refine a_gt hT rfl rfl rfl rfl ?_
      refine a_t hT rfl rfl rfl ?_
      refine a_ret hT [] rfl rfl rfl rfl rfl rfl ?_
      exact b_eq (by unfold sameN; first | (simp_all [toL_eq]; done) | (simp_all [toL_eq]; intro _; omega))
    · simp at h1
      refine a_g hT rfl rfl rfl (fun h2 => ?_) (fun h2 => ?_)
      · have h2 := bne_iff_ne.1 h2
        refine a_gt hT rfl rfl rfl rfl ?_
        refine a_gt hT rfl rfl rfl rfl ?_
        refine a_gt hT rfl rfl rfl rfl ?_
        refine a_t hT rfl rfl rfl ?_
        refine a_ret hT [] rfl rfl rfl rfl rfl rfl ?_
        exact b_eq (by unfold sameN; first | (simp_all [toL_eq]; done) | (simp_all [toL_eq]; intro _; omega))
      · simp at h2
        refine a_g hT rfl rfl rfl (fun h3 => ?_) (fun h3 => ?_)
        · simp at h3
          refine a_gt hT rfl rfl rfl rfl ?_
          refine a_gt hT rfl rfl rfl rfl ?_
          refine a_t hT rfl rfl rfl ?_
          refine a_ret hT [] rfl rfl rfl rfl rfl rfl ?_
          exact b_eq (by unfold sameN; first | (simp_all [toL_eq]; done) | (simp_all [toL_eq]; intro _; omega))
        · simp at h3
          refine a_g hT rfl rfl rfl (fun h4 => ?_) (fun h4 => ?_)
          · simp at h4
            refine a_gt hT rfl rfl rfl rfl ?_
            refine a_t hT rfl rfl rfl ?_
            refine a_ret hT [] rfl rfl rfl rfl rfl rfl ?_
            exact b_eq (by unfold sameN; first | (simp_all [toL_eq]; done) | (simp_all [toL_eq]; intro _; omega))
          · simp at h4
            refine a_g hT rfl rfl rfl (fun h5 => ?_) (fun h5 => ?_)
            · have h5 := bne_iff_ne.1 h5
              refine a_t hT rfl rfl rfl ?_
              refine a_ret hT [] rfl rfl rfl rfl rfl rfl ?_
              exact b_eq (by unfold sameN; first | (simp_all [toL_eq]; done) | (simp_all [toL_eq]; intro _; omega))
            · simp at h5
              refine a_if hT rfl rfl (fun h6 => ?_) (fun h6 => ?_)
              · have h6 := bne_iff_ne.1 h6
                refine a_ret hT [] rfl rfl rfl rfl rfl rfl ?_
                exact b_eq (by unfold sameN; first | (simp_all [toL_eq]; done) | (simp_all [toL_eq]; intro _; omega))
              · simp at h6
                have hP : sameN (.mk k n u b s t fs) (.mk k' n' u' b' s' t' fs') = sameFs fs fs' := by unfold sameN; simp_all [toL_eq]; intro _; omega
                have hll : fs.length = fs'.length := by omega
                rw [hP]
                refine a_loop hT [2, 3, 60, 61] (fun i : Nat => [.v (.pointer (some ⟨g, 0, none⟩)) 20, .v (.pointer (some ⟨g1, 0, none⟩)) 21, .v (kI fs.length) 0, .v (kI i) 0]) (fun _ => [(20, .blk g 38 [.v (kI k) 0, .v (kI n) 0, .v (kU u) 0, .v (Value.bool b) 0, .v (Value.string s) 0, .v (kI t) 0, .d (A.Dat.sl 2 (nfsD fs))]), (21, .blk g1 38 [.v (kI k') 0, .v (kI n') 0, .v (kU u') 0, .v (Value.bool b') 0, .v (Value.string s') 0, .v (kI t') 0, .d (A.Dat.sl 2 (nfsD fs'))])]) (fun i => i ≤ fs.length ∧ sameFs (fs.drop i) (fs'.drop i) = sameFs fs fs') (fun i => fs.length - i) 0 [20, 21] rfl rfl ⟨Nat.zero_le _, rfl⟩ ⟨rfl, rfl, by rw [← hlen]; rfl, rfl, trivial⟩ rfl ⟨⟨rfl, rfl, ⟨rfl, rfl, rfl, rfl, rfl, rfl, rfl, trivial⟩⟩, ⟨rfl, rfl, ⟨rfl, rfl, rfl, rfl, rfl, rfl, rfl, trivial⟩⟩, trivial⟩ ?_
                rintro i ⟨i2, i3⟩
                have hw := wN i (by omega)
                rcases Nat.lt_or_ge i fs.length with hil | hil
                · have hil' : i < fs'.length := by omega
                  have hat : (nfsD fs)[(i : Int).toNat]? = some (nfD fs[i]) := by rw [nfsD_map]; simp [hil]
                  have hat' : (nfsD fs')[(i : Int).toNat]? = some (nfD fs'[i]) := by rw [nfsD_map]; simp [hil']
                  have hmem := List.getElem_mem hil
                  rw [drop_at hil, drop_at hil'] at i3
                  generalize fs[i] = f at hat hmem i3
                  generalize fs'[i] = f' at hat' i3
                  obtain ⟨num, vs⟩ := f
                  obtain ⟨num', vs'⟩ := f'
                  have hvs := hvl num vs hmem
                  have hlv : (ndsD vs).length = vs.length := by rw [ndsD_map, List.length_map]
                  have hlv' : (ndsD vs').length = vs'.length := by rw [ndsD_map, List.length_map]
                  refine a_t hT rfl rfl (decide_eq_true (by show (i : Int) < (fs.length : Int); omega)) ?_
                  refine a_treeN hT [2, 3, 5, 6, 7, 60, 61] (fun v : Nat × Nat => [.v (.pointer (some ⟨g, 0, none⟩)) 20, .v (.pointer (some ⟨g1, 0, none⟩)) 21, .v (kI i) 0, .v (.pointer (some ⟨v.1, 0, none⟩)) 22, .v (.pointer (some ⟨v.2, 0, none⟩)) 23, .v (kI fs.length) 0, .v (kI i) 0]) (fun v => [(20, .blk g 38 [.v (kI k) 0, .v (kI n) 0, .v (kU u) 0, .v (Value.bool b) 0, .v (Value.string s) 0, .v (kI t) 0, .d (A.Dat.sl 2 (nfsD fs))]), (21, .blk g1 38 [.v (kI k') 0, .v (kI n') 0, .v (kU u') 0, .v (Value.bool b') 0, .v (Value.string s') 0, .v (kI t') 0, .d (A.Dat.sl 2 (nfsD fs'))]), (22, .blk v.1 79 [.v (kI num) 0, .d (A.Dat.sl 7 (ndsD vs))]), (23, .blk v.2 79 [.v (kI num') 0, .d (A.Dat.sl 7 (ndsD vs'))])]) (fun _ => True) [] 14 [(0, false), (1, false), (2, false), (3, false), (4, false), (5, false), (6, false), (7, false), (8, false), (9, false)] rfl rfl (by kernel_rfl) (by kernel_rfl) rfl ?_ ?_
                  · refine a_ix hT _ rfl rfl rfl rfl rfl rfl (by first | omega | assumption) (by first | assumption | rfl) ?_
                    refine a_ix hT _ rfl rfl rfl rfl rfl rfl (by first | omega | assumption) (by first | assumption | rfl) ?_
                    refine a_alt hT [([(10, true), (11, true), (12, true), (13, true)], true), ([(11, true), (10, true), (12, true), (13, true)], true)] rfl rfl (by kernel_rfl) ⟨?_, ?_, trivial⟩
                    · refine a_new hT hZ 22 rfl rfl rfl rfl fun g2 => ?_
                      refine a_new hT hZ 23 rfl rfl rfl rfl fun g3 => ?_
                      exact a_next hT (g2, g3) [20, 21, 22, 23] rfl rfl trivial ⟨rfl, rfl, rfl, rfl, rfl, rfl, rfl, trivial⟩ rfl ⟨⟨rfl, rfl, ⟨rfl, rfl, rfl, rfl, rfl, rfl, rfl, trivial⟩⟩, ⟨rfl, rfl, ⟨rfl, rfl, rfl, rfl, rfl, rfl, rfl, trivial⟩⟩, ⟨rfl, rfl, ⟨rfl, rfl, trivial⟩⟩, ⟨rfl, rfl, ⟨rfl, rfl, trivial⟩⟩, trivial⟩
                    · refine a_new hT hZ 23 rfl rfl rfl rfl fun g3 => ?_
                      refine a_new hT hZ 22 rfl rfl rfl rfl fun g2 => ?_
                      exact a_next hT (g2, g3) [20, 21, 22, 23] rfl rfl trivial ⟨rfl, rfl, rfl, rfl, rfl, rfl, rfl, trivial⟩ rfl ⟨⟨rfl, rfl, ⟨rfl, rfl, rfl, rfl, rfl, rfl, rfl, trivial⟩⟩, ⟨rfl, rfl, ⟨rfl, rfl, rfl, rfl, rfl, rfl, rfl, trivial⟩⟩, ⟨rfl, rfl, ⟨rfl, rfl, trivial⟩⟩, ⟨rfl, rfl, ⟨rfl, rfl, trivial⟩⟩, trivial⟩
                  rintro ⟨g2, g3⟩ _
                  refine a_g hT rfl rfl rfl (fun h7 => ?_) (fun h7 => ?_)
                  · have h7 := bne_iff_ne.1 h7
                    refine a_t hT rfl rfl rfl ?_
                    refine a_ret hT [] rfl rfl rfl rfl rfl rfl ?_
                    exact b_eq (by rw [← i3]; unfold sameFs sameF; simp_all)
                  · simp at h7
                    refine a_if hT rfl rfl (fun h8 => ?_) (fun h8 => ?_)
                    · have h8 := bne_iff_ne.1 h8
                      have h9 : vs.length ≠ vs'.length := by intro e; rw [hlv, hlv'] at h8; exact h8 (by omega)
                      refine a_ret hT [] rfl rfl rfl rfl rfl rfl ?_
                      exact b_eq (by rw [← i3]; unfold sameFs sameF; simp [h9])
                    · simp at h8
                      have h9 : vs.length = vs'.length := by rw [hlv, hlv'] at h8; omega
                      have hFs : (sameVs vs vs' && sameFs (fs.drop (i + 1)) (fs'.drop (i + 1))) = sameFs fs fs' := by rw [← i3]; conv => rhs; unfold sameFs sameF; simp [h7, h9]
                      rw [← hFs]
                      refine a_loop hT [2, 3, 5, 6, 7, 60, 61, 90, 91] (fun j : Nat => [.v (.pointer (some ⟨g, 0, none⟩)) 20, .v (.pointer (some ⟨g1, 0, none⟩)) 21, .v (kI i) 0, .v (.pointer (some ⟨g2, 0, none⟩)) 22, .v (.pointer (some ⟨g3, 0, none⟩)) 23, .v (kI fs.length) 0, .v (kI i) 0, .v (kI vs.length) 0, .v (kI j) 0]) (fun _ => [(20, .blk g 38 [.v (kI k) 0, .v (kI n) 0, .v (kU u) 0, .v (Value.bool b) 0, .v (Value.string s) 0, .v (kI t) 0, .d (A.Dat.sl 2 (nfsD fs))]), (21, .blk g1 38 [.v (kI k') 0, .v (kI n') 0, .v (kU u') 0, .v (Value.bool b') 0, .v (Value.string s') 0, .v (kI t') 0, .d (A.Dat.sl 2 (nfsD fs'))]), (22, .blk g2 79 [.v (kI num) 0, .d (A.Dat.sl 7 (ndsD vs))]), (23, .blk g3 79 [.v (kI num') 0, .d (A.Dat.sl 7 (ndsD vs'))])]) (fun j => j ≤ vs.length ∧ sameVs (vs.drop j) (vs'.drop j) = sameVs vs vs') (fun j => vs.length - j) 0 [20, 21, 22, 23] rfl rfl ⟨Nat.zero_le _, rfl⟩ ⟨rfl, rfl, rfl, rfl, rfl, rfl, rfl, by rw [← hlv]; rfl, rfl, trivial⟩ rfl ⟨⟨rfl, rfl, ⟨rfl, rfl, rfl, rfl, rfl, rfl, rfl, trivial⟩⟩, ⟨rfl, rfl, ⟨rfl, rfl, rfl, rfl, rfl, rfl, rfl, trivial⟩⟩, ⟨rfl, rfl, ⟨rfl, rfl, trivial⟩⟩, ⟨rfl, rfl, ⟨rfl, rfl, trivial⟩⟩, trivial⟩ ?_
                      rintro j ⟨j2, j3⟩
                      have hw2 := wN j (by omega)
                      rcases Nat.lt_or_ge j vs.length with hjl | hjl
                      · have hjl' : j < vs'.length := by omega
                        have hat2 : (ndsD vs)[(j : Int).toNat]? = some (ndD vs[j]) := by rw [ndsD_map]; simp [hjl]
                        have hat2' : (ndsD vs')[(j : Int).toNat]? = some (ndD vs'[j]) := by rw [ndsD_map]; simp [hjl']
                        have hy := ih num vs vs[j] hmem (List.getElem_mem hjl) (y := vs'[j])
                        rw [drop_at hjl, drop_at hjl'] at j3
                        generalize vs[j] = y at hat2 hy j3
                        generalize vs'[j] = y' at hat2' hy j3
                        have j6 : (sameN y y' && sameVs (vs.drop (j + 1)) (vs'.drop (j + 1))) = sameVs vs vs' := by rw [← j3]; conv => rhs; unfold sameVs
                        obtain ⟨yk, yn, yu, yb, ys, yt, yf⟩ := y
                        obtain ⟨zk, zn, zu, zb, zs, zt, zf⟩ := y'
                        generalize sameN (.mk yk yn yu yb ys yt yf) (.mk zk zn zu zb zs zt zf) = r at hy j6
                        refine a_t hT rfl rfl (decide_eq_true (by show (j : Int) < (vs.length : Int); omega)) ?_
                        refine a_drawX hT [] 10 [(0, false), (1, false), (2, false), (3, false), (4, false), (5, false), (6, false), (7, false), (8, false), (9, false), (10, true)] rfl rfl (by kernel_rfl) (by kernel_rfl) rfl ?_
                        refine a_ix hT _ rfl rfl rfl rfl rfl rfl (by first | omega | assumption) (by first | assumption | rfl) ?_
                        refine a_ix hT _ rfl rfl rfl rfl rfl rfl (by first | omega | assumption) (by first | assumption | rfl) ?_
                        refine a_call hT rfl rfl rfl (by kernel_rfl) hy [] [] rfl rfl ?_
                        rintro _ _ ⟨rfl, rfl⟩
                        refine a_rest hT [(11, true)] rfl rfl (by kernel_rfl) ?_
                        refine a_if hT rfl rfl (fun h10 => ?_) (fun h10 => ?_)
                        · simp at h10
                          refine a_ret hT [] rfl rfl rfl rfl rfl rfl ?_
                          exact b_eq (by rw [← j6, h10]; rfl)
                        · simp at h10
                          rw [h10, Bool.true_and] at j6
                          exact a_next hT (j + 1) [20, 21, 22, 23] rfl rfl ⟨⟨by show j + 1 ≤ vs.length; omega, j6⟩, by show vs.length - (j + 1) < vs.length - j; omega⟩ ⟨rfl, rfl, rfl, rfl, rfl, rfl, rfl, rfl, by show Value.int .i64 _ = Value.int .i64 _; rw [hw2], trivial⟩ rfl ⟨⟨rfl, rfl, ⟨rfl, rfl, rfl, rfl, rfl, rfl, rfl, trivial⟩⟩, ⟨rfl, rfl, ⟨rfl, rfl, rfl, rfl, rfl, rfl, rfl, trivial⟩⟩, ⟨rfl, rfl, ⟨rfl, rfl, trivial⟩⟩, ⟨rfl, rfl, ⟨rfl, rfl, trivial⟩⟩, trivial⟩
                      · refine a_f hT rfl rfl (decide_eq_false (by show ¬ (j : Int) < (vs.length : Int); omega)) ?_
                        rw [List.drop_eq_nil_of_le hjl] at j3
                        have hv1 : sameVs vs vs' = true := by rw [← j3]; unfold sameVs; rfl
                        exact a_next hT (i + 1) [20, 21] rfl rfl ⟨⟨by show i + 1 ≤ fs.length; omega, by rw [hv1, Bool.true_and]⟩, by show fs.length - (i + 1) < fs.length - i; omega⟩ ⟨rfl, rfl, rfl, by show Value.int .i64 _ = Value.int .i64 _; rw [hw], trivial⟩ rfl ⟨⟨rfl, rfl, ⟨rfl, rfl, rfl, rfl, rfl, rfl, rfl, trivial⟩⟩, ⟨rfl, rfl, ⟨rfl, rfl, rfl, rfl, rfl, rfl, rfl, trivial⟩⟩, trivial⟩
                · refine a_f hT rfl rfl (decide_eq_false (by show ¬ (i : Int) < (fs.length : Int); omega)) ?_
                  refine a_ret hT [] rfl rfl rfl rfl rfl rfl ?_
                  rw [List.drop_eq_nil_of_le hil] at i3
                  exact b_eq (by rw [← i3]; unfold sameFs; rfl)
end Go.Proofs.YtjcolfogmmjaoaaGreatDoor
end

section
/- Layer 9: Small, Clean, Get. -/
set_option linter.unusedVariables false
set_option linter.unusedSimpArgs false
set_option maxRecDepth 100000
set_option maxHeartbeats 1000000
namespace Go.Proofs.YtjcolfogmmjaoaaGreatDoor
open V A
theorem wrap32b (n : Int) : -2147483648 ≤ IntKind.i32.wrap n ∧ IntKind.i32.wrap n < 2147483648 := by
  unfold IntKind.wrap
  simp [IntKind.bits, IntKind.signed]
  split <;> omega
mutual
theorem okV_theirs : ∀ (x : ND), OkN x → OkV (theirsP x)
  | .mk k n u b s t fs, h => by
    cases h with
    | mk hl hvl hv =>
    have h32 := wrap32b n
    unfold theirsP
    split
    · exact .int _
    split
    · exact .uint _
    split
    · exact .bool _
    split
    · exact .text _
    split
    · exact .bytes _
    split
    · exact .enum _ h32.1 h32.2
    split
    · refine .msg (by rw [theirsFs_map, List.length_map]; exact hl) (fun num vs hm => ?_) (fun num vs x hm hx => ?_)
      · rw [theirsFs_map] at hm
        obtain ⟨f, hf, he⟩ := List.mem_map.1 hm
        obtain ⟨num', vs'⟩ := f
        unfold theirsF at he
        cases he
        rw [theirsVs_map, List.length_map]
        exact hvl _ _ hf
      · exact okV_fs fs hv num vs x hm hx
    · exact .none
theorem okV_fs : ∀ (fs : List NF), (∀ num vs x, NF.mk num vs ∈ fs → x ∈ vs → OkN x) → ∀ num vs x, VF.mk num vs ∈ theirsFs fs → x ∈ vs → OkV x
  | [], hv, num, vs, x, hm, hx => by unfold theirsFs at hm; simp at hm
  | .mk n' vs' :: fs, hv, num, vs, x, hm, hx => by
    unfold theirsFs at hm
    rcases List.mem_cons.1 hm with he | hm
    · unfold theirsF at he
      cases he
      exact okV_vs vs' (fun x hx => hv n' vs' x (by simp) hx) x hx
    · exact okV_fs fs (fun num vs x hm hx => hv num vs x (by simp [hm]) hx) num vs x hm hx
theorem okV_vs : ∀ (vs : List ND), (∀ x ∈ vs, OkN x) → ∀ x ∈ theirsVs vs, OkV x
  | [], hv, x, hx => by unfold theirsVs at hx; simp at hx
  | y :: vs, hv, x, hx => by
    unfold theirsVs at hx
    rcases List.mem_cons.1 hx with rfl | hx
    · exact okV_theirs y (hv y (by simp))
    · exact okV_vs vs (fun x hx => hv x (by simp [hx])) x hx
end
theorem Small_spec {x : ND} (hx : BdN x) : FSpec Tryz.prog 41 [ndA x] [] fun a cs => a = bA (decide (0 ≤ smallP x 0 400)) ∧ cs = [] := by
  have hH := small_spec hx (d := 0) (l := 400) (by decide) (by decide) (by decide) (by decide)
  obtain ⟨k, n, u, b, s, t, fs⟩ := x
  refine a_enter hT [ndA (.mk k n u b s t fs)] [] Tryz.func41 rfl rfl rfl ⟨Fit.refl _, trivial⟩ fun c' => ?_
  refine a_box hT 20 rfl rfl rfl rfl fun g => ?_
  refine a_call hT rfl rfl rfl (by kernel_rfl) hH [] [] rfl rfl ?_
  rintro _ _ ⟨rfl, rfl⟩
  refine a_ret hT [] rfl rfl rfl rfl rfl rfl ?_
  first | exact ⟨rfl, rfl⟩ | rfl
theorem Clean_spec {x : ND} (hx : OkN x) : FSpec Tryz.prog 27 [ndA x] [] fun a cs => a = ndA (oursP (theirsP x)) ∧ cs = [] := by
  have hH := Theirs_spec hx
  have hH2 := (Ours_spec (okV_theirs x hx)).ofNd
  generalize oursP (theirsP x) = z at hH2
  obtain ⟨k, n, u, b, s, t, fs⟩ := x
  obtain ⟨zk, zn, zu, zb, zs, zt, zf⟩ := z
  refine a_enter hT [ndA (.mk k n u b s t fs)] [] Tryz.func27 rfl rfl rfl ⟨Fit.refl _, trivial⟩ fun c' => ?_
  refine a_box hT 20 rfl rfl rfl rfl fun g => ?_
  refine a_new hT hZ 21 rfl rfl rfl rfl fun g1 => ?_
  refine a_call hT rfl rfl rfl (by kernel_rfl) hH [] [] rfl rfl ?_
  rintro _ _ ⟨rfl, rfl⟩
  refine a_call hT rfl rfl rfl (by kernel_rfl) hH2 [] [] rfl rfl ?_
  rintro _ _ ⟨rfl, rfl⟩
  refine a_ret hT [] rfl rfl rfl rfl rfl rfl ?_
  first | exact ⟨rfl, rfl⟩ | rfl
theorem elV : elemOk Tryz.prog 31 1 = true := by kernel_rfl
theorem cloneV {l : List VL} (hl : l.length ≤ lim) : FSpec Tryz.prog 54 [.d (.sl 1 (vlsD l))] [] fun a cs => a = .d (.sl 1 (vlsD l)) ∧ cs = [] := by
  have : FSpec Tryz.prog 54 [.d (.sl 1 (vlsD l))] [] fun a cs => ∃ x, a = .row x 1 ∧ cs = [.row x 31 1 (vlsD l)] := by
    refine a_enter hT [.d (.sl 1 (vlsD l))] [] Tryz.func54 rfl rfl rfl ⟨rfl, trivial⟩ fun c => ?_
    refine a_isnil hT rfl rfl rfl rfl rfl rfl fun b hb => ?_
    refine a_if hT rfl rfl (fun h => ?_) (fun h => ?_)
    · refine a_run hT 4 rfl rfl ?_
      refine a_nilrow 2 1 31 1 rfl rfl ?_
      refine a_ret hT [1] rfl rfl rfl rfl rfl rfl ⟨_, rfl, ?_⟩
      rw [hb h]
    · refine a_lit hT 1 rfl rfl rfl rfl elV rfl rfl rfl rfl fun x => ?_
      refine a_app hT 1 (vlsD l) rfl rfl rfl rfl elV rfl rfl rfl rfl rfl rfl (by rw [vlsD_map]; simpa using hl) fun x => ?_
      refine a_ret hT [1] rfl rfl rfl rfl rfl rfl ⟨x, rfl, rfl⟩
  exact this.freeze
def getFs : List VF → Int → List VL
  | [], _ => []
  | .mk n vs :: fs, k => if n = k then vs else getFs fs k
def getP : VL → Int → List VL
  | .msg _ fs _, k => getFs fs k
  | _, _ => []
theorem Get_spec {v : VL} {k : Int} (hv : OkV v) : FSpec Tryz.prog 34 [nd (vlD v), .v (kI k) 0] [] fun a cs => a = .d (.sl 1 (vlsD (getP v k))) ∧ cs = [] := by
  refine FSpec.le ?_
  cases hv with
  | none =>
    refine a_enter hT [nd (vlD .none), .v (kI k) 0] [] Tryz.func34 rfl rfl rfl ⟨Fit.refl _, rfl, trivial⟩ fun c' => ?_
    refine a_assertN hT (.agg #[.int .i64 0, .slice none 0 0, .string ByteArray.empty]) rfl rfl rfl rfl rfl (by kernel_rfl) rfl ?_
    refine a_new hT hZ 20 rfl rfl rfl rfl fun g => ?_
    refine a_loop hT [1, 15, 16, 17] (fun _ : Unit => [.v (kI k) 0, .v (.slice none 0 0) 0, .v (kI 0) 0, .v (kI 0) 0]) (fun _ => []) (fun _ => True) (fun _ => 0) () [] rfl rfl trivial ⟨rfl, rfl, rfl, rfl, trivial⟩ rfl trivial ?_
    rintro _ _
    refine a_f hT rfl rfl rfl ?_
    refine a_ret hT [] rfl rfl rfl rfl rfl rfl ?_
    exact ⟨_, le_nil, rfl, rfl⟩
  | int n =>
    refine a_enter hT [nd (vlD (.int n)), .v (kI k) 0] [] Tryz.func34 rfl rfl rfl ⟨Fit.refl _, rfl, trivial⟩ fun c' => ?_
    refine a_assertN hT (.agg #[.int .i64 0, .slice none 0 0, .string ByteArray.empty]) rfl rfl rfl rfl rfl (by kernel_rfl) rfl ?_
    refine a_new hT hZ 20 rfl rfl rfl rfl fun g => ?_
    refine a_loop hT [1, 15, 16, 17] (fun _ : Unit => [.v (kI k) 0, .v (.slice none 0 0) 0, .v (kI 0) 0, .v (kI 0) 0]) (fun _ => []) (fun _ => True) (fun _ => 0) () [] rfl rfl trivial ⟨rfl, rfl, rfl, rfl, trivial⟩ rfl trivial ?_
    rintro _ _
    refine a_f hT rfl rfl rfl ?_
    refine a_ret hT [] rfl rfl rfl rfl rfl rfl ?_
    exact ⟨_, le_nil, rfl, rfl⟩
  | uint n =>
    refine a_enter hT [nd (vlD (.uint n)), .v (kI k) 0] [] Tryz.func34 rfl rfl rfl ⟨Fit.refl _, rfl, trivial⟩ fun c' => ?_
    refine a_assertN hT (.agg #[.int .i64 0, .slice none 0 0, .string ByteArray.empty]) rfl rfl rfl rfl rfl (by kernel_rfl) rfl ?_
    refine a_new hT hZ 20 rfl rfl rfl rfl fun g => ?_
    refine a_loop hT [1, 15, 16, 17] (fun _ : Unit => [.v (kI k) 0, .v (.slice none 0 0) 0, .v (kI 0) 0, .v (kI 0) 0]) (fun _ => []) (fun _ => True) (fun _ => 0) () [] rfl rfl trivial ⟨rfl, rfl, rfl, rfl, trivial⟩ rfl trivial ?_
    rintro _ _
    refine a_f hT rfl rfl rfl ?_
    refine a_ret hT [] rfl rfl rfl rfl rfl rfl ?_
    exact ⟨_, le_nil, rfl, rfl⟩
  | bool b =>
    refine a_enter hT [nd (vlD (.bool b)), .v (kI k) 0] [] Tryz.func34 rfl rfl rfl ⟨Fit.refl _, rfl, trivial⟩ fun c' => ?_
    refine a_assertN hT (.agg #[.int .i64 0, .slice none 0 0, .string ByteArray.empty]) rfl rfl rfl rfl rfl (by kernel_rfl) rfl ?_
    refine a_new hT hZ 20 rfl rfl rfl rfl fun g => ?_
    refine a_loop hT [1, 15, 16, 17] (fun _ : Unit => [.v (kI k) 0, .v (.slice none 0 0) 0, .v (kI 0) 0, .v (kI 0) 0]) (fun _ => []) (fun _ => True) (fun _ => 0) () [] rfl rfl trivial ⟨rfl, rfl, rfl, rfl, trivial⟩ rfl trivial ?_
    rintro _ _
    refine a_f hT rfl rfl rfl ?_
    refine a_ret hT [] rfl rfl rfl rfl rfl rfl ?_
    exact ⟨_, le_nil, rfl, rfl⟩
  | text s =>
    refine a_enter hT [nd (vlD (.text s)), .v (kI k) 0] [] Tryz.func34 rfl rfl rfl ⟨Fit.refl _, rfl, trivial⟩ fun c' => ?_
    refine a_assertN hT (.agg #[.int .i64 0, .slice none 0 0, .string ByteArray.empty]) rfl rfl rfl rfl rfl (by kernel_rfl) rfl ?_
    refine a_new hT hZ 20 rfl rfl rfl rfl fun g => ?_
    refine a_loop hT [1, 15, 16, 17] (fun _ : Unit => [.v (kI k) 0, .v (.slice none 0 0) 0, .v (kI 0) 0, .v (kI 0) 0]) (fun _ => []) (fun _ => True) (fun _ => 0) () [] rfl rfl trivial ⟨rfl, rfl, rfl, rfl, trivial⟩ rfl trivial ?_
    rintro _ _
    refine a_f hT rfl rfl rfl ?_
    refine a_ret hT [] rfl rfl rfl rfl rfl rfl ?_
    exact ⟨_, le_nil, rfl, rfl⟩
  | bytes s =>
    refine a_enter hT [nd (vlD (.bytes s)), .v (kI k) 0] [] Tryz.func34 rfl rfl rfl ⟨Fit.refl _, rfl, trivial⟩ fun c' => ?_
    refine a_assertN hT (.agg #[.int .i64 0, .slice none 0 0, .string ByteArray.empty]) rfl rfl rfl rfl rfl (by kernel_rfl) rfl ?_
    refine a_new hT hZ 20 rfl rfl rfl rfl fun g => ?_
    refine a_loop hT [1, 15, 16, 17] (fun _ : Unit => [.v (kI k) 0, .v (.slice none 0 0) 0, .v (kI 0) 0, .v (kI 0) 0]) (fun _ => []) (fun _ => True) (fun _ => 0) () [] rfl rfl trivial ⟨rfl, rfl, rfl, rfl, trivial⟩ rfl trivial ?_
    rintro _ _
    refine a_f hT rfl rfl rfl ?_
    refine a_ret hT [] rfl rfl rfl rfl rfl rfl ?_
    exact ⟨_, le_nil, rfl, rfl⟩
  | enum n h1 h2 =>
    refine a_enter hT [nd (vlD (.enum n)), .v (kI k) 0] [] Tryz.func34 rfl rfl rfl ⟨Fit.refl _, rfl, trivial⟩ fun c' => ?_
    refine a_assertN hT (.agg #[.int .i64 0, .slice none 0 0, .string ByteArray.empty]) rfl rfl rfl rfl rfl (by kernel_rfl) rfl ?_
    refine a_new hT hZ 20 rfl rfl rfl rfl fun g => ?_
    refine a_loop hT [1, 15, 16, 17] (fun _ : Unit => [.v (kI k) 0, .v (.slice none 0 0) 0, .v (kI 0) 0, .v (kI 0) 0]) (fun _ => []) (fun _ => True) (fun _ => 0) () [] rfl rfl trivial ⟨rfl, rfl, rfl, rfl, trivial⟩ rfl trivial ?_
    rintro _ _
    refine a_f hT rfl rfl rfl ?_
    refine a_ret hT [] rfl rfl rfl rfl rfl rfl ?_
    exact ⟨_, le_nil, rfl, rfl⟩
  | @msg t fs s hl hvl hv =>
    have hlen : (vfsD fs).length = fs.length := by rw [vfsD_map, List.length_map]
    refine a_enter hT [nd (vlD (.msg t fs s)), .v (kI k) 0] [] Tryz.func34 rfl rfl rfl ⟨Fit.refl _, rfl, trivial⟩ fun c' => ?_
    refine a_new hT hZ 20 rfl rfl rfl rfl fun g => ?_
    refine a_loop hT [1, 15, 16, 17] (fun i : Nat => [.v (kI k) 0, .d (.sl 2 (vfsD fs)), .v (kI fs.length) 0, .v (kI i) 0]) (fun _ => []) (fun i => i ≤ fs.length ∧ getFs (fs.drop i) k = getFs fs k) (fun i => fs.length - i) 0 [] rfl rfl ⟨Nat.zero_le _, rfl⟩ ⟨rfl, rfl, by rw [← hlen]; rfl, rfl, trivial⟩ rfl trivial ?_
    rintro i ⟨i2, i3⟩
    have hw := wN i (by omega)
    rcases Nat.lt_or_ge i fs.length with hil | hil
    · have hat : (vfsD fs)[(i : Int).toNat]? = some (vfD fs[i]) := by rw [vfsD_map]; simp [hil]
      have hmem := List.getElem_mem hil
      rw [drop_at hil] at i3
      generalize fs[i] = f at hat hmem i3
      obtain ⟨num, vs⟩ := f
      have hvs := hvl num vs hmem
      have hc := cloneV (l := vs) (by unfold lim; omega)
      have i4 : (if num = k then vs else getFs (fs.drop (i + 1)) k) = getFs fs k := by rw [← i3]; conv => rhs; unfold getFs
      refine a_t hT rfl rfl (decide_eq_true (by show (i : Int) < (fs.length : Int); omega)) ?_
      refine a_ix hT _ rfl rfl rfl rfl rfl rfl (by first | omega | assumption) (by first | assumption | rfl) ?_
      refine a_new hT hZ 20 rfl rfl rfl rfl fun g1 => ?_
      refine a_if hT rfl rfl (fun h => ?_) (fun h => ?_)
      · have h := eq_of_beq h
        refine a_call hT rfl rfl rfl (by kernel_rfl) hc [] [] rfl rfl ?_
        rintro _ _ ⟨rfl, rfl⟩
        refine a_ret hT [] rfl rfl rfl rfl rfl rfl ?_
        rw [if_pos h] at i4
        exact ⟨_, Le.refl _, by show _ = AV.d (.sl 1 (vlsD (getFs fs k))); rw [← i4]; rfl, rfl⟩
      · have h := ne_of_beq_false h
        rw [if_neg h] at i4
        exact a_next hT (i + 1) [] rfl rfl ⟨⟨by show i + 1 ≤ fs.length; omega, i4⟩, by show fs.length - (i + 1) < fs.length - i; omega⟩ ⟨rfl, rfl, rfl, by show Value.int .i64 _ = Value.int .i64 _; rw [hw], trivial⟩ rfl trivial
    · refine a_f hT rfl rfl (decide_eq_false (by show ¬ (i : Int) < (fs.length : Int); omega)) ?_
      rw [List.drop_eq_nil_of_le hil] at i3
      refine a_ret hT [] rfl rfl rfl rfl rfl rfl ?_
      exact ⟨_, le_nil (k := 1), by show _ = AV.d (.sl 1 (vlsD (getFs fs k))); rw [← i3]; rfl, rfl⟩
end Go.Proofs.YtjcolfogmmjaoaaGreatDoor
end

section
/- Layer 9: known fields; layer 11: numbers. -/
set_option linter.unusedVariables false
set_option linter.unusedSimpArgs false
set_option maxRecDepth 100000
set_option maxHeartbeats 1000000
namespace Go.Proofs.YtjcolfogmmjaoaaGreatDoor
open V A
theorem FIndexFunc_spec {l : List FDP} {p : FDP → Bool} {f : FuncId} {cap : List AV} (hl : l.length < 4611686018427387904) (hb : callOk Tryz.prog f = true) (hf : ∀ x ∈ l, FSpec Tryz.prog f (.agg ((eF x).map nd) :: cap) [] fun a cs => a = bA (p x) ∧ cs = []) :
    FSpec Tryz.prog 119 [.d (.sl 5 (l.map eF)), .fn f cap] [] fun a cs => a = .v (kI (idxF p l 0)) 0 ∧ cs = [] := by
  refine a_enter hT [.d (.sl 5 (l.map eF)), .fn f cap] [] Tryz.func119 rfl rfl rfl ⟨rfl, Fit.refl _, trivial⟩ fun c' => ?_
  have hlen : (l.map eF).length = l.length := List.length_map _
  refine a_loop hT [0, 1, 7, 8] (fun i : Nat => [.d (.sl 5 (l.map eF)), .fn f cap, .v (kI l.length) 0, .v (kI i) 0]) (fun _ => []) (fun i => idxF p (l.drop i) i = idxF p l 0 ∧ i ≤ l.length) (fun i => l.length - i) 0 [] rfl rfl ⟨rfl, Nat.zero_le _⟩ ⟨rfl, Fit.refl _, by rw [← hlen]; rfl, rfl, trivial⟩ rfl trivial ?_
  rintro i ⟨i1, i2⟩
  have hw := wN i (by omega)
  rcases Nat.lt_or_ge i l.length with hil | hil
  · have hat : (l.map eF)[(i : Int).toNat]? = some (eF l[i]) := by simp [hil]
    refine a_if hT rfl rfl (fun h1 => ?_) (fun h1 => ?_)
    · have h1 := of_decide_eq_true h1
      refine a_ix hT _ rfl rfl rfl rfl rfl rfl (by first | omega | assumption) (by first | assumption | rfl) ?_
      refine a_callv hT rfl rfl rfl rfl hb (hf l[i] (List.getElem_mem hil)) [] [] rfl rfl ?_
      rintro _ _ ⟨rfl, rfl⟩
      refine a_if hT rfl rfl (fun h => ?_) (fun h => ?_)
      · refine a_ret hT [] rfl rfl rfl rfl rfl rfl ?_
        exact ⟨by rw [← i1, idxF_yes hil (by assumption)]; rfl, rfl⟩
      · exact a_next hT (i + 1) [] rfl rfl ⟨⟨by rw [← i1, idxF_no hil (by assumption)], by omega⟩, by omega⟩ ⟨rfl, Fit.refl _, rfl, by show Value.int .i64 _ = Value.int .i64 _; rw [hw], trivial⟩ rfl trivial
    · have h1 := of_decide_eq_false h1
      (exfalso; first | omega | contradiction)
  · have hnil : l.drop i = [] := List.drop_eq_nil_of_le hil
    refine a_if hT rfl rfl (fun h1 => ?_) (fun h1 => ?_)
    · have h1 := of_decide_eq_true h1
      (exfalso; first | omega | contradiction)
    · have h1 := of_decide_eq_false h1
      refine a_ret hT [] rfl rfl rfl rfl rfl rfl ?_
      exact ⟨by rw [← i1, hnil]; rfl, rfl⟩

def wireK (k : Int) : Int := if k = 7 then 5 else if k = 8 then 1 else if k = 5 ∨ k = 6 ∨ k = 10 then 2 else 0
theorem Wire_spec {k : Int} : FSpec Tryz.prog 121 [.v (kI k) 0] [] fun a cs => a = .v (kI (wireK k)) 0 ∧ cs = [] := by
  refine a_enter hT [.v (kI k) 0] [] Tryz.func121 rfl rfl rfl ⟨rfl, trivial⟩ fun c' => ?_
  refine a_if hT rfl rfl (fun h => ?_) (fun h => ?_)
  · have h := eq_of_beq h
    refine a_ret hT [] rfl rfl rfl rfl rfl rfl ?_
    exact ⟨by simp_all [wireK]; rfl, rfl⟩
  · have h := ne_of_beq_false h
    refine a_if hT rfl rfl (fun h1 => ?_) (fun h1 => ?_)
    · have h1 := eq_of_beq h1
      refine a_ret hT [] rfl rfl rfl rfl rfl rfl ?_
      exact ⟨by simp_all [wireK]; rfl, rfl⟩
    · have h1 := ne_of_beq_false h1
      refine a_if hT rfl rfl (fun h2 => ?_) (fun h2 => ?_)
      · have h2 := eq_of_beq h2
        refine a_if hT rfl rfl (fun h3 => ?_) (fun h3 => ?_)
        · have h3 := eq_of_beq h3
          refine a_ret hT [] rfl rfl rfl rfl rfl rfl ?_
          exact ⟨by simp_all [wireK]; rfl, rfl⟩
        · have h3 := ne_of_beq_false h3
          (exfalso; first | omega | contradiction)
      · have h2 := ne_of_beq_false h2
        refine a_if hT rfl rfl (fun h3 => ?_) (fun h3 => ?_)
        · have h3 := eq_of_beq h3
          refine a_if hT rfl rfl (fun h4 => ?_) (fun h4 => ?_)
          · have h4 := eq_of_beq h4
            refine a_ret hT [] rfl rfl rfl rfl rfl rfl ?_
            exact ⟨by simp_all [wireK]; rfl, rfl⟩
          · have h4 := ne_of_beq_false h4
            (exfalso; first | omega | contradiction)
        · have h3 := ne_of_beq_false h3
          refine a_if hT rfl rfl (fun h4 => ?_) (fun h4 => ?_)
          · have h4 := eq_of_beq h4
            refine a_ret hT [] rfl rfl rfl rfl rfl rfl ?_
            exact ⟨by simp_all [wireK]; rfl, rfl⟩
          · have h4 := ne_of_beq_false h4
            refine a_ret hT [] rfl rfl rfl rfl rfl rfl ?_
            exact ⟨by simp_all [wireK]; rfl, rfl⟩
def packedK (k : Int) : Bool := decide (wireK k ≠ 2)
theorem Packed_spec {k : Int} : FSpec Tryz.prog 89 [.v (kI k) 0] [] fun a cs => a = bA (packedK k) ∧ cs = [] := by
  have hW := Wire_spec (k := k)
  refine a_enter hT [.v (kI k) 0] [] Tryz.func89 rfl rfl rfl ⟨rfl, trivial⟩ fun c' => ?_
  refine a_call hT rfl rfl rfl (by kernel_rfl) hW [] [] rfl rfl ?_
  rintro _ _ ⟨rfl, rfl⟩
  refine a_ret hT [] rfl rfl rfl rfl rfl rfl ?_
  exact b_eq (by simp [packedK, bne, BEq.beq])
theorem Known1_spec {f : FDP} {num : Int} : FSpec Tryz.prog 120 [.agg ((eF f).map nd), .d (.p [.v (kI num)])] [] fun a cs => a = bA (decide (f.num = num)) ∧ cs = [] := by
  refine a_enter hT [.agg ((eF f).map nd), .d (.p [.v (kI num)])] [] Tryz.func120 rfl rfl rfl ⟨Fit.refl _, Fit.refl _, trivial⟩ fun c' => ?_
  refine a_box hT 20 rfl rfl rfl rfl fun g => ?_
  refine a_ret hT [] rfl rfl rfl rfl rfl rfl ?_
  exact b_eq (by simp [BEq.beq])
def idxK (d : MDP) (num : Int) : Int := idxF (fun f : FDP => decide (f.num = num)) d.fs 0
theorem idxF_at {α : Type} {p : α → Bool} : ∀ {l : List α} {i : Nat}, 0 ≤ idxF p l i → ∃ j x, idxF p l i = ((i + j : Nat) : Int) ∧ l[j]? = some x ∧ p x = true ∧ l.find? p = some x
  | [], i, h => by simp [idxF] at h
  | x :: l, i, h => by
    unfold idxF at h ⊢
    cases hp : p x with
    | true => exact ⟨0, x, by simp [hp], rfl, hp, by simp [hp]⟩
    | false =>
      rw [hp] at h
      simp only [Bool.false_eq_true, if_false] at h ⊢
      obtain ⟨j, y, h1, h2, h3, h4⟩ := idxF_at h
      exact ⟨j + 1, y, by rw [h1]; omega, by simpa using h2, h3, by simp [hp, h4]⟩
theorem idxF_none {α : Type} {p : α → Bool} : ∀ {l : List α} {i : Nat}, ¬ 0 ≤ idxF p l i → l.find? p = none ∧ idxF p l i = -1
  | [], i, h => by simp [idxF]
  | x :: l, i, h => by
    unfold idxF at h ⊢
    cases hp : p x with
    | true => rw [hp] at h; simp at h
    | false =>
      rw [hp] at h
      simp only [Bool.false_eq_true, if_false] at h ⊢
      have := idxF_none h
      simp [hp, this]
def knownP (d : MDP) (num typ : Int) : Bool := match d.fs.find? (fun f => decide (f.num = num)) with
  | none => false
  | some f => decide (typ = wireK f.kind) || (f.rep && (packedK f.kind && decide (typ = 2)))
theorem Known_spec {d : MDP} {num typ : Int} (hl : d.fs.length ≤ 1000) : FSpec Tryz.prog 75 [.agg ((eM d).map nd), .v (kI num) 0, .v (kI typ) 0] [] fun a cs => a = bA (knownP d num typ) ∧ cs = [] := by
  have hI := FIndexFunc_spec (l := d.fs) (p := fun f => decide (f.num = num)) (f := 120) (cap := [.d (.p [.v (kI num)])]) (by omega) (by kernel_rfl) (fun f _ => Known1_spec)
  have hk : knownP d num typ = knownP d num typ := rfl
  conv at hk => rhs; unfold knownP
  generalize knownP d num typ = K at hk ⊢
  have hlen : (d.fs.map eF).length = d.fs.length := List.length_map _
  refine a_enter hT [.agg ((eM d).map nd), .v (kI num) 0, .v (kI typ) 0] [] Tryz.func75 rfl rfl rfl ⟨Fit.refl _, rfl, rfl, trivial⟩ fun c' => ?_
  refine a_box hT 20 rfl rfl rfl rfl fun g1 => ?_
  refine a_box hT 21 rfl rfl rfl rfl fun g2 => ?_
  refine a_freezeK 4 21 rfl rfl rfl rfl rfl ?_
  by_cases h0 : 0 ≤ idxF (fun f : FDP => decide (f.num = num)) d.fs 0
  · obtain ⟨j, f, h1, h2, h3, h4⟩ := idxF_at h0
    rw [h1] at hI
    rw [Nat.zero_add] at hI
    rw [h4] at hk
    have hj := (List.getElem?_eq_some_iff.1 h2).1
    have hat : (d.fs.map eF)[((j : Nat) : Int).toNat]? = some (eF f) := by simp [h2]
    have hW := Wire_spec (k := f.kind)
    have hP := Packed_spec (k := f.kind)
    dsimp only at hk
    generalize packedK f.kind = pk at hP hk
    generalize wireK f.kind = wk at hW hk
    refine a_call hT rfl rfl rfl (by kernel_rfl) hI [] [] rfl rfl ?_
    rintro _ _ ⟨rfl, rfl⟩
    refine a_f hT rfl rfl (decide_eq_false (by show ¬ ((j : Int) < 0); omega)) ?_
    refine a_ix hT _ rfl rfl rfl rfl rfl rfl (by first | omega | assumption) (by first | assumption | rfl) ?_
    refine a_new hT hZ 21 rfl rfl rfl rfl fun g => ?_
    refine a_call hT rfl rfl rfl (by kernel_rfl) hW [] [] rfl rfl ?_
    rintro _ _ ⟨rfl, rfl⟩
    refine a_g hT rfl rfl rfl (fun h => ?_) (fun h => ?_)
    · have h := eq_of_beq h
      refine a_ret hT [] rfl rfl rfl rfl rfl rfl ?_
      exact b_eq (by simp_all)
    · have h := ne_of_beq_false h
      refine a_g hT rfl rfl rfl (fun h5 => ?_) (fun h5 => ?_)
      · refine a_call hT rfl rfl rfl (by kernel_rfl) hP [] [] rfl rfl ?_
        rintro _ _ ⟨rfl, rfl⟩
        refine a_g hT rfl rfl rfl (fun h6 => ?_) (fun h6 => ?_)
        · refine a_ret hT [] rfl rfl rfl rfl rfl rfl ?_
          exact b_eq (by simp_all)
        · refine a_ret hT [] rfl rfl rfl rfl rfl rfl ?_
          exact b_eq (by simp_all)
      · refine a_gf hT rfl rfl rfl rfl ?_
        refine a_ret hT [] rfl rfl rfl rfl rfl rfl ?_
        exact b_eq (by simp_all)
  · have h1 := idxF_none h0
    rw [h1.2] at hI
    rw [h1.1] at hk
    subst hk
    refine a_call hT rfl rfl rfl (by kernel_rfl) hI [] [] rfl rfl ?_
    rintro _ _ ⟨rfl, rfl⟩
    refine a_t hT rfl rfl rfl ?_
    refine a_ret hT [] rfl rfl rfl rfl rfl rfl ?_
    first | exact ⟨rfl, rfl⟩ | rfl
end Go.Proofs.YtjcolfogmmjaoaaGreatDoor
end

section
/- == of two interface values. It holds of any program. -/
set_option linter.unusedVariables false
set_option linter.unusedSimpArgs false
set_option maxRecDepth 100000
namespace Go.Proofs.YtjcolfogmmjaoaaGreatDoor.A
open V
def isIfc (P : Program) (t : TypeId) : Bool := match P.underlying t with
  | some (.interface _) => true
  | _ => false
def cmpOk (P : Program) (t : TypeId) : Bool := match P.info? t with
  | some i => i.comparable
  | none => false
/-- A scalar in an interface. -/
def ifcV : AV → Option (TypeId × Value)
  | .ifc t (.v x _) => if one1 (.v x 0) then some (t, x) else none
  | .d (.ifc t false [.v x]) => some (t, x)
  | _ => none
theorem ifcV_rep {M : Nat → Prop} {w : World} {t : TypeId} {u : Value} {a : AV} {x : Value} (h : ifcV a = some (t, u)) (hr : Rep M w a x) : x = .iface t u := by
  unfold ifcV at h
  split at h
  · split at h
    · cases h
      unfold Rep at hr
      obtain ⟨u', rfl, hu⟩ := hr
      rw [rep_v hu]
    · cases h
  · cases h
    unfold Rep DRep at hr
    obtain ⟨u', rfl, _, h1, hv⟩ := hr
    have h1 := h1 rfl
    rw [cells_one h1] at hv
    unfold VRep at hv
    obtain ⟨y, r, e, hd, hr⟩ := hv
    simp at e
    obtain ⟨rfl, rfl⟩ := e
    unfold DRep at hd
    rw [hd.1]
  · cases h
/-- The dynamic type alone; none: nil. -/
def ifcT : AV → Option (Option TypeId)
  | .ifc t _ => some (some t)
  | .d (.ifc t _ _) => some (some t)
  | .d (.v .nilIface) => some none
  | .v .nilIface _ => some none
  | _ => none
def isT (q : Option TypeId) (x : Value) : Prop := match q with
  | some t => ∃ u, x = .iface t u
  | none => x = .nilIface
theorem ifcT_rep {M : Nat → Prop} {w : World} {a : AV} {x : Value} {q : Option TypeId} (h : ifcT a = some q) (hr : Rep M w a x) : isT q x := by
  unfold ifcT at h
  split at h
  · cases h
    unfold Rep at hr
    obtain ⟨u, rfl, _⟩ := hr
    exact ⟨u, rfl⟩
  · cases h
    unfold Rep DRep at hr
    obtain ⟨u, rfl, _⟩ := hr
    exact ⟨u, rfl⟩
  · cases h
    unfold Rep DRep at hr
    exact hr.1
  · cases h
    exact rep_v hr
  · cases h
def scal : TD → Value → Value → Option Bool
  | .int _, .int k a, .int k' b => if k = k' then some (a == b) else none
  | .bool, .bool a, .bool b => some (a == b)
  | .str, .string a, .string b => some (a == b)
  | _, _, _ => none
def difT : Option TypeId → Option TypeId → Bool
  | some a, some b => !(Nat.beq a b)
  | none, none => false
  | _, _ => true
section
variable {P : Program} {L : List TD} {n : Nat} {Q : Exit → Act → World → Prop} {c : Ctx}
variable {s : AMS} {f f' : AEnv} {σ σ' : Store} {κ : List Kt} {all : Array Oper} {dec : List Nat} {rest : List (Oper × Bool)} {m : Mode} {o : Oper} {al : Bool} {ob : Obs}
theorem bool_tl (hT : TOk P L) {t : TypeId} (ht : tl L t = .bool) : P.underlying t = some .bool := by
  rcases hT t with h | h
  · rw [h] at ht; cases ht
  · rw [h] at ht; exact tdOf_bool ht
theorem run_ieq (hT : TOk P L) {xt t : TypeId} {u v : Value} {r : Bool} {x y : Operand} (hi : isIfc P xt = true) (hc : cmpOk P t = true) (hs : scal (tl L t) u v = some r) (w : World) :
    (eqGuard .eql xt x y (.iface t u) (.iface t v)).run P w = .ok () w ∧ (binOp .eql xt (.iface t u) (.iface t v)).run P w = .ok (.bool r) w := by
  unfold isIfc at hi
  unfold cmpOk at hc
  split at hi <;> try cases hi
  rename_i ms hu
  split at hc <;> try cases hc
  rename_i i hinf
  have hg : (eqGuard .eql xt x y (.iface t u) (.iface t v)).run P w = .ok () w := by simp [eqGuard]
  have he : ∀ d, (Op.equalIn (d + 1) t u v).run P w = .ok r w := by
    intro d
    unfold scal at hs
    split at hs
    · rename_i k' k a k2 b htl
      split at hs
      · rename_i hk
        cases hs
        subst hk
        have hut := int_tl hT htl
        unfold Op.equalIn
        simp only [Sem.run_bind, underlying, run_program, Result.andThen_ok, hut, Sem.run_pure, if_true]
      · cases hs
    · rename_i a b htl
      cases hs
      have hut := bool_tl hT htl
      unfold Op.equalIn
      simp only [Sem.run_bind, underlying, run_program, Result.andThen_ok, hut, Sem.run_pure]
    · rename_i a b htl
      cases hs
      have hut := str_tl hT htl
      unfold Op.equalIn
      simp only [Sem.run_bind, underlying, run_program, Result.andThen_ok, hut, Sem.run_pure]
    · cases hs
  have h2 : (Op.equal xt (.iface t u) (.iface t v)).run P w = .ok r w := by
    show (Op.equalIn (9998 + 1 + 1) xt (.iface t u) (.iface t v)).run P w = _
    have he := he 9998
    generalize 9998 + 1 = d at he ⊢
    unfold Op.equalIn
    simp only [Sem.run_bind, underlying, run_program, Result.andThen_ok, hu, Sem.run_pure, typeInfo, hinf, hc, he, ne_eq, not_true_eq_false, if_false, Bool.not_true, Bool.false_eq_true]
  exact ⟨hg, by simp only [Sem.run_bind, binOp, h2, Result.andThen_ok, Sem.run_pure]⟩
/-- Two values of one scalar type, each in an interface. -/
theorem a_ieq (hT : TOk P L) {x y : Operand} {xt t yt : TypeId} {u v : Value} (r : Bool) (h : machA L n fuel s f σ [] = ⟨.op m κ all dec o al rest, f', σ', ob⟩) (hob : ob.map (·.1) = ob.map (·.2)) (ho : o.op = .binOp .eql xt x y yt)
    (hx : ifcV (evA n f' x) = some (t, u)) (hy : ifcV (evA n f' y) = some (t, v)) (hi : isIfc P xt = true) (hc : cmpOk P t = true) (hs : scal (tl L t) u v = some r) (hk : DenA c P n Q (.ops m κ all dec rest) (putA f' o.dst (.v (.bool r) 0)) σ') : DenA c P n Q s f σ := by
  refine a_pure hT (.v (.bool r) 0) h hob (fun M w fc he => ?_) hk
  have h2 := ifcV_rep hx (he.eval (n := n) x)
  have h3 := ifcV_rep hy (he.eval (n := n) y)
  refine ⟨.bool r, fun w' => ?_, mk_v⟩
  obtain ⟨q1, q2⟩ := run_ieq (x := x) (y := y) hT hi hc hs w'
  simp [execOp, ho, h2, h3, q1, q2]
theorem run_ieqN {xt : TypeId} {u v : Value} {x y : Operand} {p q : Option TypeId} (hi : isIfc P xt = true) (hd : difT p q = true) (hu : isT p u) (hv : isT q v) (w : World) :
    (eqGuard .eql xt x y u v).run P w = .ok () w ∧ (binOp .eql xt u v).run P w = .ok (.bool false) w := by
  unfold isIfc at hi
  split at hi <;> try cases hi
  rename_i ms hms
  have h2 : ∀ d, (Op.equalIn (d + 1) xt u v).run P w = .ok false w := by
    intro d
    unfold Op.equalIn
    cases p with
    | none =>
      cases q with
      | none => cases hd
      | some b =>
        obtain ⟨a, rfl⟩ := hv
        unfold isT at hu
        subst hu
        simp only [Sem.run_bind, underlying, run_program, Result.andThen_ok, hms, Sem.run_pure]
    | some b =>
      obtain ⟨a, rfl⟩ := hu
      cases q with
      | none =>
        unfold isT at hv
        subst hv
        simp only [Sem.run_bind, underlying, run_program, Result.andThen_ok, hms, Sem.run_pure]
      | some b2 =>
        obtain ⟨a2, rfl⟩ := hv
        have hne : b ≠ b2 := fun e => by
          subst e
          have : (!(Nat.beq b b)) = true := hd
          rw [Nat.beq_refl] at this
          cases this
        simp only [Sem.run_bind, underlying, run_program, Result.andThen_ok, hms, Sem.run_pure, ne_eq, hne, not_false_eq_true, if_true]
  have h3 : (Op.equal xt u v).run P w = .ok false w := h2 9999
  have hg : (eqGuard .eql xt x y u v).run P w = .ok () w := by
    cases p with
    | none =>
      cases q with
      | none => cases hd
      | some b =>
        obtain ⟨a, rfl⟩ := hv
        unfold isT at hu
        subst hu
        simp [eqGuard]
    | some b =>
      obtain ⟨a, rfl⟩ := hu
      cases q with
      | none =>
        unfold isT at hv
        subst hv
        simp [eqGuard]
      | some b2 =>
        obtain ⟨a2, rfl⟩ := hv
        simp [eqGuard]
  have hb : binOp .eql xt u v = (do pure (.bool (← Op.equal xt u v)) : Sem Value) := by
    cases p with
    | none =>
      cases q with
      | none => cases hd
      | some b =>
        obtain ⟨a, rfl⟩ := hv
        unfold isT at hu
        subst hu
        rfl
    | some b =>
      obtain ⟨a, rfl⟩ := hu
      cases q with
      | none =>
        unfold isT at hv
        subst hv
        rfl
      | some b2 =>
        obtain ⟨a2, rfl⟩ := hv
        rfl
  exact ⟨hg, by simp only [Sem.run_bind, hb, h3, Result.andThen_ok, Sem.run_pure]⟩
/-- Two values of unlike types, or one of which is nil. -/
theorem a_ieqN (hT : TOk P L) {x y : Operand} {xt yt : TypeId} {p q : Option TypeId} (h : machA L n fuel s f σ [] = ⟨.op m κ all dec o al rest, f', σ', ob⟩) (hob : ob.map (·.1) = ob.map (·.2)) (ho : o.op = .binOp .eql xt x y yt)
    (hx : ifcT (evA n f' x) = some p) (hy : ifcT (evA n f' y) = some q) (hi : isIfc P xt = true) (hd : difT p q = true) (hk : DenA c P n Q (.ops m κ all dec rest) (putA f' o.dst (.v (.bool false) 0)) σ') : DenA c P n Q s f σ := by
  refine a_pure hT (.v (.bool false) 0) h hob (fun M w fc he => ?_) hk
  have h2 := ifcT_rep hx (he.eval (n := n) x)
  have h3 := ifcT_rep hy (he.eval (n := n) y)
  refine ⟨.bool false, fun w' => ?_, mk_v⟩
  obtain ⟨q1, q2⟩ := run_ieqN (x := x) (y := y) hi hd h2 h3 w'
  simp [execOp, ho, q1, q2]
end
end Go.Proofs.YtjcolfogmmjaoaaGreatDoor.A
end

section
/- Rows that a map's entries hold are frozen; a nil slice's row. It holds of any program. -/
set_option linter.unusedVariables false
set_option linter.unusedSimpArgs false
set_option maxRecDepth 100000
namespace Go.Proofs.YtjcolfogmmjaoaaGreatDoor.A
open V
theorem rowDat {M M' S1 : Nat → Prop} {w : World} {x : Value} {e k : Nat} {es : List (List Dat)} (hc : CRep M w (.row x e k es) S1) (hM : ∀ b, M' b → M b) (hd : ∀ b, S1 b → ¬ M' b) : DRep M' w (.sl k es) x := by
  obtain ⟨hS1, hk, xs, ho, hv⟩ := hc
  unfold DRep
  rcases ho.2 with ⟨rfl, h0⟩ | ⟨g, cap, cur, rfl, hb, hh, hn, hcl, hs, ht⟩
  · have : es = [] := List.eq_nil_of_length_eq_zero h0
    subst this
    exact ⟨none, 0, rfl, by simp, by simp, by simp⟩
  · have hg : S1 g := (hS1 g).2 rfl
    refine ⟨_, cap, rfl, hn, hk, fun hne => ⟨_, rfl, hd g hg, (Array.getElem?_eq_some_iff.1 hh).1, SRep.flat.2 (LRep.mk fun j d hj => ?_)⟩⟩
    obtain ⟨y, hy, hr⟩ := hv.get j d hj
    rw [Nat.zero_add]
    exact ⟨y, ho.cells (g := g) rfl j y hy, hr.ev (Ev.refl no w) fun b _ h => h.elim (fun h => h.elim) (hM b)⟩
theorem rowsDat {M : Nat → Prop} {w : World} {α : Type} {c : α → Chunk} : ∀ {L : List α} {S : Nat → Prop}, HoldsL M w (L.map c) S → ∀ p ∈ L, ∃ S1, CRep M w (c p) S1 ∧ ∀ b, S1 b → S b
  | [], S, h, p, hp => by simp at hp
  | q :: L, S, ⟨S1, S2, h1, h2, h3, h4⟩, p, hp => by
    rcases List.mem_cons.1 hp with rfl | hp
    · exact ⟨S1, h3, fun b hb => (h1 b).2 (.inl hb)⟩
    · obtain ⟨S3, h5, h6⟩ := rowsDat (L := L) h4 p hp
      exact ⟨S3, h5, fun b hb => (h1 b).2 (.inr (h6 b hb))⟩
theorem entsDat {M M' : Nat → Prop} {w : World} {κ β : Type} {kv : κ → Value} {vf : β → Value} {df : β → Dat} : ∀ {L : List (κ × β)} {es : List MapEntry}, EntsRep M w (mapG kv (fun x => .row (vf x) 0) L) es → (∀ p ∈ L, DRep M' w (df p.2) (vf p.2)) → EntsRep M' w (mapG kv (fun x => .d (df x)) L) es
  | [], es, h, _ => h
  | p :: L, es, ⟨e, r, h1, h2, h3⟩, hd => by
    refine ⟨e, r, h1, ⟨h2.1, ?_⟩, entsDat (L := L) h3 fun q hq => hd q (by simp [hq])⟩
    have h4 : Rep M w (.row (vf p.2) 0) e.val := h2.2
    unfold Rep at h4
    show Rep M' w (.d (df p.2)) e.val
    rw [h4.1]
    unfold Rep
    exact hd p (by simp)
section
variable {P : Program} {n : Nat} {Q : Exit → Act → World → Prop} {c : Ctx} {s : AMS} {f : AEnv} {σ : Store}
theorem a_freezeM {κ β : Type} {kv : κ → Value} {vf : β → Value} {df : β → List (List Dat)} (km kx : Nat) {r e k : Nat} (L : List (κ × β)) {σr : Store} (hst : s.still = true) (ht : takes σ [km, kx] = some ([.map r (mapG kv (fun x => .row (vf x) 0) L), .ext (listA (L.map fun p => .row (vf p.2) e k (df p.2)))], σr))
    (hk : DenA c P n Q s f ((km, .map r (mapG kv (fun x => .d (.sl k (df x))) L)) :: σr)) : DenA c P n Q s f σ := by
  refine a_ghost hst (fun Y S w fc hdY hh henv => ?_) hk
  obtain ⟨S1, S2, h1, h2, hS, hdis⟩ := hh.takes ht
  obtain ⟨Sm, Sx, h3, h4, ⟨hm1, ents, clock, hm2, hm3, hm4⟩, Sx1, Sx2, h5, h6, h7, h8⟩ := h1
  have hsub : ∀ b, or2 (or2 Sm S2) Y b → or2 S Y b := fun b h => by
    rcases h with (h | h) | h
    · exact .inl ((hS b).2 (.inl ((h3 b).2 (.inl h))))
    · exact .inl ((hS b).2 (.inr h))
    · exact .inr h
  have hx : ∀ b, Sx b → ¬ or2 (or2 Sm S2) Y b := fun b hb h => by
    rcases h with (h | h) | h
    · exact h4 b h hb
    · exact hdis b ((h3 b).2 (.inr hb)) h
    · exact hdY b ((hS b).2 (.inl ((h3 b).2 (.inr hb)))) h
  refine ⟨or2 Sm S2, ⟨Sm, S2, fun b => Iff.rfl, fun b hb h => hdis b ((h3 b).2 (.inl hb)) h, ⟨hm1, ents, clock, hm2, entsDat hm3 fun p hp => ?_, hm4⟩, ?_⟩, ?_, fun b h => h.elim (fun h => (hS b).2 (.inl ((h3 b).2 (.inl h)))) fun h => (hS b).2 (.inr h)⟩
  · obtain ⟨S3, h9, h10⟩ := rowsDat h7 p hp
    exact rowDat h9 hsub fun b hb => hx b ((h5 b).2 (.inl (h10 b hb)))
  · exact h2.ev (Ev.refl no w) (fun b _ h => h.elim (fun h => h.elim) (hsub b)) fun b _ h => h
  · exact fun t => (henv t).ev (Ev.refl no w) fun b _ h => h.elim (fun h => h.elim) (hsub b)
theorem a_nilchunk (kn e k : Nat) (hst : s.still = true) (hk : DenA c P n Q s f ((kn, .row (.slice none 0 0) e k []) :: σ)) : DenA c P n Q s f σ := by
  refine a_ghost hst (fun Y S w fc hdY hh henv => ?_) hk
  exact ⟨S, ⟨no, S, fun b => ⟨.inr, fun h => h.elim (fun h => h.elim) id⟩, fun _ h => h.elim, row_nil e k, hh⟩, henv, fun b h => h⟩
theorem le_nilrow {k h : Nat} : Le (.v (.slice none 0 0) h) (.row (.slice none 0 0) k) := by
  intro M w v hr
  unfold Rep at hr ⊢
  exact ⟨hr, rfl⟩
end
end Go.Proofs.YtjcolfogmmjaoaaGreatDoor.A
end

section
/- []byte("..") of a literal: bytes converted to bytes; a mark is laid on them. It holds of any program. -/
set_option linter.unusedVariables false
set_option linter.unusedSimpArgs false
set_option maxRecDepth 100000
namespace Go.Proofs.YtjcolfogmmjaoaaGreatDoor.A
open V
mutual
theorem DRep.cells {M : Nat → Prop} {w w' : World} (hc : ∀ b, w'.cell? b = w.cell? b) (hz : w.heap.size ≤ w'.heap.size) : ∀ {d : Dat} {x : Value}, DRep M w d x → DRep M w' d x
  | .v u, x, h => by unfold DRep at h ⊢; exact h
  | .sl k es, x, h => by
    unfold DRep at h ⊢
    obtain ⟨A, c, e, h1, hk, hr⟩ := h
    refine ⟨A, c, e, h1, hk, fun hn => ?_⟩
    obtain ⟨ad, ha, hM, hlt, hL⟩ := hr hn
    exact ⟨ad, ha, hM, Nat.lt_of_lt_of_le hlt hz, SRep.cells hc hz hL⟩
  | .ifc t ag ds, x, h => by
    unfold DRep at h ⊢
    obtain ⟨u, e, h1, h2, h3⟩ := h
    exact ⟨u, e, h1, h2, VRep.cells hc hz h3⟩
  | .p ds, x, h => by
    unfold DRep at h ⊢
    obtain ⟨ad, e, hM, hlt, hL⟩ := h
    exact ⟨ad, e, hM, Nat.lt_of_lt_of_le hlt hz, LRep.cells hc hz hL⟩
theorem LRep.cells {M : Nat → Prop} {w w' : World} (hc : ∀ b, w'.cell? b = w.cell? b) (hz : w.heap.size ≤ w'.heap.size) : ∀ {ds : List Dat} {ad : Addr} {i : Nat}, LRep M w ds ad i → LRep M w' ds ad i
  | [], _, _, _ => by unfold LRep; trivial
  | d :: ds, ad, i, h => by
    unfold LRep at h ⊢
    obtain ⟨⟨x, h1, hx⟩, h2⟩ := h
    exact ⟨⟨x, by rw [hc]; exact h1, DRep.cells hc hz hx⟩, LRep.cells hc hz h2⟩
theorem SRep.cells {M : Nat → Prop} {w w' : World} (hc : ∀ b, w'.cell? b = w.cell? b) (hz : w.heap.size ≤ w'.heap.size) : ∀ {es : List (List Dat)} {ad : Addr} {i : Nat}, SRep M w es ad i → SRep M w' es ad i
  | [], _, _, _ => by unfold SRep; trivial
  | e :: es, ad, i, h => by
    unfold SRep at h ⊢
    exact ⟨LRep.cells hc hz h.1, SRep.cells hc hz h.2⟩
theorem VRep.cells {M : Nat → Prop} {w w' : World} (hc : ∀ b, w'.cell? b = w.cell? b) (hz : w.heap.size ≤ w'.heap.size) : ∀ {ds : List Dat} {xs : List Value}, VRep M w ds xs → VRep M w' ds xs
  | [], xs, h => by unfold VRep at h ⊢; exact h
  | d :: ds, xs, h => by
    unfold VRep at h ⊢
    obtain ⟨x, r, e, hx, h2⟩ := h
    exact ⟨x, r, e, DRep.cells hc hz hx, VRep.cells hc hz h2⟩
end
section
variable {P : Program} {L : List TD} {n : Nat} {Q : Exit → Act → World → Prop} {c : Ctx}
variable {s : AMS} {f f' : AEnv} {σ σ' : Store} {κ : List Kt} {all : Array Oper} {dec : List Nat} {rest : List (Oper × Bool)} {m : Mode} {o : Oper} {al : Bool} {ob : Obs}
theorem a_mark (hT : TOk P L) {src e : TypeId} {x : Operand} {v v' : Value} {k h0 : Nat} {es : List (List Dat)} (h : machA L n fuel s f σ [] = ⟨.op m κ all dec o true rest, f', σ', ob⟩) (hob : ob.map (·.1) = ob.map (·.2)) (ho : o.op = .convert src src x) (hs : tl L src = .sl e k) (he : tl L e = .int .u8)
    (hx : evA n f' x = .row v h0) (hl : look σ' h0 = some (.row v' e k es)) (hvv : v = v') (hne : es ≠ []) (hk : DenA c P n Q (.ops (m.hap true) κ all dec rest) (putA f' o.dst (.d (.sl k es))) (del σ' h0)) : DenA c P n Q s f σ := by
  subst hvv
  refine a_eff hT (fun a σ1 => a = .d (.sl k es) ∧ σ1 = del σ' h0) h hob (fun Y Su w fc hd hY hh henv => ?_) (fun a σ1 ⟨ha, hs⟩ => by subst ha; subst hs; exact hk)
  obtain ⟨S1, S2, hS, hdis, hc, hrest⟩ := hh.take hl
  have hfr := row_frozen hc hS hdis hd
  obtain ⟨hS1, hkl, xs, hown, hv⟩ := hc
  have hxv := henv.eval (n := n) x
  rw [hx] at hxv
  unfold Rep at hxv
  rcases hown.2 with ⟨rfl, h2⟩ | ⟨g, cap, cur, rfl, _⟩
  · exact absurd (List.eq_nil_of_length_eq_zero h2) hne
  have h1 := (sl_tl hT hs).1
  have h2 := int_tl hT he
  have hrun : ∃ w', (convert src src (.slice (some ⟨g, 0, none⟩) es.length cap)).run P w = .ok (.slice (some ⟨g, 0, none⟩) es.length cap) w' ∧ Ev (at1 g) w w' ∧ ∀ b, w'.cell? b = w.cell? b := by
    unfold convert
    simp only [Sem.run_bind, run_underlying h1, Result.andThen_ok, run_underlying h2, beq_self_eq_true, markStringish, run_shape]
    cases hsh : w.shape? g with
    | none => exact ⟨w, by simp, Ev.refl _ _, fun _ => rfl⟩
    | some p =>
      obtain ⟨t, q⟩ := p
      exact ⟨_, by simp only [Sem.run_bind, run_freeze, Result.andThen_ok, Sem.run_pure], Ev.freeze w ⟨g, q, none⟩ 1, cell_freeze w _ _⟩
  obtain ⟨w', hrun, hev, hcl⟩ := hrun
  have hrun' : (execOp (ev n fc) o).run P w = .ok (.value (.slice (some ⟨g, 0, none⟩) es.length cap)) w' := by
    unfold execOp
    simp only [ho, Sem.run_bind, Sem.run_pure, hxv.1, hrun, Result.andThen_ok]
  rw [hrun']
  have hg : S1 g := (hS1 g).2 rfl
  refine ⟨_, _, S2, ⟨rfl, rfl⟩, ?_, hrest.ev hev (fun b _ h => ?_) (fun b hb h => ?_), hev.mono fun b _ h => ?_, fun b hb => .inl ((hS b).2 (.inr hb))⟩
  · unfold Rep
    exact DRep.cells hcl hev.size hfr
  · rcases h with h | h | h
    · unfold at1 at h; subst h; exact .inl ((hS b).2 (.inl hg))
    · exact .inl ((hS b).2 (.inr h))
    · exact .inr h
  · unfold at1 at h; subst h; exact hdis b hg hb
  · unfold at1 at h; subst h; exact (hS b).2 (.inl hg)
end
end Go.Proofs.YtjcolfogmmjaoaaGreatDoor.A
end
