import Derived.Test.YtjcolfogmmjaoaaGreatDoorQEncodeNormal11
import Derived.Test.YtjcolfogmmjaoaaGreatDoorQEncodeNormal10
section
/- Layer 11, plainly: what bytes are decoded as; what was encoded is decoded as itself. -/
set_option linter.unusedVariables false
set_option linter.unusedSimpArgs false
set_option maxRecDepth 100000
set_option maxHeartbeats 1000000
namespace Go.Proofs.YtjcolfogmmjaoaaGreatDoor
open V A
abbrev RM := Except Int VL
def ownG (f : FDP) (l : List FW) : List FW := if f.rep || l.isEmpty then l else if f.kind = 10 then [⟨(l.getLast?.getD fw0).num, (l.getLast?.getD fw0).typ, (l.getLast?.getD fw0).n, l.flatMap (·.data)⟩] else [l.getLast?.getD fw0]
def valuesG (rec : Int → List UInt8 → RM) (f : FDP) (x : FW) : Except Int (List VL) :=
  if f.kind = 10 then (match rec f.ty x.data with | .error e => .error e | .ok v => .ok [v]) else if f.kind = 5 then (if Lib.validD x.data then .ok [.text (mkS x.data)] else .error 13) else if f.kind = 6 then .ok [.bytes (mkS x.data)] else match valuesP f x with | none => .error 2 | some l => .ok l
def valsG (rec : Int → List UInt8 → RM) (f : FDP) : List FW → Except Int (List VL)
  | [] => .ok []
  | x :: l => match valuesG rec f x with
    | .error e => .error e
    | .ok a => match valsG rec f l with
      | .error e => .error e
      | .ok b => .ok (a ++ b)
def fldsG (rec : Int → List UInt8 → RM) (kn : Int → List FW) : List FDP → Except Int (List VF)
  | [] => .ok []
  | f :: fs => match valsG rec f (ownG f (kn f.num)) with
    | .error e => .error e
    | .ok l => match fldsG rec kn fs with
      | .error e => .error e
      | .ok r => .ok (if keepP f l then .mk f.num l :: r else r)
def decM (s : SchP) : Nat → Int → List UInt8 → RM
  | 0, _, _ => .error 8
  | n + 1, t, bs => match splitW bs with
    | none => .error 2
    | some ws => match fldsG (decM s n) (knP (dAt s t) ws) (dAt s t).fs with
      | .error e => .error e
      | .ok fs => .ok (.msg t fs (mkS (unkP (dAt s t) ws)))
def decTop (s : SchP) (t : Int) (bs : List UInt8) : RM := if (!formedP s || (decide (t < 0) || decide (t ≥ s.ms.length))) = true then .error 1 else if bs.length > 4096 then .error 4 else decM s 16 t bs
/- Fields that are written. -/
def entF (s : SchP) (d : MDP) : VF → List FW
  | .mk num vs => if (fAt d num).rep && packedK (fAt d num).kind then [⟨(fAt d num).num.toNat, 2, 0, packVs s (fAt d num) vs⟩] else vs.map fun v => mkW (fAt d num) v (encM s v)
theorem entF_mk (s : SchP) (d : MDP) (num : Int) (vs : List VL) : entF s d (.mk num vs) = if (fAt d num).rep && packedK (fAt d num).kind then [⟨(fAt d num).num.toNat, 2, 0, packVs s (fAt d num) vs⟩] else vs.map fun v => mkW (fAt d num) v (encM s v) := rfl
theorem encVs_ent (s : SchP) (f : FDP) : ∀ vs : List VL, encVs s f vs = (vs.map fun v => mkW f v (encM s v)).flatMap appW
  | [] => by unfold encVs; rfl
  | v :: vs => by rw [encVs_cons, encVs_ent s f vs]; rfl
theorem encF_ent (s : SchP) (d : MDP) : ∀ f : VF, encF s d f = (entF s d f).flatMap appW
  | .mk num vs => by
    have e : entF s d (.mk num vs) = if (fAt d num).rep && packedK (fAt d num).kind then [⟨(fAt d num).num.toNat, 2, 0, packVs s (fAt d num) vs⟩] else vs.map fun v => mkW (fAt d num) v (encM s v) := rfl
    rw [encF_mk, e]
    split
    · rw [List.flatMap_cons, List.flatMap_nil, List.append_nil]
    · exact encVs_ent s _ vs
theorem encFs_ent (s : SchP) (d : MDP) : ∀ fs : List VF, encFs s d fs = (fs.flatMap (entF s d)).flatMap appW
  | [] => by unfold encFs; rfl
  | f :: fs => by rw [encFs_cons, encF_ent, encFs_ent s d fs, List.flatMap_cons, List.flatMap_append]
/-- The bytes of fields, one behind the other, are what was taken apart. -/
theorem splitW_cat : ∀ (k : Nat) (bs : List UInt8) (ws : List (FW × List UInt8)), bs.length ≤ k → splitW bs = some ws → ws.flatMap (·.2) = bs := by
  intro k
  induction k with
  | zero =>
    intro bs ws hl h
    have : bs = [] := List.eq_nil_of_length_eq_zero (by omega)
    subst this
    cases h
    rfl
  | succ k ih =>
    intro bs ws hl h
    by_cases hb : bs = []
    · subst hb; cases h; rfl
    · rw [splitW_cons hb] at h
      have ho := takeFP_ok bs
      generalize takeFP bs = r at h ho
      obtain ⟨f, p, e⟩ := r
      dsimp only at h ho
      split at h
      · cases h
      · rename_i he
        have ho := ho (by omega)
        cases hs : splitW (bs.drop p) with
        | none => rw [hs] at h; cases h
        | some L =>
          rw [hs] at h
          cases h
          have hdl : (bs.drop p).length = bs.length - p := List.length_drop
          have := ih (bs.drop p) L (by omega) hs
          rw [List.flatMap_cons, this]
          exact List.take_append_drop p bs
theorem mkS_data (u : ByteArray) : mkS u.data.toList = u := by
  unfold mkS
  cases u
  simp
theorem data_mkS (l : List UInt8) : (mkS l).data.toList = l := by unfold mkS; simp
/- Numbers. -/
theorem u64_of {n : Int} (h : U64 n) : u64 n = n.toNat := by
  unfold U64 at h
  unfold u64
  rw [Int.emod_eq_of_lt h.1 h.2]
theorem u64_lt (n : Int) : u64 n < 18446744073709551616 := by
  unfold u64
  have := Int.emod_nonneg n (b := 18446744073709551616) (by decide)
  have := Int.emod_lt_of_pos n (b := 18446744073709551616) (by decide)
  omega
theorem wrap_u64 {n : Int} (h : I64 n) : IntKind.i64.wrap (u64 n : Int) = n := by
  unfold I64 at h
  unfold u64
  rw [Int.toNat_of_nonneg (Int.emod_nonneg n (by decide))]
  unfold IntKind.wrap
  simp [IntKind.bits, IntKind.signed]
  split <;> omega
theorem zig_lt {n : Int} (h : I64 n) : (zigP n).toNat < 18446744073709551616 := by
  unfold I64 at h
  unfold zigP
  split <;> omega
theorem zag_eq (n : Nat) (h : n < 18446744073709551616) : zagP n = if n % 2 = 0 then ((n / 2 : Nat) : Int) else -((n / 2 : Nat) : Int) - 1 := by
  have h1 : Int.fdiv (n : Int) (2 ^ min (Int.toNat 1) (IntKind.bits IntKind.u64)) = ((n / 2 : Nat) : Int) := by
    rw [show (2 : Int) ^ min (Int.toNat 1) (IntKind.bits IntKind.u64) = 2 from rfl, Int.fdiv_eq_ediv_of_nonneg _ (by decide)]
    omega
  have h2 : IntKind.wrap IntKind.i64 ((n / 2 : Nat) : Int) = ((n / 2 : Nat) : Int) := wrapI (by omega)
  have h3 : (BitVec.toNat (BitVec.ofInt (IntKind.bits IntKind.u64) (n : Int) &&& BitVec.ofInt (IntKind.bits IntKind.u64) 1)) = n % 2 := by
    show BitVec.toNat (BitVec.ofInt 64 (n : Int) &&& BitVec.ofInt 64 ((1 : Nat) : Int)) = _
    rw [BitVec.toNat_and, bv_nat, bv_nat, Nat.mod_eq_of_lt (by omega : n < 2 ^ 64)]
    show n &&& 1 = n % 2
    exact Nat.and_one_is_mod n
  have h4 : IntKind.wrap IntKind.i64 (IntKind.wrap IntKind.u64 ((n % 2 : Nat) : Int)) = ((n % 2 : Nat) : Int) := by
    rw [wrapN64 (by omega)]
    exact wrapI (by omega)
  unfold zagP
  rw [h1, h2, h3, h4]
  have hm : n % 2 = 0 ∨ n % 2 = 1 := by omega
  rcases hm with hm | hm
  · rw [hm, if_pos rfl]
    have e : BitVec.toNat (BitVec.ofInt (IntKind.bits IntKind.i64) ((n / 2 : Nat) : Int) ^^^ BitVec.ofInt (IntKind.bits IntKind.i64) (IntKind.wrap IntKind.i64 (0 - ((0 : Nat) : Int)))) = n / 2 := by
      show BitVec.toNat (BitVec.ofInt 64 ((n / 2 : Nat) : Int) ^^^ BitVec.ofInt 64 (IntKind.wrap IntKind.i64 0)) = _
      rw [show BitVec.ofInt 64 (IntKind.wrap IntKind.i64 0) = 0#64 by decide, BitVec.xor_zero, bv_nat]
      exact Nat.mod_eq_of_lt (by omega)
    rw [e]
    exact wrapI (by omega)
  · rw [hm, if_neg (by decide)]
    have e : BitVec.toNat (BitVec.ofInt (IntKind.bits IntKind.i64) ((n / 2 : Nat) : Int) ^^^ BitVec.ofInt (IntKind.bits IntKind.i64) (IntKind.wrap IntKind.i64 (0 - ((1 : Nat) : Int)))) = 18446744073709551615 - n / 2 := by
      show BitVec.toNat (BitVec.ofInt 64 ((n / 2 : Nat) : Int) ^^^ BitVec.ofInt 64 (IntKind.wrap IntKind.i64 (0 - ((1 : Nat) : Int)))) = _
      rw [show BitVec.ofInt 64 (IntKind.wrap IntKind.i64 (0 - ((1 : Nat) : Int))) = BitVec.allOnes 64 by decide, BitVec.xor_allOnes, BitVec.toNat_not, bv_nat, Nat.mod_eq_of_lt (by omega : n / 2 < 2 ^ 64)]
    rw [e]
    have hq : n / 2 ≤ 9223372036854775807 := by omega
    generalize n / 2 = q at hq
    unfold IntKind.wrap
    simp [IntKind.bits, IntKind.signed]
    split <;> omega
theorem zag_zig {n : Int} (h : I64 n) : zagP (zigP n).toNat = n := by
  rw [zag_eq _ (zig_lt h)]
  unfold zigP
  split <;> split <;> omega
theorem wrap_enum {n : Int} (h1 : -2147483648 ≤ n) (h2 : n < 2147483648) : IntKind.i32.wrap (IntKind.u32.wrap (u64 n : Int)) = n := by
  unfold u64
  rw [Int.toNat_of_nonneg (Int.emod_nonneg n (by decide))]
  unfold IntKind.wrap
  simp [IntKind.bits, IntKind.signed]
  split <;> omega
theorem numW_lt {k : Int} {v : VL} (hv : WfV v) : numW k v < 18446744073709551616 := by
  cases hv with
  | int n h =>
    show (if k = 3 then (zigP _).toNat else u64 _) < _
    split
    · exact zig_lt h
    · exact u64_lt _
  | uint u h => unfold U64 at h; show Int.toNat _ < _; omega
  | bool b => show (if b then 1 else 0) < _; cases b <;> simp
  | enum n _ _ => exact u64_lt _
  | none => show 0 < _; decide
  | text s _ => show 0 < _; decide
  | bytes s _ => show 0 < _; decide
  | msg => show 0 < _; decide
/-- One number, there and back. -/
theorem num_back {f : FDP} {v : VL} {r : Bool} (hv : WfV v) (h : oneK f r v = true) (hp : packedK f.kind = true) : numP f.kind (numW f.kind v) = v := by
  have hk : wireK f.kind ≠ 2 := of_decide_eq_true hp
  cases hv with
  | none => cases h
  | int n hn =>
    have := of_decide_eq_true (show decide (f.kind = 1 ∨ f.kind = 3) = true from h)
    rcases this with e | e
    · rw [e]; show VL.int (IntKind.i64.wrap (u64 n : Int)) = _; rw [wrap_u64 hn]
    · rw [e]; show VL.int (zagP (zigP n).toNat) = _; rw [zag_zig hn]
  | uint u hu =>
    have := of_decide_eq_true (show decide (f.kind = 2 ∨ f.kind = 8 ∨ (f.kind = 7 ∧ u ≤ 4294967295)) = true from h)
    unfold U64 at hu
    rcases this with e | e | ⟨e, _⟩ <;> rw [e] <;> show VL.uint ((u.toNat : Nat) : Int) = _ <;> rw [Int.toNat_of_nonneg hu.1]
  | bool b =>
    have e := of_decide_eq_true (show decide (f.kind = 4) = true from h)
    rw [e]; cases b <;> rfl
  | enum n h1 h2 =>
    have e := of_decide_eq_true (show decide (f.kind = 9) = true from h)
    rw [e]; show VL.enum (IntKind.i32.wrap (IntKind.u32.wrap (u64 n : Int))) = _; rw [wrap_enum h1 h2]
  | text t ht =>
    rw [show oneK f r (.text t) = (decide (f.kind = 5) && validB t) from rfl, Bool.and_eq_true] at h
    have e := of_decide_eq_true h.1
    rw [e] at hk; exact absurd rfl hk
  | bytes t ht =>
    have e := of_decide_eq_true (show decide (f.kind = 6) = true from h)
    rw [e] at hk; exact absurd rfl hk
  | msg =>
    rw [show ∀ a b c, oneK f r (.msg a b c) = (decide (f.kind = 10) && r) from fun _ _ _ => rfl, Bool.and_eq_true] at h
    have e := of_decide_eq_true h.1
    rw [e] at hk; exact absurd rfl hk
theorem num32 {f : FDP} {v : VL} {r : Bool} (hv : WfV v) (h : oneK f r v = true) (hk : wireK f.kind = 5) : numW f.kind v ≤ 4294967295 := by
  have h7 : f.kind = 7 := by
    unfold wireK at hk
    split at hk
    · assumption
    · split at hk
      · cases hk
      · split at hk <;> cases hk
  cases hv with
  | none => cases h
  | uint u hu =>
    have := of_decide_eq_true (show decide (f.kind = 2 ∨ f.kind = 8 ∨ (f.kind = 7 ∧ u ≤ 4294967295)) = true from h)
    unfold U64 at hu
    show u.toNat ≤ _
    omega
  | int n hn =>
    have := of_decide_eq_true (show decide (f.kind = 1 ∨ f.kind = 3) = true from h)
    omega
  | bool b => show (if b then 1 else 0) ≤ _; cases b <;> decide
  | enum n h1 h2 =>
    have e := of_decide_eq_true (show decide (f.kind = 9) = true from h)
    omega
  | text t ht => exact Nat.zero_le _
  | bytes t ht => exact Nat.zero_le _
  | msg => exact Nat.zero_le _
theorem takeK_pack {k : Int} {x : FW} (hx : x.typ = (wireK k).toNat) (hp : packedK k = true) (hn : x.n < 18446744073709551616) (h5 : wireK k = 5 → x.n ≤ 4294967295) (rest : List UInt8) : takeK (wireK k) (packW x ++ rest) = (x.n, (packW x).length, 0) := by
  have hk : wireK k ≠ 2 := of_decide_eq_true hp
  have hc : wireK k = 0 ∨ wireK k = 1 ∨ wireK k = 5 := by
    unfold wireK at hk ⊢
    split
    · exact .inr (.inr rfl)
    · split
      · exact .inr (.inl rfl)
      · split
        · rename_i h1 h2 h3
          rw [if_neg h1, if_neg h2, if_pos h3] at hk
          exact absurd rfl hk
        · exact .inl rfl
  unfold takeK packW
  rw [hx]
  rcases hc with h | h | h
  · rw [h, if_pos rfl, if_neg (by decide), if_neg (by decide), takeP_var hn rest]
  · rw [h, if_neg (by decide), if_neg (by decide), if_neg (by decide), if_pos (by decide), take64_le hn rest]; rfl
  · rw [h, if_neg (by decide), if_pos rfl, if_pos (by decide), take32_le (by have := h5 h; omega) rest]; rfl
theorem packW_pos (x : FW) : 1 ≤ (packW x).length := by
  have := varP_pos x.n
  unfold packW
  split
  · exact (by decide : 1 ≤ 4)
  split
  · exact (by decide : 1 ≤ 8)
  · exact this
theorem up_pack {s : SchP} {f : FDP} {dep : Int} (hp : packedK f.kind = true) : ∀ (vs : List VL), (∀ v ∈ vs, WfV v) → fitsVs s f dep vs = true → upW f.kind (packVs s f vs) = some vs
  | [], _, _ => by unfold packVs; rfl
  | v :: vs, hw, h => by
    rw [fitsVs_cons, Bool.and_eq_true] at h
    have hv := hw v (by simp)
    have hq := packW_pos (mkW f v (encM s v))
    rw [packVs_cons, upW_cons (fun e => by have h9 := congrArg List.length e; rw [List.length_append] at h9; have : ([] : List UInt8).length = 0 := rfl; omega)]
    rw [takeK_pack (x := mkW f v (encM s v)) rfl hp (numW_lt hv) (fun h5 => num32 hv h.1 h5), if_neg (by simp)]
    dsimp only
    rw [List.drop_left, up_pack hp vs (fun x hx => hw x (by simp [hx])) h.2]
    show some (numP f.kind (numW f.kind v) :: vs) = _
    rw [num_back hv h.1 hp]
end Go.Proofs.YtjcolfogmmjaoaaGreatDoor
end

section
/- Layer 11, plainly: what was encoded is decoded as its normal value. -/
set_option linter.unusedVariables false
set_option linter.unusedSimpArgs false
set_option maxRecDepth 100000
set_option maxHeartbeats 1000000
namespace Go.Proofs.YtjcolfogmmjaoaaGreatDoor
open V A
theorem wireK_rng (k : Int) : 0 ≤ wireK k ∧ wireK k ≤ 5 := by
  unfold wireK
  repeat' split
  all_goals omega
theorem formed_mk {f : FDP} {v : VL} {r : Bool} {m : List UInt8} (hv : WfV v) (h : oneK f r v = true) (hr : 1 ≤ f.num ∧ f.num ≤ 536870911) : formedW (mkW f v m) = true := by
  have h32 := fun hk => num32 hv h hk
  obtain ⟨num, name, kind, rep, ty⟩ := f
  dsimp only at hr h32
  have hn : 1 ≤ num.toNat ∧ num.toNat ≤ 536870911 := by omega
  cases hv with
  | none => cases h
  | int n hn' =>
    have := of_decide_eq_true (show decide (kind = 1 ∨ kind = 3) = true from h)
    rcases this with rfl | rfl <;> simp [formedW, mkW, wireK, dataW, hn]
  | uint u hu =>
    have := of_decide_eq_true (show decide (kind = 2 ∨ kind = 8 ∨ (kind = 7 ∧ u ≤ 4294967295)) = true from h)
    rcases this with rfl | rfl | ⟨rfl, h7⟩
    · simp [formedW, mkW, wireK, dataW, hn]
    · simp [formedW, mkW, wireK, dataW, hn]
    · have := h32 rfl
      simp [formedW, mkW, wireK, dataW, hn]
      exact this
  | bool b =>
    have e := of_decide_eq_true (show decide (kind = 4) = true from h)
    subst e
    simp [formedW, mkW, wireK, dataW, hn]
  | enum n h1 h2 =>
    have e := of_decide_eq_true (show decide (kind = 9) = true from h)
    subst e
    simp [formedW, mkW, wireK, dataW, hn]
  | text t ht =>
    rw [show oneK ⟨num, name, kind, rep, ty⟩ r (.text t) = (decide (kind = 5) && validB t) from rfl, Bool.and_eq_true] at h
    have e := of_decide_eq_true h.1
    subst e
    simp [formedW, mkW, wireK, dataW, numW, hn]
  | bytes t ht =>
    have e := of_decide_eq_true (show decide (kind = 6) = true from h)
    subst e
    simp [formedW, mkW, wireK, dataW, numW, hn]
  | msg =>
    rw [show ∀ a b c, oneK ⟨num, name, kind, rep, ty⟩ r (.msg a b c) = (decide (kind = 10) && r) from fun _ _ _ => rfl, Bool.and_eq_true] at h
    have e := of_decide_eq_true h.1
    subst e
    simp [formedW, mkW, wireK, dataW, numW, hn]
theorem ent_num {s : SchP} {d : MDP} {num : Int} {vs : List VL} {f : FDP} (hf : findF d.fs num = some f) (hn : 0 ≤ num) : ∀ x ∈ entF s d (.mk num vs), (x.num : Int) = num := by
  have hfn := (findF_num hf).1
  have hat : fAt d num = f := by unfold fAt; rw [hf]; rfl
  intro x hx
  rw [entF_mk, hat] at hx
  split at hx
  · simp at hx
    subst hx
    show ((f.num.toNat : Nat) : Int) = num
    omega
  · obtain ⟨v, _, rfl⟩ := List.mem_map.1 hx
    show ((f.num.toNat : Nat) : Int) = num
    omega
theorem ent_ok {s : SchP} {d : MDP} {dep num : Int} {vs : List VL} {f : FDP} (hd : FsOk d.fs) (hf : findF d.fs num = some f) (hv : fitsVs s f dep vs = true) (hw : ∀ v ∈ vs, WfV v) (ht : wtVs vs ≤ 1000000000) : ∀ x ∈ entF s d (.mk num vs), (formedW x = true ∧ x.n < 18446744073709551616 ∧ x.data.length < 18446744073709551616) ∧ knownP d x.num x.typ = true := by
  have hfn := findF_num hf
  have hr := hd.rng f hfn.2
  have hat : fAt d num = f := by unfold fAt; rw [hf]; rfl
  have hkn : ∀ typ : Int, knownP d ((f.num.toNat : Nat) : Int) typ = (decide (typ = wireK f.kind) || (f.rep && (packedK f.kind && decide (typ = 2)))) := by
    intro typ
    unfold knownP
    rw [show ((f.num.toNat : Nat) : Int) = num by omega]
    show (match findF d.fs num with | none => false | some f => _) = _
    rw [hf]
  intro x hx
  rw [entF_mk, hat] at hx
  split at hx
  · rename_i hc
    rw [Bool.and_eq_true] at hc
    simp at hx
    subst hx
    have h1 := packVs_len s f vs
    refine ⟨⟨?_, by show 0 < _; omega, by show (packVs s f vs).length < _; omega⟩, ?_⟩
    · have : 1 ≤ f.num.toNat ∧ f.num.toNat ≤ 536870911 := by omega
      simp [formedW, this]
    · show knownP d ((f.num.toNat : Nat) : Int) ((2 : Nat) : Int) = true
      rw [hkn, hc.1, hc.2]
      simp
  · obtain ⟨v, hm, rfl⟩ := List.mem_map.1 hx
    have h1 := encM_len s v
    have h2 := wtVs_mem hm
    refine ⟨⟨formed_mk (hw v hm) (fitsVs_mem hv v hm) hr, numW_lt (hw v hm), by show (dataW (encM s v) v).length < _; omega⟩, ?_⟩
    show knownP d ((f.num.toNat : Nat) : Int) (((wireK f.kind).toNat : Nat) : Int) = true
    have := wireK_rng f.kind
    rw [hkn, Int.toNat_of_nonneg this.1]
    simp
/-- One value, there and back. -/
theorem one_back {s : SchP} {rec : Int → List UInt8 → RM} {f : FDP} {v : VL} {r : Bool} (hv : WfV v) (h : oneK f r v = true) (hrec : f.kind = 10 → rec f.ty (encM s v) = .ok v) : valuesG rec f (mkW f v (encM s v)) = .ok [v] := by
  have hnb := fun hp => num_back hv h hp
  unfold valuesG
  by_cases h10 : f.kind = 10
  · rw [if_pos h10]
    have hdat : (mkW f v (encM s v)).data = encM s v := by
      cases hv with
      | msg => rfl
      | none => cases h
      | int n _ => have := of_decide_eq_true (show decide (f.kind = 1 ∨ f.kind = 3) = true from h); omega
      | uint u _ => have := of_decide_eq_true (show decide (f.kind = 2 ∨ f.kind = 8 ∨ (f.kind = 7 ∧ u ≤ 4294967295)) = true from h); omega
      | bool b => have := of_decide_eq_true (show decide (f.kind = 4) = true from h); omega
      | enum n _ _ => have := of_decide_eq_true (show decide (f.kind = 9) = true from h); omega
      | text t _ =>
        rw [show oneK f r (.text t) = (decide (f.kind = 5) && validB t) from rfl, Bool.and_eq_true] at h
        have := of_decide_eq_true h.1; omega
      | bytes t _ => have := of_decide_eq_true (show decide (f.kind = 6) = true from h); omega
    rw [hdat, hrec h10]
  rw [if_neg h10]
  by_cases h5 : f.kind = 5
  · rw [if_pos h5]
    cases hv with
    | text t _ =>
      rw [show oneK f r (.text t) = (decide (f.kind = 5) && validB t) from rfl, Bool.and_eq_true] at h
      have h2 : Lib.validD t.data.toList = true := h.2
      show (if Lib.validD t.data.toList then _ else _) = _
      rw [if_pos h2]
      show Except.ok [VL.text (mkS t.data.toList)] = _
      rw [mkS_data]
    | msg =>
      rw [show ∀ a b c, oneK f r (.msg a b c) = (decide (f.kind = 10) && r) from fun _ _ _ => rfl, Bool.and_eq_true] at h
      exact absurd (of_decide_eq_true h.1) h10
    | none => cases h
    | int n _ => have := of_decide_eq_true (show decide (f.kind = 1 ∨ f.kind = 3) = true from h); omega
    | uint u _ => have := of_decide_eq_true (show decide (f.kind = 2 ∨ f.kind = 8 ∨ (f.kind = 7 ∧ u ≤ 4294967295)) = true from h); omega
    | bool b => have := of_decide_eq_true (show decide (f.kind = 4) = true from h); omega
    | enum n _ _ => have := of_decide_eq_true (show decide (f.kind = 9) = true from h); omega
    | bytes t _ => have := of_decide_eq_true (show decide (f.kind = 6) = true from h); omega
  rw [if_neg h5]
  by_cases h6 : f.kind = 6
  · rw [if_pos h6]
    cases hv with
    | bytes t _ =>
      show Except.ok [VL.bytes (mkS t.data.toList)] = _
      rw [mkS_data]
    | text t _ =>
      rw [show oneK f r (.text t) = (decide (f.kind = 5) && validB t) from rfl, Bool.and_eq_true] at h
      exact absurd (of_decide_eq_true h.1) h5
    | msg =>
      rw [show ∀ a b c, oneK f r (.msg a b c) = (decide (f.kind = 10) && r) from fun _ _ _ => rfl, Bool.and_eq_true] at h
      exact absurd (of_decide_eq_true h.1) h10
    | none => cases h
    | int n _ => have := of_decide_eq_true (show decide (f.kind = 1 ∨ f.kind = 3) = true from h); omega
    | uint u _ => have := of_decide_eq_true (show decide (f.kind = 2 ∨ f.kind = 8 ∨ (f.kind = 7 ∧ u ≤ 4294967295)) = true from h); omega
    | bool b => have := of_decide_eq_true (show decide (f.kind = 4) = true from h); omega
    | enum n _ _ => have := of_decide_eq_true (show decide (f.kind = 9) = true from h); omega
  rw [if_neg h6]
  have hp : wireK f.kind ≠ 2 := by
    unfold wireK
    split
    · decide
    split
    · decide
    rw [if_neg (by omega)]
    decide
  have ht : ¬ (mkW f v (encM s v)).typ = 2 := by
    have := wireK_rng f.kind
    show ¬ (wireK f.kind).toNat = 2
    omega
  unfold valuesP
  rw [if_neg ht]
  show Except.ok [numP f.kind (numW f.kind v)] = _
  rw [hnb (decide_eq_true hp)]
theorem vals_back {s : SchP} {rec : Int → List UInt8 → RM} {f : FDP} {dep : Int} : ∀ (vs : List VL), (∀ v ∈ vs, WfV v) → fitsVs s f dep vs = true → (f.kind = 10 → ∀ v ∈ vs, rec f.ty (encM s v) = .ok v) → valsG rec f (vs.map fun v => mkW f v (encM s v)) = .ok vs
  | [], _, _, _ => rfl
  | v :: vs, hw, h, hr => by
    rw [fitsVs_cons, Bool.and_eq_true] at h
    rw [List.map_cons]
    unfold valsG
    rw [one_back (hw v (by simp)) h.1 (fun hk => hr hk v (by simp)), vals_back vs (fun x hx => hw x (by simp [hx])) h.2 (fun hk x hx => hr hk x (by simp [hx]))]
    rfl
theorem ent_back {s : SchP} {rec : Int → List UInt8 → RM} {d : MDP} {f : FDP} {dep num : Int} {vs : List VL} (hf : findF d.fs num = some f) (hne : vs ≠ []) (hl : f.rep = true ∨ vs.length ≤ 1) (hw : ∀ v ∈ vs, WfV v) (h : fitsVs s f dep vs = true) (hr : f.kind = 10 → ∀ v ∈ vs, rec f.ty (encM s v) = .ok v) : valsG rec f (ownG f (entF s d (.mk num vs))) = .ok vs := by
  have hat : fAt d num = f := by unfold fAt; rw [hf]; rfl
  rw [entF_mk, hat]
  split
  · rename_i hc
    rw [Bool.and_eq_true] at hc
    have hk : wireK f.kind ≠ 2 := of_decide_eq_true hc.2
    have hk10 : f.kind ≠ 10 := fun e => hk (by rw [e]; rfl)
    have hk5 : f.kind ≠ 5 := fun e => hk (by rw [e]; rfl)
    have hk6 : f.kind ≠ 6 := fun e => hk (by rw [e]; rfl)
    unfold ownG
    rw [hc.1]
    show valsG rec f [_] = _
    unfold valsG valuesG
    rw [if_neg hk10, if_neg hk5, if_neg hk6]
    unfold valuesP
    rw [if_pos rfl, up_pack hc.2 vs hw h]
    show Except.ok (vs ++ []) = _
    rw [List.append_nil]
  · have hv := vals_back vs hw h hr
    cases hrep : f.rep with
    | true =>
      unfold ownG
      rw [hrep]
      exact hv
    | false =>
      have h1 : vs.length ≤ 1 := by
        rcases hl with h | h
        · rw [hrep] at h; cases h
        · exact h
      match vs, hne, h1 with
      | [v], _, _ =>
        have e : ownG f [mkW f v (encM s v)] = [mkW f v (encM s v)] := by
          unfold ownG
          rw [hrep]
          show (if f.kind = 10 then _ else _) = _
          split
          · show [FW.mk _ _ _ ((mkW f v (encM s v)).data ++ [])] = _
            rw [List.append_nil]
            rfl
          · rfl
        show valsG rec f (ownG f [mkW f v (encM s v)]) = _
        rw [e]
        exact hv
/-- All fields, there and back. -/
theorem flds_back {s : SchP} {d : MDP} {dep : Int} {rec : Int → List UInt8 → RM} {kn : Int → List FW} : ∀ (dfs : List FDP) (fs : List VF) (last : Int), dfs.Pairwise (fun f g => f.num < g.num) → fitsFs s d dep fs last = true →
    (∀ num vs, VF.mk num vs ∈ fs → ∃ f ∈ dfs, f.num = num ∧ findF d.fs num = some f) →
    (∀ num vs, VF.mk num vs ∈ fs → ∀ f, findF d.fs num = some f → valsG rec f (ownG f (kn num)) = .ok vs ∧ keepP f vs = true) →
    (∀ f ∈ dfs, (∀ vs, VF.mk f.num vs ∉ fs) → kn f.num = []) → fldsG rec kn dfs = .ok fs
  | [], fs, last, hp, hf, h1, h2, h3 => by
    cases fs with
    | nil => rfl
    | cons x fs =>
      obtain ⟨num, vs⟩ := x
      obtain ⟨f, hm, _⟩ := h1 num vs (by simp)
      simp at hm
  | f :: dfs, fs, last, hp, hf, h1, h2, h3 => by
    rw [List.pairwise_cons] at hp
    have hno : (∀ vs, VF.mk f.num vs ∉ fs) → fldsG rec kn (f :: dfs) = .ok fs := fun hn => by
      have hk := h3 f (by simp) hn
      have ih := flds_back dfs fs last hp.2 hf (fun num vs hm => by
        obtain ⟨g, hg, e1, e2⟩ := h1 num vs hm
        rcases List.mem_cons.1 hg with rfl | hg
        · subst e1; exact absurd hm (hn vs)
        · exact ⟨g, hg, e1, e2⟩) h2 (fun g hg => h3 g (by simp [hg]))
      unfold fldsG
      rw [hk]
      have e : ownG f [] = [] := by unfold ownG; simp
      rw [e, ih]
      rfl
    cases fs with
    | nil => exact hno (fun vs h => by simp at h)
    | cons x fs =>
      obtain ⟨num, vs⟩ := x
      have hup := fun n v hm => (fitsFs_mem (fitsFs_tl hf) n v hm).1
      by_cases hn : num = f.num
      · subst hn
        obtain ⟨g, hg, e1, e2⟩ := h1 f.num vs (by simp)
        have hgf : g = f := by
          rcases List.mem_cons.1 hg with rfl | hg
          · rfl
          · have := hp.1 g hg; omega
        subst hgf
        obtain ⟨k1, k2⟩ := h2 g.num vs (by simp) g e2
        have ih := flds_back dfs fs g.num hp.2 (fitsFs_tl hf) (fun n v hm => by
          obtain ⟨g', hg', e3, e4⟩ := h1 n v (by simp [hm])
          rcases List.mem_cons.1 hg' with rfl | hg'
          · have := hup n v hm; omega
          · exact ⟨g', hg', e3, e4⟩) (fun n v hm => h2 n v (by simp [hm])) (fun g' hg' hq => h3 g' (by simp [hg']) (fun v hm => by
            rcases List.mem_cons.1 hm with e | hm
            · have := hp.1 g' hg'
              injection e with e5 e6
              omega
            · exact hq v hm))
        unfold fldsG
        rw [k1, ih]
        dsimp only
        rw [k2]
        rfl
      · refine hno fun v hm => ?_
        rcases List.mem_cons.1 hm with e | hm
        · injection e with e5 e6
          exact hn e5.symm
        · have h6 := hup _ _ hm
          obtain ⟨g, hg, e1, e2⟩ := h1 num vs (by simp)
          rcases List.mem_cons.1 hg with rfl | hg
          · omega
          · have := hp.1 g hg; omega
theorem fs_pair {l : List FDP} (h : FsOk l) : l.Pairwise (fun f g => f.num < g.num) := by
  rw [List.pairwise_iff_getElem]
  intro i j hi hj hij
  exact h.ord i j _ _ hij (List.getElem?_eq_getElem hi) (List.getElem?_eq_getElem hj)
theorem kn_fs {s : SchP} {d : MDP} {dep : Int} : ∀ (fs : List VF) (last : Int), 0 ≤ last → fitsFs s d dep fs last = true → (∀ num vs, VF.mk num vs ∈ fs → (fs.flatMap (entF s d)).filter (fun x => decide ((x.num : Int) = num)) = entF s d (.mk num vs)) ∧ (∀ k, (∀ vs, VF.mk k vs ∉ fs) → (fs.flatMap (entF s d)).filter (fun x => decide ((x.num : Int) = k)) = [])
  | [], last, h0, h => ⟨fun num vs hm => by simp at hm, fun k _ => rfl⟩
  | .mk n' vs' :: fs, last, h0, h => by
    have hm0 := fitsFs_mem h n' vs' (by simp)
    obtain ⟨hl, f, hf, _⟩ := hm0
    have hup := fun n v hm => (fitsFs_mem (fitsFs_tl h) n v hm).1
    obtain ⟨i1, i2⟩ := kn_fs fs n' (by omega) (fitsFs_tl h)
    have hen := ent_num (s := s) (vs := vs') hf (by omega)
    refine ⟨fun num vs hm => ?_, fun k hk => ?_⟩
    · rw [List.flatMap_cons, List.filter_append]
      rcases List.mem_cons.1 hm with e | hm
      · cases e
        rw [List.filter_eq_self.2 (fun x hx => decide_eq_true (hen x hx)), i2 n' (fun vs hm => by have := hup _ _ hm; omega), List.append_nil]
      · have := hup _ _ hm
        rw [List.filter_eq_nil_iff.2 (fun x hx => by have := hen x hx; simp; omega), List.nil_append, i1 num vs hm]
    · rw [List.flatMap_cons, List.filter_append, List.filter_eq_nil_iff.2 (fun x hx => by
        have := hen x hx
        have : n' ≠ k := fun e => by subst e; exact hk vs' (by simp)
        simp; omega), List.nil_append, i2 k (fun vs hm => hk vs (by simp [hm]))]
theorem norm_fix {s : SchP} {d : MDP} : ∀ {fs : List VF}, normFs s d fs = fs → ∀ num vs, VF.mk num vs ∈ fs → normVs s vs = vs ∧ keepN (fAt d num).rep vs = true
  | [], _, num, vs, hm => by simp at hm
  | .mk n' vs' :: fs, h, num, vs, hm => by
    rw [normFs_cons, normF_mk] at h
    split at h
    · rename_i hk
      rw [List.cons_append, List.nil_append] at h
      injection h with h1 h2
      injection h1 with h3 h4
      rcases List.mem_cons.1 hm with e | hm
      · cases e
        rw [h4] at hk
        exact ⟨h4, hk⟩
      · exact norm_fix h2 num vs hm
    · rw [List.nil_append] at h
      have := normFs_len s d fs
      rw [h, List.length_cons] at this
      omega
theorem normVs_fix {s : SchP} : ∀ {vs : List VL}, normVs s vs = vs → ∀ v ∈ vs, normP s v = v
  | [], _, v, hv => by simp at hv
  | x :: vs, h, v, hv => by
    unfold normVs at h
    injection h with h1 h2
    rcases List.mem_cons.1 hv with rfl | hv
    · exact h1
    · exact normVs_fix h2 v hv
theorem dec_enc {s : SchP} (hs : SchOk s) : ∀ {w : VL}, WfV w → wtV w ≤ 1000000000 → normP s w = w → ∀ (n : Nat) (t : Int), n ≤ 16 → 0 ≤ t → fitsP s w t (17 - n) = true → decM s n t (encM s w) = .ok w := by
  intro w hw
  induction hw with
  | msg h1 h2 h3 h4 h5 ih =>
    rename_i ty fs u
    intro hwt hno n t hn ht hf
    rw [wtV_msg] at hwt
    unfold fitsP at hf
    rw [Bool.and_eq_true, Bool.and_eq_true] at hf
    obtain ⟨⟨f1, f2⟩, f3⟩ := hf
    have f1 := of_decide_eq_true f1
    have f2 := of_decide_eq_true f2
    subst f1
    obtain ⟨m, rfl⟩ : ∃ m, n = m + 1 := ⟨n - 1, by omega⟩
    cases hm : s.ms[ty.toNat]? with
    | none => rw [hm] at f3; cases f3
    | some d =>
      rw [hm] at f3
      dsimp only at f3
      rw [Bool.and_eq_true] at f3
      obtain ⟨f4, f5⟩ := f3
      have hdm : d ∈ s.ms := List.mem_of_getElem? hm
      have hd : dAt s ty = d := by unfold dAt; rw [hm]; rfl
      have hfo := hs.fs d hdm
      have hdep : (17 - ((m + 1 : Nat) : Int)) + 1 = 17 - (m : Int) := by omega
      unfold normP at hno
      rw [hd] at hno
      injection hno with _ hno _
      unfold unkOk at f4
      cases hu : splitW u.data.toList with
      | none => rw [hu] at f4; cases f4
      | some wu =>
        rw [hu] at f4
        dsimp only at f4
        have f4 : ∀ x ∈ wu, knownP d x.1.num x.1.typ = false := by simpa using f4
        have hE : ∀ x ∈ fs.flatMap (entF s d), (formedW x = true ∧ x.n < 18446744073709551616 ∧ x.data.length < 18446744073709551616) ∧ knownP d x.num x.typ = true := by
          intro x hx
          obtain ⟨y, hy, hxy⟩ := List.mem_flatMap.1 hx
          obtain ⟨num, vs⟩ := y
          obtain ⟨_, f, hff, hne, hrl, hv⟩ := fitsFs_mem f5 num vs hy
          have hwm := wtFs_mem hy
          rw [wtF_mk] at hwm
          exact ent_ok hfo hff hv (fun v hv => h5 num vs v hy hv) (by omega) x hxy
        have hsp := split_apps (fs.flatMap (entF s d)) u.data.toList (fun x hx => (hE x hx).1)
        rw [hu] at hsp
        rw [encM_msg, hd, encFs_ent]
        unfold decM
        rw [hsp, hd]
        dsimp only [Option.map_some]
        have hkn : ∀ k : Int, knP d ((fs.flatMap (entF s d)).map (fun f => (f, appW f)) ++ wu) k = (fs.flatMap (entF s d)).filter (fun x => decide ((x.num : Int) = k)) := by
          intro k
          unfold knP
          rw [List.map_append, List.map_map, List.filter_append]
          have e1 : ((·.1) ∘ fun f : FW => (f, appW f)) = id := rfl
          have e2 : (wu.map (·.1)).filter (fun x => knownP d x.num x.typ && decide ((x.num : Int) = k)) = [] := List.filter_eq_nil_iff.2 fun x hx => by
            obtain ⟨y, hy, rfl⟩ := List.mem_map.1 hx
            rw [f4 y hy]; simp
          rw [e1, List.map_id, e2, List.append_nil]
          exact List.filter_congr fun x hx => by rw [(hE x hx).2]; rfl
        have hun : unkP d ((fs.flatMap (entF s d)).map (fun f => (f, appW f)) ++ wu) = u.data.toList := by
          unfold unkP
          have e2 : ((fs.flatMap (entF s d)).map (fun f => (f, appW f))).filter (fun x => !knownP d x.1.num x.1.typ) = [] := List.filter_eq_nil_iff.2 fun x hx => by
            obtain ⟨y, hy, rfl⟩ := List.mem_map.1 hx
            rw [(hE y hy).2]; simp
          rw [List.filter_append, e2, List.nil_append, List.filter_eq_self.2 (fun x hx => by rw [f4 x hx]; rfl)]
          exact splitW_cat _ _ _ (Nat.le_refl _) hu
        have hkf := kn_fs fs 0 (Int.le_refl _) f5
        have hfl : fldsG (decM s m) (knP d ((fs.flatMap (entF s d)).map (fun f => (f, appW f)) ++ wu)) d.fs = .ok fs := by
          refine flds_back d.fs fs 0 (fs_pair hfo) f5 (fun num vs hmm => ?_) (fun num vs hmm f hff => ?_) (fun f hff hq => ?_)
          · obtain ⟨_, f, hff, _⟩ := fitsFs_mem f5 num vs hmm
            exact ⟨f, (findF_num hff).2, (findF_num hff).1, hff⟩
          · obtain ⟨_, f', hff', hne, hrl, hv⟩ := fitsFs_mem f5 num vs hmm
            rw [hff] at hff'
            cases hff'
            obtain ⟨n1, n2⟩ := norm_fix hno num vs hmm
            have hwm := wtFs_mem hmm
            rw [wtF_mk] at hwm
            rw [hkn, hkf.1 num vs hmm]
            refine ⟨ent_back hff hne hrl (fun v hv => h5 num vs v hmm hv) hv (fun hk v hvm => ?_), ?_⟩
            · have hone := fitsVs_mem hv v hvm
              have hwv := h5 num vs v hmm hvm
              have hty := hs.ty d hdm f (findF_num hff).2 hk
              have hfv : fitsP s v f.ty (17 - (m : Int)) = true := by
                rw [hdep] at hone
                revert hone
                cases v <;> intro hone
                case msg a b c =>
                  rw [show ∀ r, oneK f r (.msg a b c) = (decide (f.kind = 10) && r) from fun _ => rfl, Bool.and_eq_true] at hone
                  exact hone.2
                case text t =>
                  rw [show ∀ r, oneK f r (.text t) = (decide (f.kind = 5) && validB t) from fun _ => rfl, Bool.and_eq_true] at hone
                  have := of_decide_eq_true hone.1
                  omega
                case none => cases hone
                all_goals
                  have := of_decide_eq_true hone
                  omega
              have hwm2 := wtVs_mem hvm
              exact ih num vs v hmm hvm (by omega) (normVs_fix n1 v hvm) m f.ty (by omega) hty.1 hfv
            · have hat : fAt d num = f := by unfold fAt; rw [hff]; rfl
              rw [hat] at n2
              cases vs with
              | nil => exact absurd rfl hne
              | cons v vs => exact n2
          · rw [hkn]
            exact hkf.2 f.num hq
        rw [hfl, hun, mkS_data]
  | _ =>
    intro _ _ n t _ _ hf
    unfold fitsP at hf
    cases hf
end Go.Proofs.YtjcolfogmmjaoaaGreatDoor
end

section
/- Layer 9: the normal value. -/
set_option linter.unusedVariables false
set_option linter.unusedSimpArgs false
set_option maxRecDepth 100000
set_option maxHeartbeats 2000000
namespace Go.Proofs.YtjcolfogmmjaoaaGreatDoor
open V A
theorem cloneVR {l : List VL} (hl : l.length ≤ lim) : FSpec Tryz.prog 54 [.d (.sl 1 (vlsD l))] [] fun a cs => ∃ x, a = .row x 1 ∧ cs = [.row x 31 1 (vlsD l)] := by
  refine a_enter hT [.d (.sl 1 (vlsD l))] [] Tryz.func54 rfl rfl rfl ⟨rfl, trivial⟩ fun c => ?_
  refine a_isnil hT rfl rfl rfl rfl rfl rfl fun b hb => ?_
  refine a_if hT rfl rfl (fun h => ?_) (fun h => ?_)
  · refine a_run hT 4 rfl rfl ?_
    refine a_nilrow 2 1 31 1 rfl rfl ?_
    refine a_ret hT [1] rfl rfl rfl rfl rfl rfl ⟨_, rfl, ?_⟩
    rw [hb h]
  · refine a_lit hT 1 rfl rfl rfl rfl elV rfl rfl rfl rfl fun x => ?_
    refine a_app hT 1 (vlsD l) rfl rfl rfl rfl elV rfl rfl rfl rfl rfl rfl (by rw [vlsD_map]; simpa using hl) fun x => ?_
    refine a_ret hT [1] rfl rfl rfl rfl rfl rfl ⟨x, rfl, rfl⟩
def msgD (ty : Int) (fs : List VF) (u : ByteArray) : List A.Dat := [.v (kI ty), .sl 2 (vfsD fs), .v (.string u)]
def msgA (ty : Int) (fs : List VF) (u : ByteArray) : AV := .agg ((msgD ty fs u).map nd)
def NormS (s : SchP) : VL → Prop
  | .msg ty fs u => ∀ dep : Int, 0 ≤ ty → fitsP s (.msg ty fs u) ty dep = true → FSpec Tryz.prog 42 [schA s, msgA ty fs u] [] fun a cs => a = msgA ty (normFs s (dAt s ty) fs) u ∧ cs = []
  | .none | .int _ | .uint _ | .bool _ | .text _ | .bytes _ | .enum _ => True
theorem normal_ind {s : SchP} (hs : SchOk s) : ∀ {v : VL}, WfV v → NormS s v := by
  intro v hv
  induction hv with
  | msg h1 h2 h3 h4 h5 ih =>
    rename_i ty fs unk
    intro dep ht0 hfit
    unfold fitsP at hfit
    rw [Bool.and_eq_true, Bool.and_eq_true] at hfit
    obtain ⟨_, hf⟩ := hfit
    cases hm : s.ms[ty.toNat]? with
    | none => rw [hm] at hf; cases hf
    | some d =>
    rw [hm] at hf
    dsimp only at hf
    rw [Bool.and_eq_true] at hf
    have hf := hf.2
    have hdm : d ∈ s.ms := List.mem_of_getElem? hm
    have hd : dAt s ty = d := by unfold dAt; rw [hm]; rfl
    have hfo := hs.fs d hdm
    rw [hd]
    have hat0 : (s.ms.map eM)[ty.toNat]? = some (eM d) := by rw [List.getElem?_map, hm]; rfl
    have hlen : (vfsD fs).length = fs.length := vfsD_len fs
    refine a_enter hT [schA s, msgA ty fs unk] [] Tryz.func42 rfl rfl rfl ⟨Fit.refl _, Fit.refl _, trivial⟩ fun c' => ?_
    refine a_box hT 20 rfl rfl rfl rfl fun g => ?_
    refine a_box hT 21 rfl rfl rfl rfl fun g1 => ?_
    refine a_new hT hZ 22 rfl rfl rfl rfl fun g2 => ?_
    refine a_freezeK 2 20 rfl rfl rfl rfl rfl ?_
    refine a_freezeK 3 21 rfl rfl rfl rfl rfl ?_
    refine a_build hT hZ [.v (kI ty) 0, .v (Value.slice none 0 0) 0, .v (Value.string unk) 0] rfl rfl rfl rfl rfl rfl ?_
    refine a_new hT hZ 23 rfl rfl rfl rfl fun g3 => ?_
    refine a_run hT 1 rfl rfl ?_
    refine a_nilrowB 23 1 40 99 2 rfl rfl rfl ?_
    refine a_loop hT [2, 3, 4, 5, 23, 24, 25] (fun x : Nat × Value => [.d (.p (schD s)), .d (.p (msgD ty fs unk)), .v (.pointer (some ⟨g2, 0, none⟩)) 22, .v (.pointer (some ⟨g3, 0, none⟩)) 23, .d (.sl 2 (vfsD fs)), .v (kI fs.length) 0, .v (kI x.1) 0]) (fun x => [(22, .blk g2 97 [.v (.int .i64 0) 0, .v (.slice none 0 0) 0, .v (.string .empty) 0]), (23, .blk g3 97 [.v (kI ty) 0, .row x.2 40, .v (.string unk) 0]), (40, .row x.2 99 2 (vfsD (normFs s d (fs.take x.1))))]) (fun x => x.1 ≤ fs.length) (fun x => fs.length - x.1) (0, .slice none 0 0) [22, 23, 40] rfl rfl (Nat.zero_le _) ⟨rfl, rfl, rfl, rfl, rfl, by rw [← hlen]; rfl, rfl, trivial⟩ rfl ⟨⟨rfl, rfl, rfl, rfl, rfl, trivial⟩, ⟨rfl, rfl, rfl, rfl, rfl, trivial⟩, ⟨rfl, rfl, rfl, by rw [List.take_zero]; unfold normFs; rfl⟩, trivial⟩ ?_
    rintro ⟨i, vf⟩ i2
    dsimp only at i2
    have hw := wN i (by omega)
    rcases Nat.lt_or_ge i fs.length with hil | hil
    · have hat : (vfsD fs)[(i : Int).toNat]? = some (vfD fs[i]) := by rw [vfsD_map, Int.toNat_natCast, List.getElem?_map, List.getElem?_eq_getElem hil]; rfl
      have hmem := List.getElem_mem hil
      have htk : fs.take (i + 1) = fs.take i ++ [fs[i]] := List.take_succ_eq_append_getElem hil
      generalize fs[i] = x at hat hmem htk
      obtain ⟨num, vs⟩ := x
      have hnum := h3 num vs hmem
      have hvl := h2 num vs hmem
      obtain ⟨_, f, hff, hne, hrl, hfv⟩ := fitsFs_mem hf num vs hmem
      have hFi := Find_spec (d := d) (num := num) hfo hnum
      rw [hff] at hFi
      have hCl := cloneVR (l := vs) (by unfold lim; omega)
      have hlv : (vlsD vs).length = vs.length := by rw [vlsD_map, List.length_map]
      refine a_t hT rfl rfl (decide_eq_true (by show (i : Int) < (fs.length : Int); omega)) ?_
      refine a_ix hT _ rfl rfl rfl rfl rfl rfl (by omega) hat ?_
      refine a_new hT hZ 41 rfl rfl rfl rfl fun g4 => ?_
      refine a_run hT 1 rfl rfl ?_
      refine a_freezeK 7 41 rfl rfl rfl rfl rfl ?_
      refine a_treeN hT [2, 3, 4, 5, 7, 8, 23, 24, 25] (fun g : Nat => [.d (.p (schD s)), .d (.p (msgD ty fs unk)), .v (.pointer (some ⟨g2, 0, none⟩)) 22, .v (.pointer (some ⟨g3, 0, none⟩)) 23, .d (.p (vfD (.mk num vs))), .v (.pointer (some ⟨g, 0, none⟩)) 42, .d (.sl 2 (vfsD fs)), .v (kI fs.length) 0, .v (kI i) 0]) (fun g => [(22, .blk g2 97 [.v (.int .i64 0) 0, .v (.slice none 0 0) 0, .v (.string .empty) 0]), (23, .blk g3 97 [.v (kI ty) 0, .row vf 40, .v (.string unk) 0]), (40, .row vf 99 2 (vfsD (normFs s d (fs.take i)))), (42, .blk g 68 ((eF f).map nd))]) (fun _ => True) [] 15 [(0, false), (2, false), (6, false), (1, false), (3, false), (7, false), (4, false), (5, false)] rfl rfl (by kernel_rfl) (by kernel_rfl) rfl ?_ ?_
      · refine a_ix hT _ rfl rfl rfl rfl rfl rfl (by first | omega | assumption) (by first | assumption | rfl) ?_
        refine a_alt hT [([(8, true), (9, false), (10, false), (11, false), (12, true), (13, true), (14, true)], true), ([(12, true), (8, true), (9, true), (10, false), (11, false), (13, true), (14, true)], true)] rfl rfl (by kernel_rfl) ⟨?_, ?_, trivial⟩
        · refine a_call hT rfl rfl rfl (by kernel_rfl) hFi [] [] rfl rfl ?_
          rintro _ _ ⟨rfl, rfl⟩
          refine a_new hT hZ 41 rfl rfl rfl rfl fun g5 => ?_
          exact a_next hT g5 [22, 23, 40, 41] rfl rfl trivial ⟨rfl, rfl, rfl, rfl, rfl, rfl, rfl, rfl, rfl, trivial⟩ rfl ⟨⟨rfl, rfl, rfl, rfl, rfl, trivial⟩, ⟨rfl, rfl, rfl, rfl, rfl, trivial⟩, ⟨rfl, rfl, rfl, rfl⟩, ⟨rfl, rfl, rfl, rfl, rfl, rfl, rfl, trivial⟩, trivial⟩
        · refine a_new hT hZ 41 rfl rfl rfl rfl fun g5 => ?_
          refine a_call hT rfl rfl rfl (by kernel_rfl) hFi [] [] rfl rfl ?_
          rintro _ _ ⟨rfl, rfl⟩
          exact a_next hT g5 [22, 23, 40, 41] rfl rfl trivial ⟨rfl, rfl, rfl, rfl, rfl, rfl, rfl, rfl, rfl, trivial⟩ rfl ⟨⟨rfl, rfl, rfl, rfl, rfl, trivial⟩, ⟨rfl, rfl, rfl, rfl, rfl, trivial⟩, ⟨rfl, rfl, rfl, rfl⟩, ⟨rfl, rfl, rfl, rfl, rfl, rfl, rfl, trivial⟩, trivial⟩
      rintro g5 _
      refine a_call hT rfl rfl rfl (by kernel_rfl) hCl [] [1] rfl rfl ?_
      rintro _ _ ⟨x, rfl, rfl⟩
      refine a_loop hT [2, 3, 4, 5, 7, 8, 10, 23, 24, 25, 44, 45, 46] (fun j : Nat => [.d (.p (schD s)), .d (.p (msgD ty fs unk)), .v (.pointer (some ⟨g2, 0, none⟩)) 22, .v (.pointer (some ⟨g3, 0, none⟩)) 23, .d (.p (vfD (.mk num vs))), .v (.pointer (some ⟨g5, 0, none⟩)) 42, .row x 1, .d (.sl 2 (vfsD fs)), .v (kI fs.length) 0, .v (kI i) 0, .row x 1, .v (kI vs.length) 0, .v (kI j) 0]) (fun j => [(22, .blk g2 97 [.v (.int .i64 0) 0, .v (.slice none 0 0) 0, .v (.string .empty) 0]), (23, .blk g3 97 [.v (kI ty) 0, .row vf 40, .v (.string unk) 0]), (40, .row vf 99 2 (vfsD (normFs s d (fs.take i)))), (42, .blk g5 68 ((eF f).map nd)), (1, .row x 31 1 (vlsD (normVs s (vs.take j) ++ vs.drop j)))]) (fun j => j ≤ vs.length) (fun j => vs.length - j) 0 [22, 23, 40, 42, 1] rfl rfl (Nat.zero_le _) ⟨rfl, rfl, rfl, rfl, rfl, rfl, rfl, rfl, rfl, rfl, rfl, by rw [← hlv]; rfl, rfl, trivial⟩ rfl ⟨⟨rfl, rfl, rfl, rfl, rfl, trivial⟩, ⟨rfl, rfl, rfl, rfl, rfl, trivial⟩, ⟨rfl, rfl, rfl, rfl⟩, ⟨rfl, rfl, rfl, rfl, rfl, rfl, rfl, trivial⟩, ⟨rfl, rfl, rfl, by rw [List.take_zero, List.drop_zero]; unfold normVs; rfl⟩, trivial⟩ ?_
      intro j j2
      have hwj := wN j (by omega)
      rcases Nat.lt_or_ge j vs.length with hjl | hjl
      · have hmv := List.getElem_mem hjl
        have htj : vs.take (j + 1) = vs.take j ++ [vs[j]] := List.take_succ_eq_append_getElem hjl
        have hdj : vs.drop j = vs[j] :: vs.drop (j + 1) := List.drop_eq_getElem_cons hjl
        have hone := fitsVs_mem hfv _ hmv
        have hih := ih num vs _ hmem hmv
        generalize vs[j] = v at hmv htj hdj hone hih
        have hnl : (normVs s (vs.take j)).length = j := by rw [normVs_map, List.length_map, List.length_take]; omega
        have hrow : vlsD (normVs s (vs.take j) ++ vs.drop j) = vlsD (normVs s (vs.take j)) ++ [vlD v] :: vlsD (vs.drop (j + 1)) := by rw [hdj, vlsD_app]; rfl
        have hrl : (vlsD (normVs s (vs.take j))).length = j := by rw [vlsD_len, hnl]
        have hrow2 : vlsD (normVs s (vs.take (j + 1)) ++ vs.drop (j + 1)) = vlsD (normVs s (vs.take j)) ++ [vlD (normP s v)] :: vlsD (vs.drop (j + 1)) := by
          rw [htj, normVs_map, List.map_append, List.append_assoc, vlsD_app, ← normVs_map]; rfl
        have hge : (vlsD (normVs s (vs.take j)) ++ [vlD v] :: vlsD (vs.drop (j + 1)))[j]? = some [vlD v] := by
          rw [List.getElem?_append_right (by omega), hrl, Nat.sub_self]; rfl
        have hset : ∀ e : List A.Dat, (vlsD (normVs s (vs.take j)) ++ [vlD v] :: vlsD (vs.drop (j + 1))).set j e = vlsD (normVs s (vs.take j)) ++ e :: vlsD (vs.drop (j + 1)) := by
          intro e
          rw [List.set_append_right _ _ (by omega), hrl, Nat.sub_self]; rfl
        dsimp only
        rw [hrow]
        refine a_rowfact 1 rfl rfl ?_
        rintro (⟨_, e⟩ | ⟨gr, cap, rfl⟩)
        · exfalso
          have := congrArg List.length e
          simp at this
        have hrlen : (vlsD (normVs s (vs.take j)) ++ [vlD v] :: vlsD (vs.drop (j + 1))).length = vs.length := by
          rw [← hrow, vlsD_len, List.length_append, hnl, List.length_drop]; omega
        refine a_t hT rfl rfl (decide_eq_true (by show (j : Int) < (vs.length : Int); omega)) ?_
        refine a_rix hT j rfl rfl rfl rfl rfl rfl rfl (by omega) ?_
        refine a_rld hT j 0 [vlD v] (.d (vlD v)) rfl rfl rfl rfl rfl rfl (by omega) hge rfl ?_
        cases v with
        | msg ty2 fs2 unk2 =>
          have hnm : normP s (.msg ty2 fs2 unk2) = .msg ty2 (normFs s (dAt s ty2) fs2) unk2 := by conv => lhs; unfold normP
          rw [show ∀ r, oneK f r (.msg ty2 fs2 unk2) = (decide (f.kind = 10) && r) from fun _ => rfl, Bool.and_eq_true] at hone
          have hk10 := of_decide_eq_true hone.1
          have hty := hs.ty d hdm f (findF_num hff).2 hk10
          have hfv := hone.2
          have hte : ty2 = f.ty := by
            unfold fitsP at hfv
            rw [Bool.and_eq_true, Bool.and_eq_true] at hfv
            exact of_decide_eq_true hfv.1.1
          rw [← hte] at hfv
          have hN := hih (dep + 1) (by omega) hfv
          rw [hnm] at hrow2
          generalize normFs s (dAt s ty2) fs2 = nf at hN hrow2
          refine a_new hT hZ 43 rfl rfl rfl rfl fun g6 => ?_
          refine a_t hT rfl rfl rfl ?_
          refine a_callF hT rfl rfl rfl (by kernel_rfl) hN [] [] ⟨⟨rfl, rfl, rfl, trivial⟩, ⟨rfl, rfl, rfl, trivial⟩, trivial⟩ rfl trivial ?_
          rintro _ _ ⟨rfl, rfl⟩
          refine a_rix hT (j) rfl rfl rfl rfl rfl rfl (by first | rfl | omega) (by omega) ?_
          refine a_asL 62 (b := .d (vlD (.msg ty2 nf unk2))) rfl (le_ifcA rfl) ?_
          refine a_rst hT j 0 [vlD (.msg ty2 fs2 unk2)] (vlD (.msg ty2 nf unk2)) rfl rfl rfl rfl rfl rfl rfl (by omega) hge (by decide) rfl ?_
          exact a_next hT (j + 1) [22, 23, 40, 42, 1] rfl rfl ⟨by omega, by omega⟩ ⟨rfl, rfl, rfl, rfl, rfl, rfl, rfl, rfl, rfl, rfl, rfl, rfl, by show Value.int .i64 _ = Value.int .i64 _; rw [hwj], trivial⟩ rfl ⟨⟨rfl, rfl, rfl, rfl, rfl, trivial⟩, ⟨rfl, rfl, rfl, rfl, rfl, trivial⟩, ⟨rfl, rfl, rfl, rfl⟩, ⟨rfl, rfl, rfl, rfl, rfl, rfl, rfl, trivial⟩, ⟨rfl, rfl, rfl, (hset _).trans hrow2.symm⟩, trivial⟩
        | _ =>
          unfold normP at hrow2
          refine a_assertN hT zMsg rfl rfl rfl rfl rfl (by kernel_rfl) rfl ?_
          refine a_new hT hZ 43 rfl rfl rfl rfl fun g6 => ?_
          refine a_f hT rfl rfl rfl ?_
          exact a_next hT (j + 1) [22, 23, 40, 42, 1] rfl rfl ⟨by omega, by omega⟩ ⟨rfl, rfl, rfl, rfl, rfl, rfl, rfl, rfl, rfl, rfl, rfl, rfl, by show Value.int .i64 _ = Value.int .i64 _; rw [hwj], trivial⟩ rfl ⟨⟨rfl, rfl, rfl, rfl, rfl, trivial⟩, ⟨rfl, rfl, rfl, rfl, rfl, trivial⟩, ⟨rfl, rfl, rfl, rfl⟩, ⟨rfl, rfl, rfl, rfl, rfl, rfl, rfl, trivial⟩, ⟨rfl, rfl, rfl, hrow2.symm⟩, trivial⟩
      · refine a_f hT rfl rfl (decide_eq_false (by show ¬ (j : Int) < (vs.length : Int); omega)) ?_
        have hj : j = vs.length := by omega
        subst hj
        dsimp only
        rw [List.take_length, List.drop_length, List.append_nil]
        refine a_freeze 10 1 rfl rfl rfl rfl ?_
        have hkeep : normFs s d (fs.take (i + 1)) = normFs s d (fs.take i) ++ (if keepN f.rep (normVs s vs) then [.mk num (normVs s vs)] else []) := by
          have hat2 : fAt d num = f := by unfold fAt; rw [hff]; rfl
          rw [htk, normFs_app, normFs_cons, normF_mk, hat2]
          congr 1
          unfold normFs
          rw [List.append_nil]
        have hnl : (normVs s vs).length = vs.length := by rw [normVs_map, List.length_map]
        obtain ⟨w, ws, hws⟩ : ∃ w ws, normVs s vs = w :: ws := by
          cases hq : normVs s vs with
          | nil =>
            rw [hq] at hnl
            exact absurd (List.eq_nil_of_length_eq_zero hnl.symm) hne
          | cons w ws => exact ⟨w, ws, rfl⟩
        rw [hws] at hkeep ⊢
        have hZr := Zero_spec (v := w)
        have hvfl : (vfsD (normFs s d (fs.take i))).length ≤ 100000 := by
          have := normFs_len s d (fs.take i)
          rw [List.length_take] at this
          rw [vfsD_len]; omega
        refine a_ix hT _ rfl rfl rfl rfl rfl rfl (by decide) (show (vlsD (w :: ws))[Int.toNat 0]? = some [vlD w] from rfl) ?_
        have hk1 : f.rep = true → keepN f.rep (w :: ws) = true := fun h => by unfold keepN; rw [h]; rfl
        have hk2 : f.rep = false → keepN f.rep (w :: ws) = !zeroV w := fun h => by unfold keepN; rw [h]; rfl
        cases w with
        | msg a b c =>
          refine a_new hT hZ 43 rfl rfl rfl rfl fun g6 => ?_
          refine a_gt hT rfl rfl rfl rfl ?_
          refine a_gt hT rfl rfl rfl rfl ?_
          refine a_t hT rfl rfl rfl ?_
          refine a_build hT hZ [.v (kI num) 0, .d (A.Dat.sl 1 (vlsD (VL.msg a b c :: ws)))] rfl rfl rfl rfl rfl rfl ?_
          refine a_lit hT 44 rfl rfl rfl rfl (by kernel_rfl) rfl rfl rfl rfl fun x44 => ?_
          refine a_app hT 40 _ rfl rfl rfl rfl (by kernel_rfl) rfl rfl rfl rfl rfl rfl (by simp only [List.length_append, List.length_cons, List.length_nil]; unfold lim; omega) fun v1 => ?_
          exact a_next hT (i + 1, v1) [22, 23, 40] rfl rfl ⟨by show i + 1 ≤ fs.length; omega, by show fs.length - (i + 1) < fs.length - i; omega⟩ ⟨rfl, rfl, rfl, rfl, rfl, rfl, by show Value.int .i64 _ = Value.int .i64 _; rw [hw], trivial⟩ rfl ⟨⟨rfl, rfl, rfl, rfl, rfl, trivial⟩, ⟨rfl, rfl, rfl, rfl, rfl, trivial⟩, ⟨rfl, rfl, rfl, by show _ = vfsD (normFs s d (fs.take (i + 1))); rw [hkeep, show keepN f.rep (VL.msg a b c :: ws) = true from by cases hq : f.rep with | true => rfl | false => rfl, if_pos rfl, vfsD_app]; rfl⟩, trivial⟩
        | _ =>
          refine a_assertN hT zMsg rfl rfl rfl rfl rfl (by kernel_rfl) rfl ?_
          refine a_new hT hZ 43 rfl rfl rfl rfl fun g6 => ?_
          refine a_gf hT rfl rfl rfl rfl ?_
          refine a_g hT rfl rfl rfl (fun h => ?_) (fun h => ?_)
          · refine a_t hT rfl rfl rfl ?_
            refine a_build hT hZ [.v (kI num) 0, .d (A.Dat.sl 1 (vlsD (_ :: ws)))] rfl rfl rfl rfl rfl rfl ?_
            refine a_lit hT 44 rfl rfl rfl rfl (by kernel_rfl) rfl rfl rfl rfl fun x44 => ?_
            refine a_app hT 40 _ rfl rfl rfl rfl (by kernel_rfl) rfl rfl rfl rfl rfl rfl (by simp only [List.length_append, List.length_cons, List.length_nil]; unfold lim; omega) fun v1 => ?_
            exact a_next hT (i + 1, v1) [22, 23, 40] rfl rfl ⟨by show i + 1 ≤ fs.length; omega, by show fs.length - (i + 1) < fs.length - i; omega⟩ ⟨rfl, rfl, rfl, rfl, rfl, rfl, by show Value.int .i64 _ = Value.int .i64 _; rw [hw], trivial⟩ rfl ⟨⟨rfl, rfl, rfl, rfl, rfl, trivial⟩, ⟨rfl, rfl, rfl, rfl, rfl, trivial⟩, ⟨rfl, rfl, rfl, by show _ = vfsD (normFs s d (fs.take (i + 1))); rw [hkeep, hk1 h, if_pos rfl, vfsD_app]; rfl⟩, trivial⟩
          · refine a_ix hT _ rfl rfl rfl rfl rfl rfl (by decide) (show (vlsD (_ :: ws))[Int.toNat 0]? = some [vlD _] from rfl) ?_
            refine a_call hT rfl rfl rfl (by kernel_rfl) hZr [] [] rfl rfl ?_
            rintro _ _ ⟨rfl, rfl⟩
            refine a_if hT rfl rfl (fun h1 => ?_) (fun h1 => ?_)
            · refine a_build hT hZ [.v (kI num) 0, .d (A.Dat.sl 1 (vlsD (_ :: ws)))] rfl rfl rfl rfl rfl rfl ?_
              refine a_lit hT 44 rfl rfl rfl rfl (by kernel_rfl) rfl rfl rfl rfl fun x44 => ?_
              refine a_app hT 40 _ rfl rfl rfl rfl (by kernel_rfl) rfl rfl rfl rfl rfl rfl (by simp only [List.length_append, List.length_cons, List.length_nil]; unfold lim; omega) fun v1 => ?_
              exact a_next hT (i + 1, v1) [22, 23, 40] rfl rfl ⟨by show i + 1 ≤ fs.length; omega, by show fs.length - (i + 1) < fs.length - i; omega⟩ ⟨rfl, rfl, rfl, rfl, rfl, rfl, by show Value.int .i64 _ = Value.int .i64 _; rw [hw], trivial⟩ rfl ⟨⟨rfl, rfl, rfl, rfl, rfl, trivial⟩, ⟨rfl, rfl, rfl, rfl, rfl, trivial⟩, ⟨rfl, rfl, rfl, by show _ = vfsD (normFs s d (fs.take (i + 1))); rw [hkeep, (hk2 h).trans h1, if_pos rfl, vfsD_app]; rfl⟩, trivial⟩
            · exact a_next hT (i + 1, vf) [22, 23, 40] rfl rfl ⟨by show i + 1 ≤ fs.length; omega, by show fs.length - (i + 1) < fs.length - i; omega⟩ ⟨rfl, rfl, rfl, rfl, rfl, rfl, by show Value.int .i64 _ = Value.int .i64 _; rw [hw], trivial⟩ rfl ⟨⟨rfl, rfl, rfl, rfl, rfl, trivial⟩, ⟨rfl, rfl, rfl, rfl, rfl, trivial⟩, ⟨rfl, rfl, rfl, by show _ = vfsD (normFs s d (fs.take (i + 1))); rw [hkeep, (hk2 h).trans h1, if_neg (by decide), List.append_nil]⟩, trivial⟩
    · refine a_f hT rfl rfl (decide_eq_false (by show ¬ (i : Int) < (fs.length : Int); omega)) ?_
      have hi : i = fs.length := by omega
      subst hi
      rw [List.take_length]
      refine a_freezeB 23 1 40 rfl rfl rfl rfl rfl ?_
      refine a_ret hT [] rfl rfl rfl rfl rfl rfl ?_
      exact ⟨rfl, rfl⟩
  | _ => exact trivial
end Go.Proofs.YtjcolfogmmjaoaaGreatDoor
end

section
/- Layer 9: Fits, Normal, Must of a message. -/
set_option linter.unusedVariables false
set_option linter.unusedSimpArgs false
set_option maxRecDepth 100000
set_option maxHeartbeats 2000000
namespace Go.Proofs.YtjcolfogmmjaoaaGreatDoor
open V A
theorem Fits_spec {s : SchP} (hz : SzS s) {v : VL} (hv : WfV v) {t : Int} : FSpec Tryz.prog 36 [schA s, .v (kI t) 0, nd (vlD v)] [u8C] fun a cs => a = bA (fitsTop s v t) ∧ cs = [u8C] := by
  have hF := Formed_spec hz
  have hso := fun h => schOk (s := s) h
  have hlm : (s.ms.map eM).length = s.ms.length := List.length_map _
  unfold fitsTop
  refine a_enter hT [schA s, .v (kI t) 0, nd (vlD v)] [60] Tryz.func36 rfl rfl rfl ⟨Fit.refl _, rfl, Fit.refl _, trivial⟩ fun c' => ?_
  cases hfo : formedP s with
  | false =>
    rw [hfo] at hF
    refine a_box hT 61 rfl rfl rfl rfl fun g => ?_
    refine a_call hT rfl rfl rfl (by kernel_rfl) hF [] [] rfl rfl ?_
    rintro _ _ ⟨rfl, rfl⟩
    refine a_gf hT rfl rfl rfl rfl ?_
    refine a_gf hT rfl rfl rfl rfl ?_
    refine a_gf hT rfl rfl rfl rfl ?_
    refine a_ret hT [60] rfl rfl rfl rfl rfl rfl ?_
    first | exact ⟨rfl, rfl⟩ | rfl
  | true =>
    rw [hfo] at hF
    refine a_box hT 61 rfl rfl rfl rfl fun g => ?_
    refine a_call hT rfl rfl rfl (by kernel_rfl) hF [] [] rfl rfl ?_
    rintro _ _ ⟨rfl, rfl⟩
    refine a_gt hT rfl rfl rfl rfl ?_
    refine a_g hT rfl rfl rfl (fun h => ?_) (fun h => ?_)
    · have h := of_decide_eq_true h
      refine a_g hT rfl rfl rfl (fun h1 => ?_) (fun h1 => ?_)
      · have h1 := of_decide_eq_true h1
        have h0 : (0 : Int) ≤ t := by first | assumption | omega
        have h1' : t < (s.ms.length : Int) := by rw [← hlm]; assumption
        have hfi := fits_spec (hso hfo) hv (t := t) (dep := 1) h0 h1' (by decide) (by decide)
        refine a_call hT rfl rfl rfl (by kernel_rfl) hfi [60] [60] rfl rfl ?_
        rintro _ _ ⟨rfl, rfl⟩
        refine a_ret hT [60] rfl rfl rfl rfl rfl rfl ?_
        exact ⟨by rw [decide_eq_true h0, decide_eq_true h1']; rfl, rfl⟩
      · have h1 := of_decide_eq_false h1
        refine a_ret hT [60] rfl rfl rfl rfl rfl rfl ?_
        have h7 : ¬ t < (s.ms.length : Int) := by rw [← hlm]; assumption
        exact b_eq (by rw [decide_eq_false h7]; simp)
    · have h := of_decide_eq_false h
      refine a_gf hT rfl rfl rfl rfl ?_
      refine a_ret hT [60] rfl rfl rfl rfl rfl rfl ?_
      exact b_eq (by rw [decide_eq_false (show ¬ (0 : Int) ≤ t by assumption)]; simp)
theorem Must_spec {ty : Int} {fs : List VF} {u : ByteArray} : FSpec Tryz.prog 44 [nd (vlD (.msg ty fs u))] [] fun a cs => a = msgA ty fs u ∧ cs = [] := by
  refine FSpec.le ?_
  refine a_enter hT [nd (vlD (.msg ty fs u))] [] Tryz.func44 rfl rfl rfl ⟨Fit.refl _, trivial⟩ fun c' => ?_
  refine a_new hT hZ 20 rfl rfl rfl rfl fun g => ?_
  refine a_ret hT [] rfl rfl rfl rfl rfl rfl ?_
  exact ⟨_, Le.agg (.cons nd_of (.cons nd_of (.cons nd_of .nil))), rfl, rfl⟩
def normA (s : SchP) (v : VL) (t : Int) : AV := if fitsTop s v t then .tup [.d (vlD (normP s v)), .v (kI 0) 0] else .tup [.v .nilIface 0, .v (kI 1) 0]
theorem Normal_spec {s : SchP} (hz : SzS s) {v : VL} (hv : WfV v) {t : Int} : FSpec Tryz.prog 21 [schA s, .v (kI t) 0, nd (vlD v)] [u8C] fun a cs => a = normA s v t ∧ cs = [u8C] := by
  refine FSpec.le ?_
  have hF := Fits_spec hz hv (t := t)
  have hso := fun h => schOk (s := s) h
  unfold normA
  refine a_enter hT [schA s, .v (kI t) 0, nd (vlD v)] [60] Tryz.func21 rfl rfl rfl ⟨Fit.refl _, rfl, Fit.refl _, trivial⟩ fun c' => ?_
  cases hfo : fitsTop s v t with
  | false =>
    rw [hfo] at hF
    refine a_box hT 61 rfl rfl rfl rfl fun g => ?_
    refine a_call hT rfl rfl rfl (by kernel_rfl) hF [60] [60] rfl rfl ?_
    rintro _ _ ⟨rfl, rfl⟩
    refine a_t hT rfl rfl rfl ?_
    refine a_ret hT [60] rfl rfl rfl rfl rfl rfl ?_
    exact ⟨_, Le.refl _, rfl, rfl⟩
  | true =>
    rw [hfo] at hF
    cases v with
    | msg ty fs u =>
      have hN : FSpec Tryz.prog 42 [schA s, msgA ty fs u] [] fun a cs => a = msgA ty (normFs s (dAt s ty) fs) u ∧ cs = [] := by
        unfold fitsTop at hfo
        rw [Bool.and_eq_true, Bool.and_eq_true, Bool.and_eq_true] at hfo
        obtain ⟨f1, f2, f3, f4⟩ := hfo
        have hte : ty = t := by
          have f5 := f4
          unfold fitsP at f5
          rw [Bool.and_eq_true, Bool.and_eq_true] at f5
          exact of_decide_eq_true f5.1.1
        subst hte
        exact normal_ind (hso f1) hv 1 (of_decide_eq_true f2) f4
      refine a_box hT 61 rfl rfl rfl rfl fun g => ?_
      refine a_call hT rfl rfl rfl (by kernel_rfl) hF [60] [60] rfl rfl ?_
      rintro _ _ ⟨rfl, rfl⟩
      refine a_f hT rfl rfl rfl ?_
      refine a_drawX hT [] 3 [(0, false), (1, false), (2, false), (3, true)] rfl rfl (by kernel_rfl) (by kernel_rfl) rfl ?_
      refine a_callF hT rfl rfl rfl (by kernel_rfl) hN [] [] ⟨⟨rfl, rfl, rfl, trivial⟩, ⟨rfl, rfl, rfl, trivial⟩, trivial⟩ rfl trivial ?_
      rintro _ _ ⟨rfl, rfl⟩
      refine a_rest hT [(4, true), (5, true), (6, true)] rfl rfl (by kernel_rfl) ?_
      refine a_ret hT [60] rfl rfl rfl rfl rfl rfl ?_
      refine ⟨_, Le.tup (.cons (le_ifcA rfl) (.cons (Le.refl _) .nil)), ?_, rfl⟩
      rw [if_pos rfl, show normP s (.msg ty fs u) = .msg ty (normFs s (dAt s ty) fs) u from by conv => lhs; unfold normP]
      rfl
    | _ => exact absurd hfo (by unfold fitsTop fitsP; simp)
end Go.Proofs.YtjcolfogmmjaoaaGreatDoor
end

section
/- Layer 10: the field of a value alone; a packed number. -/
set_option linter.unusedVariables false
set_option linter.unusedSimpArgs false
set_option maxRecDepth 100000
set_option maxHeartbeats 2000000
namespace Go.Proofs.YtjcolfogmmjaoaaGreatDoor
open V A
theorem pack_spec {l : List UInt8} {x : FW} (hl : l.length ≤ 800000) (hn : x.n < 18446744073709551616) : FSpec Tryz.prog 91 [.d (A.bytesD l), fwA x] [] fun a cs => a = .d (A.bytesD (l ++ packW x)) ∧ cs = [] := by
  refine a_enter hT [.d (A.bytesD l), fwA x] [] Tryz.func91 rfl rfl rfl ⟨Fit.refl _, Fit.refl _, trivial⟩ fun c' => ?_
  have hA := Append_spec (l := l) (n := x.n) hn (by omega)
  have hA4 := Append64_spec (l := l) (n := x.n) (by omega)
  have hA2 := Append32_spec (l := l) (n := x.n % 4294967296) (by omega)
  rw [← wrap_u32, le32_mod] at hA2
  obtain ⟨num, typ, n, data⟩ := x
  dsimp only at hA hA4 hA2
  unfold packW
  dsimp only
  refine a_box hT 20 rfl rfl rfl rfl fun g => ?_
  refine a_if hT rfl rfl (fun h => ?_) (fun h => ?_)
  · have h : (typ : Int) = 5 := eq_of_beq h
    rw [if_pos (by omega : typ = 5)]
    refine a_call hT rfl rfl rfl (by kernel_rfl) hA2 [] [] rfl rfl ?_
    rintro _ _ ⟨rfl, rfl⟩
    refine a_ret hT [] rfl rfl rfl rfl rfl rfl ?_
    exact ⟨rfl, rfl⟩
  · have h : ¬ (typ : Int) = 5 := ne_of_beq_false h
    rw [if_neg (by omega : ¬ typ = 5)]
    refine a_if hT rfl rfl (fun h1 => ?_) (fun h1 => ?_)
    · have h1 : (typ : Int) = 1 := eq_of_beq h1
      rw [if_pos (by omega : typ = 1)]
      refine a_call hT rfl rfl rfl (by kernel_rfl) hA4 [] [] rfl rfl ?_
      rintro _ _ ⟨rfl, rfl⟩
      refine a_ret hT [] rfl rfl rfl rfl rfl rfl ?_
      exact ⟨rfl, rfl⟩
    · have h1 : ¬ (typ : Int) = 1 := ne_of_beq_false h1
      rw [if_neg (by omega : ¬ typ = 1)]
      refine a_call hT rfl rfl rfl (by kernel_rfl) hA [] [] rfl rfl ?_
      rintro _ _ ⟨rfl, rfl⟩
      refine a_ret hT [] rfl rfl rfl rfl rfl rfl ?_
      exact ⟨rfl, rfl⟩
theorem u64_wrap (n : Int) : IntKind.u64.wrap n = ((u64 n : Nat) : Int) := by
  unfold u64
  rw [Int.toNat_of_nonneg (Int.emod_nonneg n (by decide))]
  unfold IntKind.wrap
  simp [IntKind.bits, IntKind.signed]
theorem field_spec {s : SchP} {f : FDP} {v : VL} {m : List UInt8} (hf : 0 ≤ f.num) (hv : WfV v) (hM : ∀ ty fs u, v = .msg ty fs u → FSpec Tryz.prog 43 [schA s, msgA ty fs u] [] fun a cs => a = .d (A.bytesD m) ∧ cs = []) :
    FSpec Tryz.prog 90 [schA s, .agg ((eF f).map nd), nd (vlD v)] [] fun a cs => a = fwA (mkW f v m) ∧ cs = [] := by
  have hW := Wire_spec (k := f.kind)
  have hwr := wireK_rng f.kind
  have hfw : fwA (mkW f v m) = .agg [.v (kI f.num) 0, .v (kI (wireK f.kind)) 0, .v (kU (numW f.kind v)) 0, .d (A.bytesD (dataW m v))] := by
    unfold fwA mkW
    dsimp only
    rw [Int.toNat_of_nonneg hf, Int.toNat_of_nonneg hwr.1]
  rw [hfw]
  refine FSpec.le ?_
  obtain ⟨num, name, kind, rep, ty⟩ := f
  dsimp only at hW hfw hf ⊢
  generalize wireK kind = wk at hW
  refine a_enter hT [schA s, .agg ((eF ⟨num, name, kind, rep, ty⟩).map nd), nd (vlD v)] [] Tryz.func90 rfl rfl rfl ⟨Fit.refl _, Fit.refl _, Fit.refl _, trivial⟩ fun c' => ?_
  refine a_box hT 20 rfl rfl rfl rfl fun g1 => ?_
  refine a_box hT 21 rfl rfl rfl rfl fun g2 => ?_
  refine a_new hT hZ 22 rfl rfl rfl rfl fun g3 => ?_
  refine a_freezeK 3 20 rfl rfl rfl rfl rfl ?_
  refine a_freezeK 4 21 rfl rfl rfl rfl rfl ?_
  refine a_treeN hT [2, 3, 4, 6, 7] (fun g : Nat => [nd (vlD v), .d (.p (schD s)), .d (.p (eF ⟨num, name, kind, rep, ty⟩)), .v (.pointer (some ⟨g3, 0, none⟩)) 22, .v (.pointer (some ⟨g, 0, none⟩)) 23]) (fun g => [(22, .blk g3 139 [.v (kI 0) 0, .v (kI 0) 0, .v (kU 0) 0, .v (.slice none 0 0) 0]), (23, .blk g 139 [.v (kI num) 0, .v (kI wk) 0, .v (kU 0) 0, .v (.slice none 0 0) 0])]) (fun _ => True) [] 8 [(0, false), (2, false), (1, false), (3, false)] rfl rfl (by kernel_rfl) (by kernel_rfl) rfl ?_ ?_
  · refine a_alt hT [([(4, true), (5, false), (6, true), (7, true)], true), ([(6, true), (4, true), (5, true), (7, true)], true)] rfl rfl (by kernel_rfl) ⟨?_, ?_, trivial⟩
    · refine a_call hT rfl rfl rfl (by kernel_rfl) hW [] [] rfl rfl ?_
      rintro _ _ ⟨rfl, rfl⟩
      refine a_build hT hZ [.v (kI (FDP.num { num := num, name := name, kind := kind, rep := rep, ty := ty })) 0, .v (kI wk) 0, .v (Value.int IntKind.u64 0) 0, .v (Value.slice none 0 0) 0] rfl rfl rfl rfl rfl rfl ?_
      refine a_new hT hZ 23 rfl rfl rfl rfl fun g => ?_
      exact a_next hT g [22, 23] rfl rfl trivial ⟨Fit.refl _, rfl, rfl, rfl, rfl, trivial⟩ rfl ⟨⟨rfl, rfl, rfl, rfl, rfl, rfl, trivial⟩, ⟨rfl, rfl, rfl, rfl, rfl, rfl, trivial⟩, trivial⟩
    · refine a_new hT hZ 23 rfl rfl rfl rfl fun g => ?_
      refine a_call hT rfl rfl rfl (by kernel_rfl) hW [] [] rfl rfl ?_
      rintro _ _ ⟨rfl, rfl⟩
      refine a_build hT hZ [.v (kI (FDP.num { num := num, name := name, kind := kind, rep := rep, ty := ty })) 0, .v (kI wk) 0, .v (Value.int IntKind.u64 0) 0, .v (Value.slice none 0 0) 0] rfl rfl rfl rfl rfl rfl ?_
      exact a_next hT g [22, 23] rfl rfl trivial ⟨Fit.refl _, rfl, rfl, rfl, rfl, trivial⟩ rfl ⟨⟨rfl, rfl, rfl, rfl, rfl, rfl, trivial⟩, ⟨rfl, rfl, rfl, rfl, rfl, rfl, trivial⟩, trivial⟩
  rintro g _
  cases v with
  | int n =>
    have hn : I64 n := by cases hv; assumption
    have hZg := Zig_spec hn
    refine a_t hT rfl rfl rfl ?_
    refine a_if hT rfl rfl (fun h => ?_) (fun h => ?_)
    · have h := eq_of_beq h
      refine a_callF hT rfl rfl rfl (by kernel_rfl) hZg [] [] ⟨rfl, trivial⟩ rfl trivial ?_
      rintro _ _ ⟨rfl, rfl⟩
      refine a_ret hT [] rfl rfl rfl rfl rfl rfl ?_
      exact ⟨_, Le.agg (.cons (Le.refl _) (.cons (Le.refl _) (.cons (Le.refl _) (.cons le_nil .nil)))), by rw [show numW kind (.int n) = (zigP n).toNat from if_pos (by assumption)]; rfl, rfl⟩
    · have h := ne_of_beq_false h
      refine a_ret hT [] rfl rfl rfl rfl rfl rfl ?_
      exact ⟨_, Le.agg (.cons (Le.refl _) (.cons (Le.refl _) (.cons (Le.refl _) (.cons le_nil .nil)))), by rw [show numW kind (.int n) = u64 n from if_neg (by assumption), ← u64_wrap]; rfl, rfl⟩
  | uint u =>
    refine a_assertN hT (.int .i64 0) rfl rfl rfl rfl rfl (by kernel_rfl) rfl ?_
    refine a_f hT rfl rfl rfl ?_
    refine a_t hT rfl rfl rfl ?_
    refine a_ret hT [] rfl rfl rfl rfl rfl rfl ?_
    exact ⟨_, Le.agg (.cons (Le.refl _) (.cons (Le.refl _) (.cons nd_of (.cons le_nil .nil)))), by show _ = AV.agg [_, _, .v (kU ((u.toNat : Nat) : Int)) 0, _]; rw [Int.toNat_of_nonneg (by cases hv; rename_i hu; exact hu.1)]; rfl, rfl⟩
  | bool b =>
    refine a_assertN hT (.int .i64 0) rfl rfl rfl rfl rfl (by kernel_rfl) rfl ?_
    refine a_f hT rfl rfl rfl ?_
    refine a_assertN hT (.int .u64 0) rfl rfl rfl rfl rfl (by kernel_rfl) rfl ?_
    refine a_f hT rfl rfl rfl ?_
    refine a_t hT rfl rfl rfl ?_
    refine a_if hT rfl rfl (fun h => ?_) (fun h => ?_)
    · refine a_ret hT [] rfl rfl rfl rfl rfl rfl ?_
      exact ⟨_, Le.agg (.cons (Le.refl _) (.cons (Le.refl _) (.cons (Le.refl _) (.cons le_nil .nil)))), by rw [show b = true by simpa using (by assumption)]; rfl, rfl⟩
    · refine a_ret hT [] rfl rfl rfl rfl rfl rfl ?_
      exact ⟨_, Le.agg (.cons (Le.refl _) (.cons (Le.refl _) (.cons (Le.refl _) (.cons le_nil .nil)))), by rw [show b = false by simpa using (by assumption)]; rfl, rfl⟩
  | enum n =>
    refine a_assertN hT (.int .i64 0) rfl rfl rfl rfl rfl (by kernel_rfl) rfl ?_
    refine a_f hT rfl rfl rfl ?_
    refine a_assertN hT (.int .u64 0) rfl rfl rfl rfl rfl (by kernel_rfl) rfl ?_
    refine a_f hT rfl rfl rfl ?_
    refine a_assertN hT (.bool false) rfl rfl rfl rfl rfl (by kernel_rfl) rfl ?_
    refine a_f hT rfl rfl rfl ?_
    refine a_t hT rfl rfl rfl ?_
    refine a_ret hT [] rfl rfl rfl rfl rfl rfl ?_
    exact ⟨_, Le.agg (.cons (Le.refl _) (.cons (Le.refl _) (.cons (Le.refl _) (.cons le_nil .nil)))), by show _ = AV.agg [_, _, .v (kU ((u64 n : Nat) : Int)) 0, _]; rw [← u64_wrap, show IntKind.i64.wrap n = n from w64 (by cases hv; omega) (by cases hv; omega)]; rfl, rfl⟩
  | text t =>
    have hts : t.size ≤ lim := by cases hv; unfold lim; omega
    refine a_assertN hT (.int .i64 0) rfl rfl rfl rfl rfl (by kernel_rfl) rfl ?_
    refine a_f hT rfl rfl rfl ?_
    refine a_assertN hT (.int .u64 0) rfl rfl rfl rfl rfl (by kernel_rfl) rfl ?_
    refine a_f hT rfl rfl rfl ?_
    refine a_assertN hT (.bool false) rfl rfl rfl rfl rfl (by kernel_rfl) rfl ?_
    refine a_f hT rfl rfl rfl ?_
    refine a_assertN hT (.int .i32 0) rfl rfl rfl rfl rfl (by kernel_rfl) rfl ?_
    refine a_f hT rfl rfl rfl ?_
    refine a_t hT rfl rfl rfl ?_
    refine a_bytes hT rfl rfl rfl rfl rfl rfl rfl hts ?_
    refine a_ret hT [] rfl rfl rfl rfl rfl rfl ?_
    exact ⟨_, Le.refl _, rfl, rfl⟩
  | bytes t =>
    have hts : t.size ≤ lim := by cases hv; unfold lim; omega
    refine a_assertN hT (.int .i64 0) rfl rfl rfl rfl rfl (by kernel_rfl) rfl ?_
    refine a_f hT rfl rfl rfl ?_
    refine a_assertN hT (.int .u64 0) rfl rfl rfl rfl rfl (by kernel_rfl) rfl ?_
    refine a_f hT rfl rfl rfl ?_
    refine a_assertN hT (.bool false) rfl rfl rfl rfl rfl (by kernel_rfl) rfl ?_
    refine a_f hT rfl rfl rfl ?_
    refine a_assertN hT (.int .i32 0) rfl rfl rfl rfl rfl (by kernel_rfl) rfl ?_
    refine a_f hT rfl rfl rfl ?_
    refine a_assertN hT (.string ByteArray.empty) rfl rfl rfl rfl rfl (by kernel_rfl) rfl ?_
    refine a_f hT rfl rfl rfl ?_
    refine a_t hT rfl rfl rfl ?_
    refine a_bytes hT rfl rfl rfl rfl rfl rfl rfl hts ?_
    refine a_ret hT [] rfl rfl rfl rfl rfl rfl ?_
    exact ⟨_, Le.refl _, rfl, rfl⟩
  | msg ty2 fs2 u2 =>
    have hM := hM _ _ _ rfl
    refine a_assertN hT (.int .i64 0) rfl rfl rfl rfl rfl (by kernel_rfl) rfl ?_
    refine a_f hT rfl rfl rfl ?_
    refine a_assertN hT (.int .u64 0) rfl rfl rfl rfl rfl (by kernel_rfl) rfl ?_
    refine a_f hT rfl rfl rfl ?_
    refine a_assertN hT (.bool false) rfl rfl rfl rfl rfl (by kernel_rfl) rfl ?_
    refine a_f hT rfl rfl rfl ?_
    refine a_assertN hT (.int .i32 0) rfl rfl rfl rfl rfl (by kernel_rfl) rfl ?_
    refine a_f hT rfl rfl rfl ?_
    refine a_assertN hT (.string ByteArray.empty) rfl rfl rfl rfl rfl (by kernel_rfl) rfl ?_
    refine a_f hT rfl rfl rfl ?_
    refine a_assertN hT (.string ByteArray.empty) rfl rfl rfl rfl rfl (by kernel_rfl) rfl ?_
    refine a_f hT rfl rfl rfl ?_
    refine a_t hT rfl rfl rfl ?_
    refine a_new hT hZ 24 rfl rfl rfl rfl fun g4 => ?_
    refine a_callF hT rfl rfl rfl (by kernel_rfl) hM [] [] ⟨⟨rfl, rfl, rfl, trivial⟩, ⟨rfl, rfl, rfl, trivial⟩, trivial⟩ rfl trivial ?_
    rintro _ _ ⟨rfl, rfl⟩
    refine a_ret hT [] rfl rfl rfl rfl rfl rfl ?_
    exact ⟨_, Le.refl _, rfl, rfl⟩
  | none =>
    refine a_assertN hT (.int .i64 0) rfl rfl rfl rfl rfl (by kernel_rfl) rfl ?_
    refine a_f hT rfl rfl rfl ?_
    refine a_assertN hT (.int .u64 0) rfl rfl rfl rfl rfl (by kernel_rfl) rfl ?_
    refine a_f hT rfl rfl rfl ?_
    refine a_assertN hT (.bool false) rfl rfl rfl rfl rfl (by kernel_rfl) rfl ?_
    refine a_f hT rfl rfl rfl ?_
    refine a_assertN hT (.int .i32 0) rfl rfl rfl rfl rfl (by kernel_rfl) rfl ?_
    refine a_f hT rfl rfl rfl ?_
    refine a_assertN hT (.string ByteArray.empty) rfl rfl rfl rfl rfl (by kernel_rfl) rfl ?_
    refine a_f hT rfl rfl rfl ?_
    refine a_assertN hT (.string ByteArray.empty) rfl rfl rfl rfl rfl (by kernel_rfl) rfl ?_
    refine a_f hT rfl rfl rfl ?_
    refine a_assertN hT zMsg rfl rfl rfl rfl rfl (by kernel_rfl) rfl ?_
    refine a_f hT rfl rfl rfl ?_
    refine a_ret hT [] rfl rfl rfl rfl rfl rfl ?_
    exact ⟨_, Le.agg (.cons (Le.refl _) (.cons (Le.refl _) (.cons (Le.refl _) (.cons le_nil .nil)))), rfl, rfl⟩
end Go.Proofs.YtjcolfogmmjaoaaGreatDoor
end
