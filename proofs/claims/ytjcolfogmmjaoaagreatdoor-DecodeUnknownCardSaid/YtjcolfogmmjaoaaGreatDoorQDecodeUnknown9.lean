import Derived.Test.YtjcolfogmmjaoaaGreatDoorQDecodeUnknown8
import Derived.Test.YtjcolfogmmjaoaaGreatDoorQDecodeUnknown5
import Derived.Shelf.Unicode.ValidAny
import Derived.Lib.LaidU8T
import Derived.Test.YtjcolfogmmjaoaaGreatDoorQDecodeUnknown7
import Derived.Test.YtjcolfogmmjaoaaGreatDoorQDecodeUnknown4
section
set_option linter.unusedVariables false
set_option linter.unusedSimpArgs false
set_option maxRecDepth 100000
namespace Go.Proofs.YtjcolfogmmjaoaaGreatDoor
open V A
open Go.Shelf
def u8Ren : Go.Shelf.Ren := ⟨fun | 196 => 98 | 259 => 139 | n => n, fun | 9 => 9 | 4 => 4 | 3 => 3 | 5 => 5 | 12 => 12 | 119 => 195 | 0 => 0 | 46 => 65 | 139 => 198 | 138 => 197 | 53 => 35 | n => n, fun | 3 => 0 | 4 => 1 | n => n⟩
theorem u8Lay : Go.Proofs.Lays.n196 Tryz.prog u8Ren := {
  mixed := by kernel_rfl,
  f196 := Tryz.func98.trans (congrArg some (by kernel_rfl)),
  f259 := Tryz.func139.trans (congrArg some (by kernel_rfl)),
  t0 := Tryz.underlying0,
  a0 := Tryz.isAgg0,
  z0 := Tryz.sizeOf0,
  v0 := Tryz.zeroValue0,
  t3 := Tryz.underlying3,
  a3 := Tryz.isAgg3,
  z3 := Tryz.sizeOf3,
  v3 := Tryz.zeroValue3,
  t4 := Tryz.underlying4,
  a4 := Tryz.isAgg4,
  z4 := Tryz.sizeOf4,
  v4 := Tryz.zeroValue4,
  t5 := Tryz.underlying5,
  a5 := Tryz.isAgg5,
  z5 := Tryz.sizeOf5,
  v5 := Tryz.zeroValue5,
  t9 := Tryz.underlying9,
  a9 := Tryz.isAgg9,
  z9 := Tryz.sizeOf9,
  v9 := Tryz.zeroValue9,
  t12 := Tryz.underlying12,
  a12 := Tryz.isAgg12,
  z12 := Tryz.sizeOf12,
  v12 := Tryz.zeroValue12,
  t46 := Tryz.underlying65,
  a46 := Tryz.isAgg65,
  z46 := Tryz.sizeOf65,
  v46 := Tryz.zeroValue65,
  t53 := Tryz.underlying35,
  a53 := Tryz.isAgg35,
  z53 := Tryz.sizeOf35,
  v53 := Tryz.zeroValue35,
  t119 := Tryz.underlying195,
  a119 := Tryz.isAgg195,
  z119 := Tryz.sizeOf195,
  t138 := Tryz.underlying197,
  a138 := Tryz.isAgg197,
  z138 := Tryz.sizeOf197,
  v138 := Tryz.zeroValue197,
  t139 := Tryz.underlying198,
  a139 := Tryz.isAgg198,
  z139 := Tryz.sizeOf198,
  v139 := Tryz.zeroValue198,
  g3 := by kernel_rfl,
  g4 := by kernel_rfl }
def u8g (k : Nat) : Nat := u8Ren.g k
def u8A : Asrt where
  h := fun M S w => (∀ b, ¬ S b) ∧ Lib.Utf8Tabs (u8g 3) (u8g 4) w ∧ ¬ M (u8g 3) ∧ ¬ M (u8g 4)
  ev := fun {M S w M' N w'} h he hN hm => by
    obtain ⟨h1, h2, h3, h4⟩ := h
    have lt : ∀ {a : Addr} {v : Value}, w.cell? a = some v → a.block < w.heap.size := fun {a v} hc => by
      rcases Nat.lt_or_ge a.block w.heap.size with h' | h'
      · exact h'
      · simp [World.cell?, Array.getElem?_eq_none h'] at hc
    have l3 : u8g 3 < w.heap.size := lt (h2.1 0 (by omega))
    have l4 : u8g 4 < w.heap.size := lt (h2.2 0 (by omega)).1
    have k3 : w'.heap[u8g 3]? = w.heap[u8g 3]? := he.block _ l3 fun hb => h3 (hm _ l3 (.inl hb))
    have k4 : w'.heap[u8g 4]? = w.heap[u8g 4]? := he.block _ l4 fun hb => h4 (hm _ l4 (.inl hb))
    refine ⟨h1, ⟨fun c hc => ?_, fun i hi => ?_⟩, fun hb => h3 (hm _ l3 (.inr hb)), fun hb => h4 (hm _ l4 (.inr hb))⟩
    · rw [← h2.1 c hc]; simp only [World.cell?, k3]
    · obtain ⟨e1, e2⟩ := h2.2 i hi
      rw [← e1, ← e2]; simp only [World.cell?, k4, and_self]
  lt := fun h b hb => absurd hb (h.1 b)
def u8C : Chunk := .ext u8A
def validB (b : ByteArray) : Bool := Lib.validD b.data.toList
theorem ValidString_spec {b : ByteArray} {h : Nat} (hb : b.size ≤ 4611686018427387904) : FSpec Tryz.prog 98 [.v (.string b) h] [u8C] fun a cs => a = bA (validB b) ∧ cs = [u8C] := by
  refine ⟨fun X S w xs h1 h2 h3 h4 => ?_⟩
  unfold Reps at h4
  obtain ⟨x, r, rfl, hx, h4⟩ := h4
  unfold Reps at h4
  subst h4
  rw [rep_v hx]
  have hT : Lib.Utf8Tabs (u8g 3) (u8g 4) w := by
    obtain ⟨S1, S2, _, _, hc, _⟩ := h3
    exact hc.2.1
  have hC : Calls Tryz.prog 98 #[.string b] w fun e w' => e = .returned (.bool (validB b)) ∧ Go.RowKit.Below w.heap.size w w' := Any.utf8_ValidString u8Lay b w (by omega) hT
  refine hC.mono ?_
  rintro e w' ⟨rfl, hb⟩
  have he : Ev no w w' := ⟨hb.os, hb.tape, hb.output, hb.size, fun k hk _ => hb.block k hk⟩
  exact ⟨_, bA (validB b), [u8C], S, rfl, ⟨rfl, rfl⟩, mk_v, HoldsL.ev he (fun b _ h => h.elim (fun h => h.elim) id) h3 (fun b _ h => h.elim), he.mono fun b _ h => h.elim, fun b h => .inl h⟩
end Go.Proofs.YtjcolfogmmjaoaaGreatDoor
end

section
set_option linter.unusedVariables false
set_option linter.unusedSimpArgs false
set_option maxRecDepth 100000
namespace Go.Proofs.YtjcolfogmmjaoaaGreatDoor.A
open V
section
variable {P : Program} {L : List TD} {Z : List (List Value)} {n : Nat} {Q : Exit → Act → World → Prop} {c : Ctx}
variable {s : AMS} {f f' : AEnv} {σ σ' : Store} {κ : List Kt} {all : Array Oper} {dec : List Nat} {rest : List (Oper × Bool)} {m : Mode} {o : Oper} {al : Bool} {ob : Obs}
theorem a_sl3 (hT : TOk P L) {t e : TypeId} {k : Nat} {x y z : Operand} {q1 q2 : IntKind} {i1 i2 : Int} {h1 h2 : Nat} {es : List (List Dat)} (h : machA L n fuel s f σ [] = ⟨.op m κ all dec o al rest, f', σ', ob⟩) (hob : ob.map (·.1) = ob.map (·.2)) (ho : o.op = .slice t x none (some y) (some z)) (ht : tl L t = .sl e k) (hx : evA n f' x = .d (.sl k es))
    (hy : evN n f' y = .v (.int q1 i1) h1) (hz : evN n f' z = .v (.int q2 i2) h2) (hi1 : i1 = (es.length : Int)) (hi2 : i2 = (es.length : Int)) (hk : DenA c P n Q (.ops m κ all dec rest) (putA f' o.dst (.d (.sl k es))) σ') : DenA c P n Q s f σ := by
  subst hi1
  subst hi2
  refine a_pure hT (.d (.sl k es)) h hob (fun M w fc he => ?_) hk
  obtain ⟨hu, hinf, hm⟩ := sl_tl hT ht
  have h3 := he.eval (n := n) x
  rw [hx] at h3
  unfold Rep at h3
  unfold DRep at h3
  obtain ⟨A, cap, hv, hc, hlen, hr⟩ := h3
  have e1 := he.evalN (n := n) y
  rw [hy] at e1
  have e2 := he.evalN (n := n) z
  rw [hz] at e2
  have ha : ∀ a : Addr, a.add (0 * k) = a := fun a => by unfold Addr.add; simp
  refine ⟨.slice A es.length es.length, fun w' => ?_, ?_⟩
  · have hbd : (Instr.sliceBounds true es.length cap none (some (ev n fc y)) (some (ev n fc z))).run P w' = .ok (0, es.length, es.length) w' := by
      rw [rep_v e1, rep_v e2]
      simp [Instr.sliceBounds, Instr.sliceBound, asIntOf, hc]
    have hA : (if es.length = 0 then A else A.map (·.add (0 * k))) = A := by
      split
      · rfl
      · cases A with
        | none => rfl
        | some a => rw [Option.map_some, ha]
    simp only [execOp, ho, Instr.sliceAt, Instr.slice, hv, underlying, Option.map_some, Option.map_none, Sem.run_bind, run_program, Result.andThen_ok, hu, Sem.run_pure, hbd, run_sizeOf' hinf, hm, hA, Nat.sub_zero]
  · unfold Rep
    unfold DRep
    exact ⟨A, es.length, rfl, Nat.le_refl _, hlen, hr⟩
theorem a_garr (hT : TOk P L) {t e : TypeId} {N k g off hh h2 : Nat} {x y : Operand} {ki : IntKind} {i : Int} (j : Nat) (h : machA L n fuel s f σ [] = ⟨.op m κ all dec o al rest, f', σ', ob⟩) (hob : ob.map (·.1) = ob.map (·.2)) (ho : o.op = .indexAddr t x y) (ht : tl L t = .arr N e k)
    (hx : evA n f' x = .v (.pointer (some ⟨g, off, none⟩)) hh) (hy : evN n f' y = .v (.int ki i) h2) (hi : i = (j : Int)) (hj : j < N) (hk : DenA c P n Q (.ops m κ all dec rest) (putA f' o.dst (.v (.pointer (some ⟨g, off + j * k, none⟩)) 0)) σ') : DenA c P n Q s f σ := by
  subst hi
  refine a_pure hT (.v (.pointer (some ⟨g, off + j * k, none⟩)) 0) h hob (fun M w fc he => ?_) hk
  obtain ⟨inf, hu, hi', hsm, hm, hck⟩ := arr_tl hT ht
  have h1 := he.eval (n := n) x
  have h2 := he.evalN (n := n) y
  rw [hx] at h1
  rw [hy] at h2
  refine ⟨.pointer (some ⟨g, off + j * k, none⟩), fun w' => ?_, mk_v⟩
  have hs : (sizeOf e).run P w' = .ok k w' := by rw [run_sizeOf' hsm]; rw [hck]
  have hadd : (⟨g, off, none⟩ : Addr).add (j * k) = ⟨g, off + j * k, none⟩ := by
    unfold Addr.add
    split
    · rename_i e; rw [e]; rfl
    · rfl
  simp [execOp, ho, Instr.indexAt, rep_v h1, rep_v h2, asIntOf, underlying, hu, hj, Instr.sureAddr, hs, hadd]
end
end Go.Proofs.YtjcolfogmmjaoaaGreatDoor.A
end

section
set_option linter.unusedVariables false
set_option linter.unusedSimpArgs false
set_option maxRecDepth 100000
namespace Go.Proofs.YtjcolfogmmjaoaaGreatDoor
open V A
def splitP (c : UInt8) : List UInt8 → List (List UInt8)
  | [] => [[]]
  | b :: l => if b = c then [] :: splitP c l else match splitP c l with
    | [] => [[b]]
    | h :: t => (b :: h) :: t
theorem split_none {c : UInt8} : ∀ {l : List UInt8}, Lib.indexByte l c = -1 → splitP c l = [l] ∧ l.count c = 0
  | [], _ => ⟨rfl, rfl⟩
  | b :: l, h => by
    unfold Lib.indexByte at h
    by_cases hb : b = c
    · simp [hb] at h
    · have hb' : (b == c) = false := by simpa using hb
      rw [hb'] at h
      simp only [Bool.false_eq_true, if_false] at h
      split at h
      · rename_i h1
        have h1 : Lib.indexByte l c = -1 := by simpa using h1
        obtain ⟨k1, k2⟩ := split_none h1
        refine ⟨?_, ?_⟩
        · unfold splitP
          rw [if_neg hb, k1]
        · rw [List.count_cons, k2, hb']
          rfl
      · have := Lib.indexByte_ge l c
        rename_i h1
        have h1 : ¬ Lib.indexByte l c = -1 := by simpa using h1
        omega
theorem split_some {c : UInt8} : ∀ {l : List UInt8} {m : Nat}, Lib.indexByte l c = (m : Int) → m < l.length ∧ splitP c l = l.take m :: splitP c (l.drop (m + 1)) ∧ l.count c = (l.drop (m + 1)).count c + 1
  | [], m, h => by unfold Lib.indexByte at h; omega
  | b :: l, m, h => by
    unfold Lib.indexByte at h
    by_cases hb : b = c
    · simp [hb] at h
      have : m = 0 := by omega
      subst this
      refine ⟨by simp, ?_, ?_⟩
      · conv => lhs; unfold splitP
        rw [if_pos hb]
        rfl
      · rw [List.count_cons]
        simp [hb]
    · have hb' : (b == c) = false := by simpa using hb
      rw [hb'] at h
      simp only [Bool.false_eq_true, if_false] at h
      split at h
      · omega
      · rename_i h1
        have h1 : ¬ Lib.indexByte l c = -1 := by simpa using h1
        have h2 := Lib.indexByte_ge l c
        obtain ⟨m', rfl⟩ : ∃ m', m = m' + 1 := ⟨m - 1, by omega⟩
        obtain ⟨k1, k2, k3⟩ := split_some (c := c) (l := l) (m := m') (by omega)
        refine ⟨by simp; omega, ?_, ?_⟩
        · conv => lhs; unfold splitP
          rw [if_neg hb, k2]
          rfl
        · rw [List.count_cons, hb', k3]
          simp
theorem ext_data (s : ByteArray) (l r : Nat) : (s.extract l r).data.toList = (s.data.toList.drop l).take (r - l) := by
  rw [ByteArray.data_extract, Array.toList_extract]
theorem size_data (s : ByteArray) : s.data.toList.length = s.size := rfl
def eS (b : ByteArray) : List A.Dat := [.v (.string b)]
def eL (l : List UInt8) : List A.Dat := eS ⟨l.toArray⟩
theorem IndexByte_spec {s : ByteArray} {c : Int} {h h1 : Nat} : FSpec Tryz.prog 166 [.v (.string s) h, .v (.int .u8 c) h1] [] fun a cs => a = .v (kI (Lib.indexByte s.data.toList c.toNat.toUInt8)) 0 ∧ cs = [] := by
  refine a_enter hT [.v (.string s) 0, .v (.int .u8 c) 0] [] Tryz.func166 rfl rfl rfl ⟨rfl, rfl, trivial⟩ fun c' => ?_
  refine a_ext hT [.string s, .int .u8 c] (.int .i64 (Lib.indexByte s.data.toList c.toNat.toUInt8)) rfl rfl rfl rfl (fun w => ?_) ?_
  · rw [run_callFunc_extern (fn := Tryz.f170) (by kernel_rfl) (by kernel_rfl) (by kernel_rfl) (by kernel_rfl) (e := Extern.BytealgIndexByte.indexByte) (by kernel_rfl), Lib.run_indexByteString]
    rfl
  exact a_ret hT [] rfl rfl rfl rfl rfl rfl ⟨rfl, rfl⟩
theorem LiteIndex_spec {s : ByteArray} {c : UInt8} {h h1 : Nat} : FSpec Tryz.prog 164 [.v (.string s) h, .v (.string ⟨#[c]⟩) h1] [] fun a cs => a = .v (kI (Lib.indexByte s.data.toList c)) 0 ∧ cs = [] := by
  refine a_enter hT [.v (.string s) 0, .v (.string ⟨#[c]⟩) 0] [] Tryz.func164 rfl rfl rfl ⟨rfl, rfl, trivial⟩ fun c' => ?_
  have hu : (Int.toNat (c.toNat : Int)).toUInt8 = c := by simp
  refine a_gf hT rfl rfl rfl rfl ?_
  refine a_if hT rfl rfl (fun h2 => ?_) (fun h2 => ?_)
  · have h2 := eq_of_beq h2
    rw [Lib.toList_data, Lib.toList_data] at h2
    refine a_ret hT [] rfl rfl rfl rfl rfl rfl ⟨?_, rfl⟩
    rw [← h2]
    show AV.v (kI 0) 0 = AV.v (kI (Lib.indexByte [c] c)) 0
    simp [Lib.indexByte]
  · refine a_t hT rfl rfl rfl ?_
    refine a_sx hT rfl rfl rfl rfl rfl rfl (by decide) (show 0 < 1 by decide) ?_
    have hI := IndexByte_spec (s := s) (c := (c.toNat : Int)) (h := 0) (h1 := 0)
    rw [hu] at hI
    refine a_call hT rfl rfl rfl (by kernel_rfl) hI [] [] rfl rfl ?_
    rintro _ _ ⟨rfl, rfl⟩
    exact a_ret hT [] rfl rfl rfl rfl rfl rfl ⟨rfl, rfl⟩
theorem Index_spec {s : ByteArray} {c : UInt8} {h h1 : Nat} : FSpec Tryz.prog 158 [.v (.string s) h, .v (.string ⟨#[c]⟩) h1] [] fun a cs => a = .v (kI (Lib.indexByte s.data.toList c)) 0 ∧ cs = [] := by
  refine a_enter hT [.v (.string s) 0, .v (.string ⟨#[c]⟩) 0] [] Tryz.func158 rfl rfl rfl ⟨rfl, rfl, trivial⟩ fun c' => ?_
  refine a_call hT rfl rfl rfl (by kernel_rfl) LiteIndex_spec [] [] rfl rfl ?_
  rintro _ _ ⟨rfl, rfl⟩
  exact a_ret hT [] rfl rfl rfl rfl rfl rfl ⟨rfl, rfl⟩
theorem Count_spec {s : ByteArray} {c : UInt8} {h h1 : Nat} : FSpec Tryz.prog 157 [.v (.string s) h, .v (.string ⟨#[c]⟩) h1] [] fun a cs => a = .v (kI (s.data.toList.count c)) 0 ∧ cs = [] := by
  refine a_enter hT [.v (.string s) 0, .v (.string ⟨#[c]⟩) 0] [] Tryz.func157 rfl rfl rfl ⟨rfl, rfl, trivial⟩ fun c' => ?_
  have hu : (Int.toNat (c.toNat : Int)).toUInt8 = c := by simp
  refine a_f hT rfl rfl rfl ?_
  refine a_t hT rfl rfl rfl ?_
  refine a_sx hT rfl rfl rfl rfl rfl rfl (by decide) (show 0 < 1 by decide) ?_
  refine a_ext hT [.string s, .int .u8 (c.toNat : Int)] (.int .i64 (Lib.countByte s.data.toList c)) rfl rfl rfl rfl (fun w => ?_) ?_
  · rw [run_callFunc_extern (fn := Tryz.f163) (by kernel_rfl) (by kernel_rfl) (by kernel_rfl) (by kernel_rfl) (e := Extern.BytealgCount.count) (by kernel_rfl), Lib.run_countString, hu]
    rfl
  exact a_ret hT [] rfl rfl rfl rfl rfl rfl ⟨rfl, rfl⟩
theorem genSplit_spec {s : ByteArray} {c : UInt8} {h h1 h2 h3 : Nat} (hs : s.size ≤ 900000) : FSpec Tryz.prog 141 [.v (.string s) h, .v (.string ⟨#[c]⟩) h1, .v (kI 0) h2, .v (kI (-1)) h3] [] fun a cs => ∃ x, a = .row x 1 ∧ cs = [.row x 9 1 ((splitP c s.data.toList).map eL)] := by
  refine a_enter hT [.v (.string s) 0, .v (.string ⟨#[c]⟩) 0, .v (kI 0) 0, .v (kI (-1)) 0] [] Tryz.func141 rfl rfl rfl ⟨rfl, rfl, rfl, rfl, trivial⟩ fun c' => ?_
  have hcl : s.data.toList.count c ≤ s.size := List.count_le_length
  generalize hcnt : s.data.toList.count c = cnt at hcl
  have hCt := Count_spec (s := s) (c := c) (h := 0) (h1 := 0)
  rw [hcnt] at hCt
  have hw1 : IntKind.i64.wrap ((cnt : Int) + 1) = ((cnt + 1 : Nat) : Int) := by rw [w64 (by omega) (by omega)]; omega
  have hw2 : IntKind.i64.wrap ((s.size : Int) + 1) = ((s.size + 1 : Nat) : Int) := by rw [w64 (by omega) (by omega)]; omega
  refine a_f hT rfl rfl rfl ?_
  refine a_f hT rfl rfl (by rw [Lib.toList_data, Lib.toList_data]; rfl) ?_
  refine a_t hT rfl rfl rfl ?_
  refine a_call hT rfl rfl rfl (by kernel_rfl) hCt [] [] rfl rfl ?_
  rintro _ _ ⟨rfl, rfl⟩
  have hN : (if IntKind.i64.wrap ((s.size : Int) + 1) < IntKind.i64.wrap ((cnt : Int) + 1) then IntKind.i64.wrap ((s.size : Int) + 1) else IntKind.i64.wrap ((cnt : Int) + 1)) = ((cnt + 1 : Nat) : Int) := by
    rw [hw1, hw2, if_neg (by omega)]
  refine a_mkslice hT 1 (z := .string ByteArray.empty) (cnt + 1) (cnt + 1) rfl rfl rfl rfl (by kernel_rfl) (by kernel_rfl) rfl rfl rfl hN hN (Nat.le_refl _) (by omega) fun x => ?_
  refine a_rowfact 1 rfl rfl ?_
  rintro (⟨_, hn⟩ | ⟨g, cap, hx⟩)
  · exact absurd hn (by simp [List.replicate_succ])
  rw [List.length_replicate] at hx
  subst hx
  have hw3 : IntKind.i64.wrap (((cnt + 1 : Nat) : Int) - 1) = (cnt : Int) := by rw [w64 (by omega) (by omega)]; omega
  refine a_loop hT [0, 1, 2, 3, 9, 10] (fun p : List (List UInt8) × ByteArray => [.v (.string p.2) 0, .v (.string ⟨#[c]⟩) 0, .v (kI 0) 0, .v (kI cnt) 0, .row (.slice (some ⟨g, 0, none⟩) (cnt + 1) cap) 1, .v (kI p.1.length) 0]) (fun p => [(1, .row (.slice (some ⟨g, 0, none⟩) (cnt + 1) cap) 9 1 (p.1.map eL ++ List.replicate (p.2.data.toList.count c + 1) (eS ByteArray.empty)))]) (fun p => splitP c s.data.toList = p.1 ++ splitP c p.2.data.toList ∧ p.1.length + p.2.data.toList.count c = cnt ∧ p.2.size ≤ 900000) (fun p => p.2.data.toList.count c) ([], s) [1] rfl rfl ⟨rfl, by simpa using hcnt, hs⟩ ⟨rfl, rfl, rfl, by show Value.int .i64 (IntKind.i64.wrap (_ - 1)) = Value.int .i64 _; rw [hN, hw3], rfl, rfl, trivial⟩ rfl ⟨⟨rfl, rfl, rfl, by rw [hcnt]; rfl⟩, trivial⟩ ?_
  rintro ⟨done, r⟩ ⟨i1, i2, i3⟩
  dsimp only at i1 i2 i3
  have hset : ∀ (es : List (List A.Dat)) x, (done.map eL ++ eS ByteArray.empty :: es).set done.length ((eS ByteArray.empty).set 0 (.v (.string x))) = (done ++ [x.data.toList]).map eL ++ es := fun es x => by
    have := List.set_append_right (s := done.map eL) (t := eS ByteArray.empty :: es) done.length ((eS ByteArray.empty).set 0 (.v (.string x))) (by simp)
    rw [this]
    simp [eL, eS]
  have hat : ∀ (es : List (List A.Dat)), (done.map eL ++ eS ByteArray.empty :: es)[done.length]? = some (eS ByteArray.empty) := fun es => by
    rw [List.getElem?_append_right (by simp)]
    simp
  refine a_if hT rfl rfl (fun h4 => ?_) (fun h4 => ?_)
  · have h4 : (done.length : Int) < (cnt : Int) := of_decide_eq_true h4
    have hI := Index_spec (s := r) (c := c) (h := 0) (h1 := 0)
    obtain ⟨m, hm⟩ : ∃ m : Nat, Lib.indexByte r.data.toList c = m := by
      have h1 := Lib.indexByte_ge r.data.toList c
      rcases Int.lt_or_le (Lib.indexByte r.data.toList c) 0 with h2 | h2
      · have := (split_none (show Lib.indexByte r.data.toList c = -1 by omega)).2
        omega
      · exact ⟨(Lib.indexByte r.data.toList c).toNat, by omega⟩
    rw [hm] at hI
    obtain ⟨k1, k2, k3⟩ := split_some hm
    rw [size_data] at k1
    obtain ⟨k, hk⟩ : ∃ k, (r.data.toList.drop (m + 1)).count c = k := ⟨_, rfl⟩
    have hes : List.replicate (r.data.toList.count c + 1) (eS ByteArray.empty) = eS ByteArray.empty :: List.replicate (k + 1) (eS ByteArray.empty) := by rw [k3, hk]; rfl
    refine a_call hT rfl rfl rfl (by kernel_rfl) hI [] [] rfl rfl ?_
    rintro _ _ ⟨rfl, rfl⟩
    refine a_f hT rfl rfl (decide_eq_false (by show ¬ (m : Int) < 0; omega)) ?_
    have hw4 : IntKind.i64.wrap ((m : Int) + 0) = (m : Int) := by rw [w64 (by omega) (by omega)]; omega
    have hw5 : IntKind.i64.wrap ((m : Int) + ((ByteArray.size ⟨#[c]⟩ : Nat) : Int)) = ((m + 1 : Nat) : Int) := by
      show IntKind.i64.wrap ((m : Int) + 1) = _
      rw [w64 (by omega) (by omega)]
      rfl
    have hw6 : IntKind.i64.wrap ((done.length : Int) + 1) = ((done.length + 1 : Nat) : Int) := by rw [w64 (by omega) (by omega)]; omega
    refine a_ssl hT 0 m (r.extract 0 m) rfl rfl rfl rfl rfl rfl ⟨.i64, 0, by show AV.v (Value.int .i64 (IntKind.i64.wrap ((m : Int) + 0))) 0 = _; rw [hw4]⟩ (Nat.zero_le _) (show m ≤ r.size by omega) rfl ?_
    refine a_rix hT done.length rfl rfl rfl rfl rfl rfl rfl (by omega) ?_
    refine a_rst hT done.length 0 (eS ByteArray.empty) (.v (.string (r.extract 0 m))) rfl rfl rfl rfl rfl rfl rfl (by omega) (by rw [hes]; exact hat _) (by omega) rfl ?_
    refine a_ssl hT (m + 1) r.size (r.extract (m + 1) r.size) rfl rfl rfl rfl rfl ⟨.i64, 0, by show AV.v (Value.int .i64 (IntKind.i64.wrap ((m : Int) + _))) 0 = _; rw [hw5]⟩ rfl (show m + 1 ≤ r.size by omega) (Nat.le_refl _) rfl ?_
    have hd1 : (r.extract 0 m).data.toList = r.data.toList.take m := by rw [ext_data]; simp
    have hd2 : (r.extract (m + 1) r.size).data.toList = r.data.toList.drop (m + 1) := by
      rw [ext_data, List.take_of_length_le]
      rw [List.length_drop, size_data]
      exact Nat.le_refl _
    refine a_next hT (done ++ [(r.extract 0 m).data.toList], r.extract (m + 1) r.size) [1] rfl rfl ⟨⟨?_, ?_, ?_⟩, ?_⟩ ⟨rfl, rfl, rfl, rfl, rfl, ?_, trivial⟩ rfl ⟨⟨rfl, rfl, rfl, ?_⟩, trivial⟩
    · dsimp only
      rw [hd1, hd2, i1, k2]
      simp
    · dsimp only
      rw [hd2, hk, List.length_append, List.length_singleton]
      omega
    · dsimp only
      have : (r.extract (m + 1) r.size).size ≤ r.size := by
        rw [← size_data, hd2, List.length_drop, size_data]
        omega
      omega
    · dsimp only
      rw [hd2, hk]
      omega
    · show Value.int .i64 (IntKind.i64.wrap ((done.length : Int) + 1)) = Value.int .i64 (((done ++ [(r.extract 0 m).data.toList]).length : Nat) : Int)
      rw [hw6, List.length_append]
      rfl
    · show _ = (done ++ [(r.extract 0 m).data.toList]).map eL ++ List.replicate ((r.extract (m + 1) r.size).data.toList.count c + 1) (eS ByteArray.empty)
      rw [hd2, hk, ← hset, ← hes]
  · have h4 : ¬ (done.length : Int) < (cnt : Int) := of_decide_eq_false h4
    have hc0 : r.data.toList.count c = 0 := by omega
    have hm1 : Lib.indexByte r.data.toList c = -1 := by
      have h1 := Lib.indexByte_ge r.data.toList c
      rcases Int.lt_or_le (Lib.indexByte r.data.toList c) 0 with h2 | h2
      · omega
      · have := (split_some (show Lib.indexByte r.data.toList c = ((Lib.indexByte r.data.toList c).toNat : Int) by omega)).2.2
        omega
    have k1 := (split_none hm1).1
    have hes : List.replicate (r.data.toList.count c + 1) (eS ByteArray.empty) = [eS ByteArray.empty] := by rw [hc0]; rfl
    have hw6 : IntKind.i64.wrap ((done.length : Int) + 1) = ((done.length + 1 : Nat) : Int) := by rw [w64 (by omega) (by omega)]; omega
    refine a_rix hT done.length rfl rfl rfl rfl rfl rfl rfl (by omega) ?_
    refine a_rst hT done.length 0 (eS ByteArray.empty) (.v (.string r)) rfl rfl rfl rfl rfl rfl rfl (by omega) (by show (done.map eL ++ List.replicate (r.data.toList.count c + 1) (eS ByteArray.empty))[done.length]? = _; rw [hes]; exact hat _) (by omega) rfl ?_
    refine a_rsl hT (done.length + 1) rfl rfl rfl rfl rfl rfl rfl rfl hw6 ?_ ?_
    · show done.length + 1 ≤ ((done.map eL ++ List.replicate (r.data.toList.count c + 1) (eS ByteArray.empty)).set done.length _).length
      rw [List.length_set, hes]
      simp
    refine a_ret hT [1] rfl rfl rfl rfl rfl rfl ⟨_, rfl, ?_⟩
    show [Chunk.row _ _ 1 (((done.map eL ++ List.replicate (r.data.toList.count c + 1) (eS ByteArray.empty)).set done.length ((eS ByteArray.empty).set 0 (.v (.string r)))).take (done.length + 1))] = _
    rw [hes, hset, i1, k1, List.append_nil, List.take_of_length_le (by simp)]
theorem Split_spec {s : ByteArray} {c : UInt8} {h h1 : Nat} (hs : s.size ≤ 900000) : FSpec Tryz.prog 103 [.v (.string s) h, .v (.string ⟨#[c]⟩) h1] [] fun a cs => ∃ x, a = .row x 1 ∧ cs = [.row x 9 1 ((splitP c s.data.toList).map eL)] := by
  refine a_enter hT [.v (.string s) 0, .v (.string ⟨#[c]⟩) 0] [] Tryz.func103 rfl rfl rfl ⟨rfl, rfl, trivial⟩ fun c' => ?_
  refine a_call hT rfl rfl rfl (by kernel_rfl) (genSplit_spec hs) [] [1] rfl rfl ?_
  rintro _ _ ⟨x, rfl, rfl⟩
  exact a_ret hT [1] rfl rfl rfl rfl rfl rfl ⟨x, rfl, rfl⟩
end Go.Proofs.YtjcolfogmmjaoaaGreatDoor
end

section
set_option linter.unusedVariables false
set_option linter.unusedSimpArgs false
set_option maxRecDepth 100000
namespace Go.Proofs.YtjcolfogmmjaoaaGreatDoor
open V A
def letterP (r : Int) : Bool := decide (97 ≤ r ∧ r ≤ 122 ∨ 65 ≤ r ∧ r ≤ 90 ∨ 913 ≤ r ∧ r ≤ 969)
def digitP (r : Int) : Bool := decide (48 ≤ r ∧ r ≤ 57)
def insideP (r : Int) : Bool := letterP r || digitP r || r == 95
theorem b_eq {b b' : Bool} {cs : List Chunk} (h : b = true ↔ b' = true) : AV.v (.bool b) 0 = bA b' ∧ cs = cs := ⟨by rw [Bool.eq_iff_iff.2 h]; rfl, rfl⟩
theorem Letter_spec {r : Int} {h : Nat} : FSpec Tryz.prog 143 [.v (.int .i32 r) h] [] fun a cs => a = bA (letterP r) ∧ cs = [] := by
  refine a_enter hT [.v (.int .i32 r) 0] [] Tryz.func143 rfl rfl rfl ⟨rfl, trivial⟩ fun c' => ?_
  refine a_g hT rfl rfl rfl (fun h1 => ?_) (fun h1 => ?_)
  · have h1 := of_decide_eq_true h1
    refine a_g hT rfl rfl rfl (fun h2 => ?_) (fun h2 => ?_)
    · have h2 := of_decide_eq_true h2
      refine a_gt hT rfl rfl rfl rfl ?_
      refine a_ret hT [] rfl rfl rfl rfl rfl rfl ?_
      exact b_eq (by simp [letterP]; omega)
    · have h2 := of_decide_eq_false h2
      refine a_g hT rfl rfl rfl (fun h3 => ?_) (fun h3 => ?_)
      · have h3 := of_decide_eq_true h3
        refine a_g hT rfl rfl rfl (fun h4 => ?_) (fun h4 => ?_)
        · have h4 := of_decide_eq_true h4
          (exfalso; first | omega | contradiction)
        · have h4 := of_decide_eq_false h4
          refine a_g hT rfl rfl rfl (fun h5 => ?_) (fun h5 => ?_)
          · have h5 := of_decide_eq_true h5
            refine a_ret hT [] rfl rfl rfl rfl rfl rfl ?_
            exact b_eq (by simp [letterP]; omega)
          · have h5 := of_decide_eq_false h5
            refine a_ret hT [] rfl rfl rfl rfl rfl rfl ?_
            exact b_eq (by simp [letterP]; omega)
      · have h3 := of_decide_eq_false h3
        (exfalso; first | omega | contradiction)
  · have h1 := of_decide_eq_false h1
    refine a_gf hT rfl rfl rfl rfl ?_
    refine a_g hT rfl rfl rfl (fun h2 => ?_) (fun h2 => ?_)
    · have h2 := of_decide_eq_true h2
      refine a_g hT rfl rfl rfl (fun h3 => ?_) (fun h3 => ?_)
      · have h3 := of_decide_eq_true h3
        refine a_ret hT [] rfl rfl rfl rfl rfl rfl ?_
        exact b_eq (by simp [letterP]; omega)
      · have h3 := of_decide_eq_false h3
        refine a_g hT rfl rfl rfl (fun h4 => ?_) (fun h4 => ?_)
        · have h4 := of_decide_eq_true h4
          (exfalso; first | omega | contradiction)
        · have h4 := of_decide_eq_false h4
          refine a_ret hT [] rfl rfl rfl rfl rfl rfl ?_
          exact b_eq (by simp [letterP]; omega)
    · have h2 := of_decide_eq_false h2
      refine a_gf hT rfl rfl rfl rfl ?_
      refine a_g hT rfl rfl rfl (fun h3 => ?_) (fun h3 => ?_)
      · have h3 := of_decide_eq_true h3
        (exfalso; first | omega | contradiction)
      · have h3 := of_decide_eq_false h3
        refine a_ret hT [] rfl rfl rfl rfl rfl rfl ?_
        exact b_eq (by simp [letterP]; omega)
theorem Digit_spec {r : Int} {h : Nat} : FSpec Tryz.prog 159 [.v (.int .i32 r) h] [] fun a cs => a = bA (digitP r) ∧ cs = [] := by
  refine a_enter hT [.v (.int .i32 r) 0] [] Tryz.func159 rfl rfl rfl ⟨rfl, trivial⟩ fun c' => ?_
  refine a_g hT rfl rfl rfl (fun h1 => ?_) (fun h1 => ?_)
  · have h1 := of_decide_eq_true h1
    refine a_ret hT [] rfl rfl rfl rfl rfl rfl ?_
    exact b_eq (by simp [digitP]; omega)
  · have h1 := of_decide_eq_false h1
    refine a_ret hT [] rfl rfl rfl rfl rfl rfl ?_
    exact b_eq (by simp [digitP]; omega)
theorem Inside_spec {r : Int} {h : Nat} : FSpec Tryz.prog 142 [.v (.int .i32 r) h] [] fun a cs => a = bA (insideP r) ∧ cs = [] := by
  refine a_enter hT [.v (.int .i32 r) 0] [] Tryz.func142 rfl rfl rfl ⟨rfl, trivial⟩ fun c' => ?_
  refine a_call hT rfl rfl rfl (by kernel_rfl) Letter_spec [] [] rfl rfl ?_
  rintro _ _ ⟨rfl, rfl⟩
  refine a_g hT rfl rfl rfl (fun h1 => ?_) (fun h1 => ?_)
  · refine a_gt hT rfl rfl rfl rfl ?_
    refine a_ret hT [] rfl rfl rfl rfl rfl rfl ?_
    exact b_eq (by simp_all [insideP])
  · refine a_call hT rfl rfl rfl (by kernel_rfl) Digit_spec [] [] rfl rfl ?_
    rintro _ _ ⟨rfl, rfl⟩
    refine a_g hT rfl rfl rfl (fun h2 => ?_) (fun h2 => ?_)
    · refine a_ret hT [] rfl rfl rfl rfl rfl rfl ?_
      exact b_eq (by simp_all [insideP])
    · refine a_ret hT [] rfl rfl rfl rfl rfl rfl ?_
      exact b_eq (by simp_all [insideP])
def nameK (b : ByteArray) : Nat → Nat → Nat → Bool
  | 0, _, n => decide (0 < n ∧ n ≤ 40)
  | f + 1, pos, n => if pos < b.size then
      (if !insideP (Utf8.decode b pos).1 || (pos == 0 && !letterP (Utf8.decode b pos).1) then false else nameK b f (pos + (Utf8.decode b pos).2) (n + 1))
    else decide (0 < n ∧ n ≤ 40)
def nameP (b : ByteArray) : Bool := nameK b b.size 0 0
theorem decode_w (b : ByteArray) (pos : Nat) : 1 ≤ (Utf8.decode b pos).2 := by
  unfold Utf8.decode
  dsimp only
  (repeat' split) <;> simp
theorem Name_spec {b : ByteArray} {h : Nat} (hb : b.size ≤ 4611686018427387904) : FSpec Tryz.prog 114 [.v (.string b) h] [] fun a cs => a = bA (nameP b) ∧ cs = [] := by
  refine a_enter hT [.v (.string b) 0] [] Tryz.func114 rfl rfl rfl ⟨rfl, trivial⟩ fun c' => ?_
  refine a_rangeS hT 30 rfl rfl rfl rfl rfl fun it => ?_
  refine a_loop hT [3, 7] (fun x : Nat × Nat × Nat => [.v (kI x.2.2) 0, .v (.pointer (some ⟨it, 0, none⟩)) 30]) (fun x => [(30, .ext (iterS it b x.2.1))]) (fun x => nameK b x.1 x.2.1 x.2.2 = nameP b ∧ x.2.2 ≤ x.2.1 ∧ b.size ≤ x.2.1 + x.1) (fun x => x.1) (b.size, 0, 0) [30] rfl rfl ⟨rfl, Nat.le_refl _, by simp⟩ ⟨rfl, rfl, trivial⟩ rfl ⟨rfl, trivial⟩ ?_
  rintro ⟨f, pos, n⟩ ⟨i1, i2, i3⟩
  dsimp only at i1 i2 i3
  refine a_nextS hT rfl rfl rfl rfl rfl rfl (fun h1 => ?_) (fun h1 => ?_)
  · dsimp only at h1
    have hk : nameK b f pos n = decide (0 < n ∧ n ≤ 40) := by
      cases f with
      | zero => rfl
      | succ f => unfold nameK; rw [if_neg (by omega)]
    rw [hk] at i1
    refine a_f hT rfl rfl rfl ?_
    refine a_g hT rfl rfl rfl (fun h2 => ?_) (fun h2 => ?_)
    · have h2 := of_decide_eq_true h2
      refine a_ret hT [] rfl rfl rfl rfl rfl rfl ?_
      exact b_eq (by rw [← i1]; dsimp only at *; simp; omega)
    · have h2 := of_decide_eq_false h2
      refine a_ret hT [] rfl rfl rfl rfl rfl rfl ?_
      exact b_eq (by rw [← i1]; dsimp only at *; simp; omega)
  · dsimp only at h1
    obtain ⟨f, rfl⟩ : ∃ f', f = f' + 1 := ⟨f - 1, by omega⟩
    unfold nameK at i1
    rw [if_pos h1] at i1
    have hw := decode_w b pos
    have hwn : IntKind.i64.wrap ((n : Int) + 1) = ((n + 1 : Nat) : Int) := by rw [w64 (by omega) (by omega)]; omega
    generalize hc : ((Utf8.decode b pos).1 : Int) = c at i1
    generalize (Utf8.decode b pos).2 = wd at i1 hw
    refine a_t hT rfl rfl rfl ?_
    refine a_call hT rfl rfl rfl (by kernel_rfl) Inside_spec [] [] rfl rfl ?_
    rintro _ _ ⟨rfl, rfl⟩
    refine a_g hT rfl rfl rfl (fun h2 => ?_) (fun h2 => ?_)
    · simp at h2
      refine a_t hT rfl rfl rfl ?_
      refine a_ret hT [] rfl rfl rfl rfl rfl rfl ?_
      exact b_eq (by rw [← i1]; simp_all)
    · simp at h2
      refine a_g hT rfl rfl rfl (fun h3 => ?_) (fun h3 => ?_)
      · have h3 := eq_of_beq h3
        refine a_call hT rfl rfl rfl (by kernel_rfl) Letter_spec [] [] rfl rfl ?_
        rintro _ _ ⟨rfl, rfl⟩
        refine a_if hT rfl rfl (fun h4 => ?_) (fun h4 => ?_)
        · simp at h4
          refine a_ret hT [] rfl rfl rfl rfl rfl rfl ?_
          exact b_eq (by rw [← i1]; simp_all)
        · simp at h4
          exact a_next hT (f, pos + wd, n + 1) [30] rfl rfl ⟨⟨by rw [← i1]; simp_all, by dsimp only; omega, by dsimp only; omega⟩, by dsimp only; omega⟩ ⟨by show Value.int .i64 _ = Value.int .i64 _; rw [hwn], rfl, trivial⟩ rfl ⟨rfl, trivial⟩
      · have h3 := ne_of_beq_false h3
        refine a_f hT rfl rfl rfl ?_
        exact a_next hT (f, pos + wd, n + 1) [30] rfl rfl ⟨⟨by rw [← i1]; simp_all, by dsimp only; omega, by dsimp only; omega⟩, by dsimp only; omega⟩ ⟨by show Value.int .i64 _ = Value.int .i64 _; rw [hwn], rfl, trivial⟩ rfl ⟨rfl, trivial⟩
end Go.Proofs.YtjcolfogmmjaoaaGreatDoor
end

section
set_option linter.unusedVariables false
set_option linter.unusedSimpArgs false
set_option maxRecDepth 100000
namespace Go.Proofs.YtjcolfogmmjaoaaGreatDoor
open V A
def idxF {α : Type} (p : α → Bool) : List α → Nat → Int
  | [], _ => -1
  | x :: l, i => if p x then (i : Int) else idxF p l (i + 1)
theorem idxF_any {α : Type} (p : α → Bool) : ∀ (l : List α) (i : Nat), (0 ≤ idxF p l i ↔ l.any p = true)
  | [], i => by simp [idxF]
  | x :: l, i => by
    unfold idxF
    cases h : p x
    · simp [h, idxF_any p l (i + 1)]
    · simp [h]
theorem drop_at {α : Type} {l : List α} {i : Nat} (h : i < l.length) : l.drop i = l[i] :: l.drop (i + 1) := List.drop_eq_getElem_cons h
theorem idxF_yes {α : Type} {p : α → Bool} {l : List α} {i : Nat} (h : i < l.length) (hp : p l[i] = true) : idxF p (l.drop i) i = (i : Int) := by rw [drop_at h]; unfold idxF; rw [if_pos hp]
theorem idxF_no {α : Type} {p : α → Bool} {l : List α} {i : Nat} (h : i < l.length) (hp : p l[i] = false) : idxF p (l.drop i) i = idxF p (l.drop (i + 1)) (i + 1) := by
  conv => lhs; rw [drop_at h]
  conv => lhs; unfold idxF
  rw [if_neg (by rw [hp]; exact Bool.false_ne_true)]
theorem wN (i : Nat) (h : i < 4611686018427387904) : IntKind.i64.wrap ((i : Int) + 1) = ((i + 1 : Nat) : Int) := by rw [w64 (by omega) (by omega)]; omega
def reachN : Nat := 140737488351232
theorem SIndex_spec {l : List ByteArray} {x : ByteArray} {h : Nat} (hl : l.length < 4611686018427387904) : FSpec Tryz.prog 160 [.d (.sl 1 (l.map eS)), .v (.string x) h] [] fun a cs => a = .v (kI (idxF (fun y => x.toList == y.toList) l 0)) 0 ∧ cs = [] := by
  refine a_enter hT [.d (.sl 1 (l.map eS)), .v (.string x) 0] [] Tryz.func160 rfl rfl rfl ⟨rfl, rfl, trivial⟩ fun c' => ?_
  have hlen : (l.map eS).length = l.length := List.length_map _
  refine a_loop hT [0, 1, 7, 8] (fun i : Nat => [.d (.sl 1 (l.map eS)), .v (.string x) 0, .v (kI l.length) 0, .v (kI i) 0]) (fun _ => []) (fun i => idxF (fun y => x.toList == y.toList) (l.drop i) i = idxF (fun y => x.toList == y.toList) l 0 ∧ i ≤ l.length) (fun i => l.length - i) 0 [] rfl rfl ⟨rfl, Nat.zero_le _⟩ ⟨rfl, rfl, by rw [← hlen]; rfl, rfl, trivial⟩ rfl trivial ?_
  rintro i ⟨i1, i2⟩
  have hw := wN i (by omega)
  rcases Nat.lt_or_ge i l.length with hil | hil
  · have hat : (l.map eS)[(i : Int).toNat]? = some (eS l[i]) := by simp [hil]
    refine a_if hT rfl rfl (fun h1 => ?_) (fun h1 => ?_)
    · have h1 := of_decide_eq_true h1
      refine a_ix hT _ rfl rfl rfl rfl rfl rfl (by first | omega | assumption) (by first | assumption | rfl) ?_
      refine a_if hT rfl rfl (fun h2 => ?_) (fun h2 => ?_)
      · have h2 := eq_of_beq h2
        refine a_ret hT [] rfl rfl rfl rfl rfl rfl ?_
        exact ⟨by rw [← i1, idxF_yes hil (by assumption)]; rfl, rfl⟩
      · have h2 := ne_of_beq_false h2
        exact a_next hT (i + 1) [] rfl rfl ⟨⟨by rw [← i1, idxF_no hil (by assumption)], by omega⟩, by omega⟩ ⟨rfl, rfl, rfl, by show Value.int .i64 _ = Value.int .i64 _; rw [hw], trivial⟩ rfl trivial
    · have h1 := of_decide_eq_false h1
      (exfalso; first | omega | contradiction)
  · have hnil : l.drop i = [] := List.drop_eq_nil_of_le hil
    refine a_if hT rfl rfl (fun h1 => ?_) (fun h1 => ?_)
    · have h1 := of_decide_eq_true h1
      (exfalso; first | omega | contradiction)
    · have h1 := of_decide_eq_false h1
      refine a_ret hT [] rfl rfl rfl rfl rfl rfl ?_
      exact ⟨by rw [← i1, hnil]; rfl, rfl⟩
theorem ba_list (x y : ByteArray) : (x.toList == y.toList) = decide (x = y) := by
  rw [Lib.toList_data, Lib.toList_data, Bool.eq_iff_iff]
  simp only [beq_iff_eq, decide_eq_true_eq]
  constructor
  · intro h
    cases x; cases y
    simp at h
    rw [h]
  · rintro rfl; rfl
theorem SContains_spec {l : List ByteArray} {x : ByteArray} {h : Nat} (hl : l.length < 4611686018427387904) : FSpec Tryz.prog 144 [.d (.sl 1 (l.map eS)), .v (.string x) h] [] fun a cs => a = bA (l.any fun y => decide (x = y)) ∧ cs = [] := by
  refine a_enter hT [.d (.sl 1 (l.map eS)), .v (.string x) 0] [] Tryz.func144 rfl rfl rfl ⟨rfl, rfl, trivial⟩ fun c' => ?_
  have hp : (fun y : ByteArray => x.toList == y.toList) = fun y => decide (x = y) := funext fun y => ba_list x y
  have HS := SIndex_spec (l := l) (x := x) (h := 0) hl
  rw [hp] at HS
  have := idxF_any (fun y : ByteArray => decide (x = y)) l 0
  refine a_call hT rfl rfl rfl (by kernel_rfl) HS [] [] rfl rfl ?_
  rintro _ _ ⟨rfl, rfl⟩
  refine a_ret hT [] rfl rfl rfl rfl rfl rfl ?_
  exact b_eq (by rw [← this]; simp)
def mkS (l : List UInt8) : ByteArray := ⟨l.toArray⟩
def words6 : List ByteArray := [mkS [109, 101, 115, 115, 97, 103, 101], mkS [101, 110, 117, 109], mkS [115, 101, 114, 118, 105, 99, 101], mkS [114, 112, 99], mkS [114, 101, 116, 117, 114, 110, 115], mkS [114, 101, 112, 101, 97, 116, 101, 100]]
def scalars : List ByteArray := [mkS [105, 110, 116, 54, 52], mkS [117, 105, 110, 116, 54, 52], mkS [115, 105, 110, 116, 54, 52], mkS [98, 111, 111, 108], mkS [115, 116, 114, 105, 110, 103], mkS [98, 121, 116, 101, 115], mkS [102, 105, 120, 101, 100, 51, 50], mkS [102, 105, 120, 101, 100, 54, 52]]
theorem Scalars_spec : FSpec Tryz.prog 145 [] [] fun a cs => a = .d (.sl 1 ((ByteArray.empty :: scalars).map eS)) ∧ cs = [] := by
  refine a_enter hT [] [] Tryz.func145 rfl rfl rfl trivial fun c' => ?_
  refine a_litF hT 30 1 (z := .string ByteArray.empty) rfl rfl rfl rfl (by kernel_rfl) (by kernel_rfl) rfl rfl rfl rfl fun x => ?_
  refine a_freeze 1 30 rfl rfl rfl rfl ?_
  refine a_ret hT [] rfl rfl rfl rfl rfl rfl ?_
  exact ⟨rfl, rfl⟩
def reservedP (b : ByteArray) : Bool := decide (b ≠ ByteArray.empty) && (words6.any (fun y => decide (b = y)) || scalars.any fun y => decide (b = y))
instance freeBA (b : Bool) : FreeA (bA b) := inferInstanceAs (FreeA (.v (.bool b) 0))
theorem ba_nil (b : ByteArray) : b.toList = [] ↔ b = ByteArray.empty := by
  rw [Lib.toList_data]
  constructor
  · intro h
    cases b
    simp at h
    subst h
    rfl
  · rintro rfl; rfl
theorem Reserved_spec {b : ByteArray} {h : Nat} : FSpec Tryz.prog 115 [.v (.string b) h] [] fun a cs => a = bA (reservedP b) ∧ cs = [] := by
  refine a_enter hT [.v (.string b) 0] [] Tryz.func115 rfl rfl rfl ⟨rfl, trivial⟩ fun c' => ?_
  have H6 := SContains_spec (l := words6) (x := b) (h := 0) (by decide)
  have H8 := SContains_spec (l := ByteArray.empty :: scalars) (x := b) (h := 0) (by decide)
  have hnil := ba_nil b
  refine a_g hT rfl rfl rfl (fun h1 => ?_) (fun h1 => ?_)
  · simp at h1
    refine a_lit hT 20 rfl rfl rfl rfl (by kernel_rfl) rfl rfl rfl rfl fun x20 => ?_
    refine a_callZ hT rfl rfl rfl (by kernel_rfl) H6 [20] [] [] rfl rfl rfl ⟨rfl, rfl, trivial⟩ trivial (by rintro _ _ ⟨rfl, rfl⟩; exact ⟨inferInstance, inferInstance⟩) ?_
    rintro _ _ ⟨rfl, rfl⟩
    refine a_g hT rfl rfl rfl (fun h2 => ?_) (fun h2 => ?_)
    · simp at h2
      refine a_ret hT [] rfl rfl rfl rfl rfl rfl ?_
      exact b_eq (by simp_all [reservedP])
    · simp at h2
      refine a_call hT rfl rfl rfl (by kernel_rfl) Scalars_spec [] [] rfl rfl ?_
      rintro _ _ ⟨rfl, rfl⟩
      refine a_call hT rfl rfl rfl (by kernel_rfl) H8 [] [] rfl rfl ?_
      rintro _ _ ⟨rfl, rfl⟩
      refine a_ret hT [] rfl rfl rfl rfl rfl rfl ?_
      exact b_eq (by simp_all [reservedP]; intro h; exact absurd rfl (h2 b h))
  · simp at h1
    refine a_ret hT [] rfl rfl rfl rfl rfl rfl ?_
    exact b_eq (by simp_all [reservedP])
def plainP (b : ByteArray) : Bool := nameP b && !reservedP b
theorem Plain_spec {b : ByteArray} {h : Nat} (hb : b.size ≤ 4611686018427387904) : FSpec Tryz.prog 70 [.v (.string b) h] [] fun a cs => a = bA (plainP b) ∧ cs = [] := by
  refine a_enter hT [.v (.string b) 0] [] Tryz.func70 rfl rfl rfl ⟨rfl, trivial⟩ fun c' => ?_
  refine a_call hT rfl rfl rfl (by kernel_rfl) (Name_spec (by first | assumption | rfl | decide | omega | (dsimp only; omega))) [] [] rfl rfl ?_
  rintro _ _ ⟨rfl, rfl⟩
  refine a_g hT rfl rfl rfl (fun h1 => ?_) (fun h1 => ?_)
  · refine a_call hT rfl rfl rfl (by kernel_rfl) Reserved_spec [] [] rfl rfl ?_
    rintro _ _ ⟨rfl, rfl⟩
    refine a_ret hT [] rfl rfl rfl rfl rfl rfl ?_
    exact b_eq (by simp_all [plainP])
  · refine a_ret hT [] rfl rfl rfl rfl rfl rfl ?_
    exact b_eq (by simp_all [plainP])
end Go.Proofs.YtjcolfogmmjaoaaGreatDoor
end

section
set_option linter.unusedVariables false
set_option linter.unusedSimpArgs false
set_option maxRecDepth 100000
namespace Go.Proofs.YtjcolfogmmjaoaaGreatDoor
open V A
theorem SIndexFunc_spec {l : List ByteArray} {p : ByteArray → Bool} {f : FuncId} {cap : List AV} (hl : l.length < 4611686018427387904) (hb : callOk Tryz.prog f = true) (hf : ∀ x ∈ l, FSpec Tryz.prog f (.v (.string x) 0 :: cap) [] fun a cs => a = bA (p x) ∧ cs = []) :
    FSpec Tryz.prog 102 [.d (.sl 1 (l.map eS)), .fn f cap] [] fun a cs => a = .v (kI (idxF p l 0)) 0 ∧ cs = [] := by
  refine a_enter hT [.d (.sl 1 (l.map eS)), .fn f cap] [] Tryz.func102 rfl rfl rfl ⟨rfl, Fit.refl _, trivial⟩ fun c' => ?_
  have hlen : (l.map eS).length = l.length := List.length_map _
  refine a_loop hT [0, 1, 7, 8] (fun i : Nat => [.d (.sl 1 (l.map eS)), .fn f cap, .v (kI l.length) 0, .v (kI i) 0]) (fun _ => []) (fun i => idxF p (l.drop i) i = idxF p l 0 ∧ i ≤ l.length) (fun i => l.length - i) 0 [] rfl rfl ⟨rfl, Nat.zero_le _⟩ ⟨rfl, Fit.refl _, by rw [← hlen]; rfl, rfl, trivial⟩ rfl trivial ?_
  rintro i ⟨i1, i2⟩
  have hw := wN i (by omega)
  rcases Nat.lt_or_ge i l.length with hil | hil
  · have hat : (l.map eS)[(i : Int).toNat]? = some (eS l[i]) := by simp [hil]
    refine a_if hT rfl rfl (fun h1 => ?_) (fun h1 => ?_)
    · have h1 := of_decide_eq_true h1
      refine a_ix hT _ rfl rfl rfl rfl rfl rfl (by first | omega | assumption) (by first | assumption | rfl) ?_
      refine a_callv hT rfl rfl rfl rfl hb (hf l[i] (List.getElem_mem hil)) [] [] rfl rfl ?_
      rintro _ _ ⟨rfl, rfl⟩
      refine a_if hT rfl rfl (fun h => ?_) (fun h => ?_)
      · refine a_ret hT [] rfl rfl rfl rfl rfl rfl ?_
        exact ⟨by rw [← i1, idxF_yes hil (by assumption)]; rfl, rfl⟩
      · exact a_next hT (i + 1) [] rfl rfl ⟨⟨by rw [← i1, idxF_no hil (by assumption)], by omega⟩, by omega⟩ ⟨rfl, Fit.refl _, rfl, by show Value.int .i64 _ = Value.int .i64 _; rw [hw], trivial⟩ rfl trivial
    · have h1 := of_decide_eq_false h1
      (exfalso; first | omega | contradiction)
  · have hnil : l.drop i = [] := List.drop_eq_nil_of_le hil
    refine a_if hT rfl rfl (fun h1 => ?_) (fun h1 => ?_)
    · have h1 := of_decide_eq_true h1
      (exfalso; first | omega | contradiction)
    · have h1 := of_decide_eq_false h1
      refine a_ret hT [] rfl rfl rfl rfl rfl rfl ?_
      exact ⟨by rw [← i1, hnil]; rfl, rfl⟩
theorem SContainsFunc_spec {l : List ByteArray} {p : ByteArray → Bool} {f : FuncId} {cap : List AV} (hl : l.length < 4611686018427387904) (hb : callOk Tryz.prog f = true) (hf : ∀ x ∈ l, FSpec Tryz.prog f (.v (.string x) 0 :: cap) [] fun a cs => a = bA (p x) ∧ cs = []) :
    FSpec Tryz.prog 59 [.d (.sl 1 (l.map eS)), .fn f cap] [] fun a cs => a = bA (l.any p) ∧ cs = [] := by
  refine a_enter hT [.d (.sl 1 (l.map eS)), .fn f cap] [] Tryz.func59 rfl rfl rfl ⟨rfl, Fit.refl _, trivial⟩ fun c' => ?_
  have HS := SIndexFunc_spec hl hb hf
  have := idxF_any p l 0
  refine a_call hT rfl rfl rfl (by kernel_rfl) HS [] [] rfl rfl ?_
  rintro _ _ ⟨rfl, rfl⟩
  refine a_ret hT [] rfl rfl rfl rfl rfl rfl ?_
  exact b_eq (by rw [← this]; simp)
def partsP (s : ByteArray) : List ByteArray := (splitP 46 s.data.toList).map mkS
theorem splitP_len (c : UInt8) : ∀ (l : List UInt8) x, x ∈ splitP c l → x.length ≤ l.length
  | [], x, h => by simp [splitP] at h; simp [h]
  | b :: l, x, h => by
    unfold splitP at h
    split at h
    · rcases List.mem_cons.1 h with rfl | h
      · simp
      · have := splitP_len c l x h
        simp; omega
    · split at h
      · simp at h; simp [h]
      · rename_i y t he
        rcases List.mem_cons.1 h with rfl | h
        · have := splitP_len c l y (by rw [he]; simp)
          simp; omega
        · have := splitP_len c l x (by rw [he]; simp [h])
          simp; omega
theorem splitP_many (c : UInt8) : ∀ (l : List UInt8), (splitP c l).length ≤ l.length + 1
  | [] => by simp [splitP]
  | b :: l => by
    have := splitP_many c l
    unfold splitP
    split
    · simp; omega
    · split
      · simp
      · rename_i y t he
        rw [he] at this
        simp at this ⊢
        omega
theorem Split_dot {s : ByteArray} {h h1 : Nat} (hs : s.size ≤ 900000) : FSpec Tryz.prog 103 [.v (.string s) h, .v (.string ⟨#[46]⟩) h1] [] fun a cs => ∃ x, a = .row x 1 ∧ cs = [.row x 9 1 ((partsP s).map eS)] := by
  have e : (partsP s).map eS = (splitP 46 s.data.toList).map eL := by unfold partsP; rw [List.map_map]; rfl
  rw [e]
  exact Split_spec hs
theorem PathF_spec {b : ByteArray} {h : Nat} (hb : b.size ≤ 4611686018427387904) : FSpec Tryz.prog 104 [.v (.string b) h] [] fun a cs => a = bA (!plainP b) ∧ cs = [] := by
  refine a_enter hT [.v (.string b) 0] [] Tryz.func104 rfl rfl rfl ⟨rfl, trivial⟩ fun c' => ?_
  refine a_call hT rfl rfl rfl (by kernel_rfl) (Plain_spec (by first | assumption | rfl | decide | omega | (dsimp only; omega))) [] [] rfl rfl ?_
  rintro _ _ ⟨rfl, rfl⟩
  refine a_ret hT [] rfl rfl rfl rfl rfl rfl ?_
  exact ⟨rfl, rfl⟩
def pathOk (s : ByteArray) : Bool := decide ((partsP s).length ≤ 8) && (partsP s).all plainP
theorem Path_spec {s : ByteArray} {h : Nat} (hs : s.size ≤ 900000) : FSpec Tryz.prog 61 [.v (.string s) h] [] fun a cs => a = (if pathOk s then .tup [.d (.sl 1 ((partsP s).map eS)), bA true] else .tup [.v (.slice none 0 0) 0, bA false]) ∧ cs = [] := by
  refine a_enter hT [.v (.string s) 0] [] Tryz.func61 rfl rfl rfl ⟨rfl, trivial⟩ fun c' => ?_
  have hlen : ((partsP s).map eS).length = (partsP s).length := List.length_map _
  have hle : (partsP s).length ≤ s.size + 1 := by unfold partsP; rw [List.length_map]; exact splitP_many 46 s.data.toList
  have HC := SContainsFunc_spec (l := partsP s) (p := fun y => !plainP y) (f := 104) (cap := []) (by omega) (by kernel_rfl) (fun x hx => PathF_spec (by
    unfold partsP at hx
    obtain ⟨y, hy, rfl⟩ := List.mem_map.1 hx
    have : y.length ≤ s.size := splitP_len 46 _ _ hy
    show y.length ≤ _
    omega))
  have hany : (partsP s).any (fun y => !plainP y) = !(partsP s).all plainP := by rw [List.all_eq_not_any_not, Bool.not_not]
  rw [hany] at HC
  refine a_call hT rfl rfl rfl (by kernel_rfl) (Split_dot hs) [] [1] rfl rfl ?_
  rintro _ _ ⟨x, rfl, rfl⟩
  refine a_freeze 6 1 rfl rfl rfl rfl ?_
  refine a_g hT rfl rfl rfl (fun h1 => ?_) (fun h1 => ?_)
  · have h1 := of_decide_eq_true h1
    refine a_t hT rfl rfl rfl ?_
    refine a_ret hT [] rfl rfl rfl rfl rfl rfl ?_
    exact ⟨by rw [if_neg (by unfold pathOk; rw [Bool.and_eq_true, decide_eq_true_eq]; omega)]; rfl, rfl⟩
  · have h1 := of_decide_eq_false h1
    refine a_call hT rfl rfl rfl (by kernel_rfl) HC [] [] rfl rfl ?_
    rintro _ _ ⟨rfl, rfl⟩
    refine a_if hT rfl rfl (fun h2 => ?_) (fun h2 => ?_)
    · simp at h2
      refine a_ret hT [] rfl rfl rfl rfl rfl rfl ?_
      exact ⟨by rw [if_neg (by simp_all [pathOk])]; rfl, rfl⟩
    · simp at h2
      refine a_ret hT [] rfl rfl rfl rfl rfl rfl ?_
      exact ⟨by rw [if_pos (by unfold pathOk; rw [Bool.and_eq_true, decide_eq_true_eq]; exact ⟨by omega, by simp_all⟩)]; rfl, rfl⟩
end Go.Proofs.YtjcolfogmmjaoaaGreatDoor
end

section
set_option linter.unusedVariables false
set_option linter.unusedSimpArgs false
set_option maxRecDepth 100000
namespace Go.Proofs.YtjcolfogmmjaoaaGreatDoor
open V A
structure FDP where
  num : Int
  name : ByteArray
  kind : Int
  rep : Bool
  ty : Int
structure MDP where
  name : ByteArray
  fs : List FDP
structure VDP where
  name : ByteArray
  num : Int
structure EDP where
  name : ByteArray
  vs : List VDP
structure MtP where
  id : Int
  svc : ByteArray
  name : ByteArray
  inn : Int
  out : Int
structure SchP where
  ms : List MDP
  es : List EDP
  mts : List MtP
def eF (f : FDP) : List A.Dat := [.v (kI f.num), .v (.string f.name), .v (kI f.kind), .v (.bool f.rep), .v (kI f.ty)]
def eM (m : MDP) : List A.Dat := [.v (.string m.name), .sl 5 (m.fs.map eF)]
def eVd (v : VDP) : List A.Dat := [.v (.string v.name), .v (kI v.num)]
def eE (e : EDP) : List A.Dat := [.v (.string e.name), .sl 2 (e.vs.map eVd)]
def eT (t : MtP) : List A.Dat := [.v (kI t.id), .v (.string t.svc), .v (.string t.name), .v (kI t.inn), .v (kI t.out)]
def schD (s : SchP) : List A.Dat := [.sl 2 (s.ms.map eM), .sl 2 (s.es.map eE), .sl 5 (s.mts.map eT)]
def schA (s : SchP) : AV := .agg ((schD s).map nd)
def uniqM {κ : Type} [DecidableEq κ] : List κ → List (κ × Bool) → Bool
  | [], _ => true
  | k :: l, M => if (aget M k).getD false then false else uniqM l (aput M k true)
theorem uniqM_cons {κ : Type} [DecidableEq κ] (k : κ) (l : List κ) (M : List (κ × Bool)) : uniqM (k :: l) M = if (aget M k).getD false then false else uniqM l (aput M k true) := rfl
def kS (b : ByteArray) : Value := .string b
theorem kS_ok : KeyOk Tryz.prog 9 kS := key_str (by kernel_rfl)
theorem mtSB : mapT Tryz.prog 164 9 4 = true := by kernel_rfl
theorem mtIB : mapT Tryz.prog 207 3 4 = true := by kernel_rfl
theorem zeroB : (Tryz.prog.info? 4).map (·.zero) = some (some (.bool false)) := by kernel_rfl
theorem MIndexFunc_spec {l : List MDP} {p : MDP → Bool} {f : FuncId} {cap : List AV} (hl : l.length < 4611686018427387904) (hb : callOk Tryz.prog f = true) (hf : ∀ x ∈ l, FSpec Tryz.prog f (.agg ((eM x).map nd) :: cap) [] fun a cs => a = bA (p x) ∧ cs = []) :
    FSpec Tryz.prog 105 [.d (.sl 2 (l.map eM)), .fn f cap] [] fun a cs => a = .v (kI (idxF p l 0)) 0 ∧ cs = [] := by
  refine a_enter hT [.d (.sl 2 (l.map eM)), .fn f cap] [] Tryz.func105 rfl rfl rfl ⟨rfl, Fit.refl _, trivial⟩ fun c' => ?_
  have hlen : (l.map eM).length = l.length := List.length_map _
  refine a_loop hT [0, 1, 7, 8] (fun i : Nat => [.d (.sl 2 (l.map eM)), .fn f cap, .v (kI l.length) 0, .v (kI i) 0]) (fun _ => []) (fun i => idxF p (l.drop i) i = idxF p l 0 ∧ i ≤ l.length) (fun i => l.length - i) 0 [] rfl rfl ⟨rfl, Nat.zero_le _⟩ ⟨rfl, Fit.refl _, by rw [← hlen]; rfl, rfl, trivial⟩ rfl trivial ?_
  rintro i ⟨i1, i2⟩
  have hw := wN i (by omega)
  rcases Nat.lt_or_ge i l.length with hil | hil
  · have hat : (l.map eM)[(i : Int).toNat]? = some (eM l[i]) := by simp [hil]
    refine a_if hT rfl rfl (fun h1 => ?_) (fun h1 => ?_)
    · have h1 := of_decide_eq_true h1
      refine a_ix hT _ rfl rfl rfl rfl rfl rfl (by first | omega | assumption) (by first | assumption | rfl) ?_
      refine a_callv hT rfl rfl rfl rfl hb (hf l[i] (List.getElem_mem hil)) [] [] rfl rfl ?_
      rintro _ _ ⟨rfl, rfl⟩
      refine a_if hT rfl rfl (fun h => ?_) (fun h => ?_)
      · refine a_ret hT [] rfl rfl rfl rfl rfl rfl ?_
        exact ⟨by rw [← i1, idxF_yes hil (by assumption)]; rfl, rfl⟩
      · exact a_next hT (i + 1) [] rfl rfl ⟨⟨by rw [← i1, idxF_no hil (by assumption)], by omega⟩, by omega⟩ ⟨rfl, Fit.refl _, rfl, by show Value.int .i64 _ = Value.int .i64 _; rw [hw], trivial⟩ rfl trivial
    · have h1 := of_decide_eq_false h1
      (exfalso; first | omega | contradiction)
  · have hnil : l.drop i = [] := List.drop_eq_nil_of_le hil
    refine a_if hT rfl rfl (fun h1 => ?_) (fun h1 => ?_)
    · have h1 := of_decide_eq_true h1
      (exfalso; first | omega | contradiction)
    · have h1 := of_decide_eq_false h1
      refine a_ret hT [] rfl rfl rfl rfl rfl rfl ?_
      exact ⟨by rw [← i1, hnil]; rfl, rfl⟩
theorem MContainsFunc_spec {l : List MDP} {p : MDP → Bool} {f : FuncId} {cap : List AV} (hl : l.length < 4611686018427387904) (hb : callOk Tryz.prog f = true) (hf : ∀ x ∈ l, FSpec Tryz.prog f (.agg ((eM x).map nd) :: cap) [] fun a cs => a = bA (p x) ∧ cs = []) :
    FSpec Tryz.prog 64 [.d (.sl 2 (l.map eM)), .fn f cap] [] fun a cs => a = bA (l.any p) ∧ cs = [] := by
  refine a_enter hT [.d (.sl 2 (l.map eM)), .fn f cap] [] Tryz.func64 rfl rfl rfl ⟨rfl, Fit.refl _, trivial⟩ fun c' => ?_
  have HS := MIndexFunc_spec hl hb hf
  have := idxF_any p l 0
  refine a_call hT rfl rfl rfl (by kernel_rfl) HS [] [] rfl rfl ?_
  rintro _ _ ⟨rfl, rfl⟩
  refine a_ret hT [] rfl rfl rfl rfl rfl rfl ?_
  exact b_eq (by rw [← this]; simp)
theorem EIndexFunc_spec {l : List EDP} {p : EDP → Bool} {f : FuncId} {cap : List AV} (hl : l.length < 4611686018427387904) (hb : callOk Tryz.prog f = true) (hf : ∀ x ∈ l, FSpec Tryz.prog f (.agg ((eE x).map nd) :: cap) [] fun a cs => a = bA (p x) ∧ cs = []) :
    FSpec Tryz.prog 109 [.d (.sl 2 (l.map eE)), .fn f cap] [] fun a cs => a = .v (kI (idxF p l 0)) 0 ∧ cs = [] := by
  refine a_enter hT [.d (.sl 2 (l.map eE)), .fn f cap] [] Tryz.func109 rfl rfl rfl ⟨rfl, Fit.refl _, trivial⟩ fun c' => ?_
  have hlen : (l.map eE).length = l.length := List.length_map _
  refine a_loop hT [0, 1, 7, 8] (fun i : Nat => [.d (.sl 2 (l.map eE)), .fn f cap, .v (kI l.length) 0, .v (kI i) 0]) (fun _ => []) (fun i => idxF p (l.drop i) i = idxF p l 0 ∧ i ≤ l.length) (fun i => l.length - i) 0 [] rfl rfl ⟨rfl, Nat.zero_le _⟩ ⟨rfl, Fit.refl _, by rw [← hlen]; rfl, rfl, trivial⟩ rfl trivial ?_
  rintro i ⟨i1, i2⟩
  have hw := wN i (by omega)
  rcases Nat.lt_or_ge i l.length with hil | hil
  · have hat : (l.map eE)[(i : Int).toNat]? = some (eE l[i]) := by simp [hil]
    refine a_if hT rfl rfl (fun h1 => ?_) (fun h1 => ?_)
    · have h1 := of_decide_eq_true h1
      refine a_ix hT _ rfl rfl rfl rfl rfl rfl (by first | omega | assumption) (by first | assumption | rfl) ?_
      refine a_callv hT rfl rfl rfl rfl hb (hf l[i] (List.getElem_mem hil)) [] [] rfl rfl ?_
      rintro _ _ ⟨rfl, rfl⟩
      refine a_if hT rfl rfl (fun h => ?_) (fun h => ?_)
      · refine a_ret hT [] rfl rfl rfl rfl rfl rfl ?_
        exact ⟨by rw [← i1, idxF_yes hil (by assumption)]; rfl, rfl⟩
      · exact a_next hT (i + 1) [] rfl rfl ⟨⟨by rw [← i1, idxF_no hil (by assumption)], by omega⟩, by omega⟩ ⟨rfl, Fit.refl _, rfl, by show Value.int .i64 _ = Value.int .i64 _; rw [hw], trivial⟩ rfl trivial
    · have h1 := of_decide_eq_false h1
      (exfalso; first | omega | contradiction)
  · have hnil : l.drop i = [] := List.drop_eq_nil_of_le hil
    refine a_if hT rfl rfl (fun h1 => ?_) (fun h1 => ?_)
    · have h1 := of_decide_eq_true h1
      (exfalso; first | omega | contradiction)
    · have h1 := of_decide_eq_false h1
      refine a_ret hT [] rfl rfl rfl rfl rfl rfl ?_
      exact ⟨by rw [← i1, hnil]; rfl, rfl⟩
theorem EContainsFunc_spec {l : List EDP} {p : EDP → Bool} {f : FuncId} {cap : List AV} (hl : l.length < 4611686018427387904) (hb : callOk Tryz.prog f = true) (hf : ∀ x ∈ l, FSpec Tryz.prog f (.agg ((eE x).map nd) :: cap) [] fun a cs => a = bA (p x) ∧ cs = []) :
    FSpec Tryz.prog 67 [.d (.sl 2 (l.map eE)), .fn f cap] [] fun a cs => a = bA (l.any p) ∧ cs = [] := by
  refine a_enter hT [.d (.sl 2 (l.map eE)), .fn f cap] [] Tryz.func67 rfl rfl rfl ⟨rfl, Fit.refl _, trivial⟩ fun c' => ?_
  have HS := EIndexFunc_spec hl hb hf
  have := idxF_any p l 0
  refine a_call hT rfl rfl rfl (by kernel_rfl) HS [] [] rfl rfl ?_
  rintro _ _ ⟨rfl, rfl⟩
  refine a_ret hT [] rfl rfl rfl rfl rfl rfl ?_
  exact b_eq (by rw [← this]; simp)
theorem USS_spec {l : List ByteArray} {key : ByteArray → ByteArray} {f : FuncId} {cap : List AV} (hl : l.length < 4611686018427387904) (hb : callOk Tryz.prog f = true) (hf : ∀ x ∈ l, FSpec Tryz.prog f (.v (.string x) 0 :: cap) [] fun a cs => a = .v (kS (key x)) 0 ∧ cs = []) :
    FSpec Tryz.prog 62 [.d (.sl 1 (l.map eS)), .fn f cap] [] fun a cs => a = bA (uniqM (l.map key) []) ∧ cs = [] := by
  refine a_enter hT [.d (.sl 1 (l.map eS)), .fn f cap] [] Tryz.func62 rfl rfl rfl ⟨rfl, Fit.refl _, trivial⟩ fun c' => ?_
  have hlen : (l.map eS).length = l.length := List.length_map _
  refine a_mkmap hT 40 rfl rfl rfl fun r => ?_
  refine a_loop hT [1, 5, 9, 10, 11] (fun x : Nat × List (ByteArray × Bool) => [.fn f cap, .v (.map (some r)) 40, .d (.sl 1 (l.map eS)), .v (kI l.length) 0, .v (kI x.1) 0]) (fun x => [(40, .map r (mapG kS bA x.2))]) (fun x => uniqM ((l.drop x.1).map key) x.2 = uniqM (l.map key) [] ∧ x.1 ≤ l.length) (fun x => l.length - x.1) (0, []) [40] rfl rfl ⟨rfl, Nat.zero_le _⟩ ⟨Fit.refl _, rfl, rfl, by rw [← hlen]; rfl, rfl, trivial⟩ rfl ⟨⟨rfl, rfl⟩, trivial⟩ ?_
  rintro ⟨i, M⟩ ⟨i1, i2⟩
  dsimp only at i1 i2
  have hw := wN i (by omega)
  rcases Nat.lt_or_ge i l.length with hil | hil
  · have hat : (l.map eS)[(i : Int).toNat]? = some (eS l[i]) := by simp [hil]
    have hF := hf l[i] (List.getElem_mem hil)
    rw [drop_at hil, List.map_cons, uniqM_cons] at i1
    refine a_t hT rfl rfl (decide_eq_true (by show (i : Int) < (l.length : Int); omega)) ?_
    refine a_ix hT _ rfl rfl rfl rfl rfl rfl (by omega) hat ?_
    refine a_callv hT rfl rfl rfl rfl hb hF [] [] rfl rfl ?_
    rintro _ _ ⟨rfl, rfl⟩
    cases hg : aget M (key l[i]) with
    | none =>
      rw [hg] at i1
      refine a_lookG hT (kv := kS) (va := bA) M (key l[i]) _ rfl rfl rfl mtSB kS_ok zeroB rfl rfl rfl rfl rfl hg ?_
      refine a_f hT rfl rfl rfl ?_
      refine a_callv hT rfl rfl rfl rfl hb hF [] [] rfl rfl ?_
      rintro _ _ ⟨rfl, rfl⟩
      refine a_mputG hT (kv := kS) (va := bA) M (key l[i]) true rfl rfl rfl mtSB kS_ok rfl rfl rfl rfl rfl rfl ?_
      exact a_next hT (i + 1, aput M (key l[i]) true) [40] rfl rfl ⟨⟨i1, by dsimp only; omega⟩, by dsimp only; omega⟩ ⟨Fit.refl _, rfl, rfl, rfl, by show Value.int .i64 _ = Value.int .i64 _; rw [hw], trivial⟩ rfl ⟨⟨rfl, rfl⟩, trivial⟩
    | some b =>
      rw [hg] at i1
      cases b with
      | true =>
        refine a_lookG hT (kv := kS) (va := bA) M (key l[i]) _ rfl rfl rfl mtSB kS_ok zeroB rfl rfl rfl rfl rfl hg ?_
        refine a_t hT rfl rfl rfl ?_
        exact a_ret hT [] rfl rfl rfl rfl rfl rfl ⟨by rw [← i1]; rfl, rfl⟩
      | false =>
        refine a_lookG hT (kv := kS) (va := bA) M (key l[i]) _ rfl rfl rfl mtSB kS_ok zeroB rfl rfl rfl rfl rfl hg ?_
        refine a_f hT rfl rfl rfl ?_
        refine a_callv hT rfl rfl rfl rfl hb hF [] [] rfl rfl ?_
        rintro _ _ ⟨rfl, rfl⟩
        refine a_mputG hT (kv := kS) (va := bA) M (key l[i]) true rfl rfl rfl mtSB kS_ok rfl rfl rfl rfl rfl rfl ?_
        exact a_next hT (i + 1, aput M (key l[i]) true) [40] rfl rfl ⟨⟨i1, by dsimp only; omega⟩, by dsimp only; omega⟩ ⟨Fit.refl _, rfl, rfl, rfl, by show Value.int .i64 _ = Value.int .i64 _; rw [hw], trivial⟩ rfl ⟨⟨rfl, rfl⟩, trivial⟩
  · have hnil : l.drop i = [] := List.drop_eq_nil_of_le hil
    rw [hnil] at i1
    refine a_if hT rfl rfl (fun h => ?_) (fun h => ?_)
    · have h := of_decide_eq_true h
      (exfalso; first | omega | contradiction)
    · have h := of_decide_eq_false h
      refine a_ret hT [] rfl rfl rfl rfl rfl rfl ?_
      exact ⟨by rw [← i1]; rfl, rfl⟩
theorem UFS_spec {l : List FDP} {key : FDP → ByteArray} {f : FuncId} {cap : List AV} (hl : l.length < 4611686018427387904) (hb : callOk Tryz.prog f = true) (hf : ∀ x ∈ l, FSpec Tryz.prog f (.agg ((eF x).map nd) :: cap) [] fun a cs => a = .v (kS (key x)) 0 ∧ cs = []) :
    FSpec Tryz.prog 107 [.d (.sl 5 (l.map eF)), .fn f cap] [] fun a cs => a = bA (uniqM (l.map key) []) ∧ cs = [] := by
  refine a_enter hT [.d (.sl 5 (l.map eF)), .fn f cap] [] Tryz.func107 rfl rfl rfl ⟨rfl, Fit.refl _, trivial⟩ fun c' => ?_
  have hlen : (l.map eF).length = l.length := List.length_map _
  refine a_mkmap hT 40 rfl rfl rfl fun r => ?_
  refine a_loop hT [1, 5, 9, 10, 11] (fun x : Nat × List (ByteArray × Bool) => [.fn f cap, .v (.map (some r)) 40, .d (.sl 5 (l.map eF)), .v (kI l.length) 0, .v (kI x.1) 0]) (fun x => [(40, .map r (mapG kS bA x.2))]) (fun x => uniqM ((l.drop x.1).map key) x.2 = uniqM (l.map key) [] ∧ x.1 ≤ l.length) (fun x => l.length - x.1) (0, []) [40] rfl rfl ⟨rfl, Nat.zero_le _⟩ ⟨Fit.refl _, rfl, rfl, by rw [← hlen]; rfl, rfl, trivial⟩ rfl ⟨⟨rfl, rfl⟩, trivial⟩ ?_
  rintro ⟨i, M⟩ ⟨i1, i2⟩
  dsimp only at i1 i2
  have hw := wN i (by omega)
  rcases Nat.lt_or_ge i l.length with hil | hil
  · have hat : (l.map eF)[(i : Int).toNat]? = some (eF l[i]) := by simp [hil]
    have hF := hf l[i] (List.getElem_mem hil)
    rw [drop_at hil, List.map_cons, uniqM_cons] at i1
    refine a_t hT rfl rfl (decide_eq_true (by show (i : Int) < (l.length : Int); omega)) ?_
    refine a_ix hT _ rfl rfl rfl rfl rfl rfl (by omega) hat ?_
    refine a_new hT hZ 20 rfl rfl rfl rfl fun g => ?_
    refine a_callv hT rfl rfl rfl rfl hb hF [] [] rfl rfl ?_
    rintro _ _ ⟨rfl, rfl⟩
    cases hg : aget M (key l[i]) with
    | none =>
      rw [hg] at i1
      refine a_lookG hT (kv := kS) (va := bA) M (key l[i]) _ rfl rfl rfl mtSB kS_ok zeroB rfl rfl rfl rfl rfl hg ?_
      refine a_f hT rfl rfl rfl ?_
      refine a_callv hT rfl rfl rfl rfl hb hF [] [] rfl rfl ?_
      rintro _ _ ⟨rfl, rfl⟩
      refine a_mputG hT (kv := kS) (va := bA) M (key l[i]) true rfl rfl rfl mtSB kS_ok rfl rfl rfl rfl rfl rfl ?_
      exact a_next hT (i + 1, aput M (key l[i]) true) [40] rfl rfl ⟨⟨i1, by dsimp only; omega⟩, by dsimp only; omega⟩ ⟨Fit.refl _, rfl, rfl, rfl, by show Value.int .i64 _ = Value.int .i64 _; rw [hw], trivial⟩ rfl ⟨⟨rfl, rfl⟩, trivial⟩
    | some b =>
      rw [hg] at i1
      cases b with
      | true =>
        refine a_lookG hT (kv := kS) (va := bA) M (key l[i]) _ rfl rfl rfl mtSB kS_ok zeroB rfl rfl rfl rfl rfl hg ?_
        refine a_t hT rfl rfl rfl ?_
        exact a_ret hT [] rfl rfl rfl rfl rfl rfl ⟨by rw [← i1]; rfl, rfl⟩
      | false =>
        refine a_lookG hT (kv := kS) (va := bA) M (key l[i]) _ rfl rfl rfl mtSB kS_ok zeroB rfl rfl rfl rfl rfl hg ?_
        refine a_f hT rfl rfl rfl ?_
        refine a_callv hT rfl rfl rfl rfl hb hF [] [] rfl rfl ?_
        rintro _ _ ⟨rfl, rfl⟩
        refine a_mputG hT (kv := kS) (va := bA) M (key l[i]) true rfl rfl rfl mtSB kS_ok rfl rfl rfl rfl rfl rfl ?_
        exact a_next hT (i + 1, aput M (key l[i]) true) [40] rfl rfl ⟨⟨i1, by dsimp only; omega⟩, by dsimp only; omega⟩ ⟨Fit.refl _, rfl, rfl, rfl, by show Value.int .i64 _ = Value.int .i64 _; rw [hw], trivial⟩ rfl ⟨⟨rfl, rfl⟩, trivial⟩
  · have hnil : l.drop i = [] := List.drop_eq_nil_of_le hil
    rw [hnil] at i1
    refine a_if hT rfl rfl (fun h => ?_) (fun h => ?_)
    · have h := of_decide_eq_true h
      (exfalso; first | omega | contradiction)
    · have h := of_decide_eq_false h
      refine a_ret hT [] rfl rfl rfl rfl rfl rfl ?_
      exact ⟨by rw [← i1]; rfl, rfl⟩
theorem UVS_spec {l : List VDP} {key : VDP → ByteArray} {f : FuncId} {cap : List AV} (hl : l.length < 4611686018427387904) (hb : callOk Tryz.prog f = true) (hf : ∀ x ∈ l, FSpec Tryz.prog f (.agg ((eVd x).map nd) :: cap) [] fun a cs => a = .v (kS (key x)) 0 ∧ cs = []) :
    FSpec Tryz.prog 110 [.d (.sl 2 (l.map eVd)), .fn f cap] [] fun a cs => a = bA (uniqM (l.map key) []) ∧ cs = [] := by
  refine a_enter hT [.d (.sl 2 (l.map eVd)), .fn f cap] [] Tryz.func110 rfl rfl rfl ⟨rfl, Fit.refl _, trivial⟩ fun c' => ?_
  have hlen : (l.map eVd).length = l.length := List.length_map _
  refine a_mkmap hT 40 rfl rfl rfl fun r => ?_
  refine a_loop hT [1, 5, 9, 10, 11] (fun x : Nat × List (ByteArray × Bool) => [.fn f cap, .v (.map (some r)) 40, .d (.sl 2 (l.map eVd)), .v (kI l.length) 0, .v (kI x.1) 0]) (fun x => [(40, .map r (mapG kS bA x.2))]) (fun x => uniqM ((l.drop x.1).map key) x.2 = uniqM (l.map key) [] ∧ x.1 ≤ l.length) (fun x => l.length - x.1) (0, []) [40] rfl rfl ⟨rfl, Nat.zero_le _⟩ ⟨Fit.refl _, rfl, rfl, by rw [← hlen]; rfl, rfl, trivial⟩ rfl ⟨⟨rfl, rfl⟩, trivial⟩ ?_
  rintro ⟨i, M⟩ ⟨i1, i2⟩
  dsimp only at i1 i2
  have hw := wN i (by omega)
  rcases Nat.lt_or_ge i l.length with hil | hil
  · have hat : (l.map eVd)[(i : Int).toNat]? = some (eVd l[i]) := by simp [hil]
    have hF := hf l[i] (List.getElem_mem hil)
    rw [drop_at hil, List.map_cons, uniqM_cons] at i1
    refine a_t hT rfl rfl (decide_eq_true (by show (i : Int) < (l.length : Int); omega)) ?_
    refine a_ix hT _ rfl rfl rfl rfl rfl rfl (by omega) hat ?_
    refine a_new hT hZ 20 rfl rfl rfl rfl fun g => ?_
    refine a_callv hT rfl rfl rfl rfl hb hF [] [] rfl rfl ?_
    rintro _ _ ⟨rfl, rfl⟩
    cases hg : aget M (key l[i]) with
    | none =>
      rw [hg] at i1
      refine a_lookG hT (kv := kS) (va := bA) M (key l[i]) _ rfl rfl rfl mtSB kS_ok zeroB rfl rfl rfl rfl rfl hg ?_
      refine a_f hT rfl rfl rfl ?_
      refine a_callv hT rfl rfl rfl rfl hb hF [] [] rfl rfl ?_
      rintro _ _ ⟨rfl, rfl⟩
      refine a_mputG hT (kv := kS) (va := bA) M (key l[i]) true rfl rfl rfl mtSB kS_ok rfl rfl rfl rfl rfl rfl ?_
      exact a_next hT (i + 1, aput M (key l[i]) true) [40] rfl rfl ⟨⟨i1, by dsimp only; omega⟩, by dsimp only; omega⟩ ⟨Fit.refl _, rfl, rfl, rfl, by show Value.int .i64 _ = Value.int .i64 _; rw [hw], trivial⟩ rfl ⟨⟨rfl, rfl⟩, trivial⟩
    | some b =>
      rw [hg] at i1
      cases b with
      | true =>
        refine a_lookG hT (kv := kS) (va := bA) M (key l[i]) _ rfl rfl rfl mtSB kS_ok zeroB rfl rfl rfl rfl rfl hg ?_
        refine a_t hT rfl rfl rfl ?_
        exact a_ret hT [] rfl rfl rfl rfl rfl rfl ⟨by rw [← i1]; rfl, rfl⟩
      | false =>
        refine a_lookG hT (kv := kS) (va := bA) M (key l[i]) _ rfl rfl rfl mtSB kS_ok zeroB rfl rfl rfl rfl rfl hg ?_
        refine a_f hT rfl rfl rfl ?_
        refine a_callv hT rfl rfl rfl rfl hb hF [] [] rfl rfl ?_
        rintro _ _ ⟨rfl, rfl⟩
        refine a_mputG hT (kv := kS) (va := bA) M (key l[i]) true rfl rfl rfl mtSB kS_ok rfl rfl rfl rfl rfl rfl ?_
        exact a_next hT (i + 1, aput M (key l[i]) true) [40] rfl rfl ⟨⟨i1, by dsimp only; omega⟩, by dsimp only; omega⟩ ⟨Fit.refl _, rfl, rfl, rfl, by show Value.int .i64 _ = Value.int .i64 _; rw [hw], trivial⟩ rfl ⟨⟨rfl, rfl⟩, trivial⟩
  · have hnil : l.drop i = [] := List.drop_eq_nil_of_le hil
    rw [hnil] at i1
    refine a_if hT rfl rfl (fun h => ?_) (fun h => ?_)
    · have h := of_decide_eq_true h
      (exfalso; first | omega | contradiction)
    · have h := of_decide_eq_false h
      refine a_ret hT [] rfl rfl rfl rfl rfl rfl ?_
      exact ⟨by rw [← i1]; rfl, rfl⟩
theorem UVI_spec {l : List VDP} {key : VDP → Int} {f : FuncId} {cap : List AV} (hl : l.length < 4611686018427387904) (hb : callOk Tryz.prog f = true) (hf : ∀ x ∈ l, FSpec Tryz.prog f (.agg ((eVd x).map nd) :: cap) [] fun a cs => a = .v (kI (key x)) 0 ∧ cs = []) :
    FSpec Tryz.prog 112 [.d (.sl 2 (l.map eVd)), .fn f cap] [] fun a cs => a = bA (uniqM (l.map key) []) ∧ cs = [] := by
  refine a_enter hT [.d (.sl 2 (l.map eVd)), .fn f cap] [] Tryz.func112 rfl rfl rfl ⟨rfl, Fit.refl _, trivial⟩ fun c' => ?_
  have hlen : (l.map eVd).length = l.length := List.length_map _
  refine a_mkmap hT 40 rfl rfl rfl fun r => ?_
  refine a_loop hT [1, 5, 9, 10, 11] (fun x : Nat × List (Int × Bool) => [.fn f cap, .v (.map (some r)) 40, .d (.sl 2 (l.map eVd)), .v (kI l.length) 0, .v (kI x.1) 0]) (fun x => [(40, .map r (mapG kI bA x.2))]) (fun x => uniqM ((l.drop x.1).map key) x.2 = uniqM (l.map key) [] ∧ x.1 ≤ l.length) (fun x => l.length - x.1) (0, []) [40] rfl rfl ⟨rfl, Nat.zero_le _⟩ ⟨Fit.refl _, rfl, rfl, by rw [← hlen]; rfl, rfl, trivial⟩ rfl ⟨⟨rfl, rfl⟩, trivial⟩ ?_
  rintro ⟨i, M⟩ ⟨i1, i2⟩
  dsimp only at i1 i2
  have hw := wN i (by omega)
  rcases Nat.lt_or_ge i l.length with hil | hil
  · have hat : (l.map eVd)[(i : Int).toNat]? = some (eVd l[i]) := by simp [hil]
    have hF := hf l[i] (List.getElem_mem hil)
    rw [drop_at hil, List.map_cons, uniqM_cons] at i1
    refine a_t hT rfl rfl (decide_eq_true (by show (i : Int) < (l.length : Int); omega)) ?_
    refine a_ix hT _ rfl rfl rfl rfl rfl rfl (by omega) hat ?_
    refine a_new hT hZ 20 rfl rfl rfl rfl fun g => ?_
    refine a_callv hT rfl rfl rfl rfl hb hF [] [] rfl rfl ?_
    rintro _ _ ⟨rfl, rfl⟩
    cases hg : aget M (key l[i]) with
    | none =>
      rw [hg] at i1
      refine a_lookG hT (kv := kI) (va := bA) M (key l[i]) _ rfl rfl rfl mtIB kI_ok zeroB rfl rfl rfl rfl rfl hg ?_
      refine a_f hT rfl rfl rfl ?_
      refine a_callv hT rfl rfl rfl rfl hb hF [] [] rfl rfl ?_
      rintro _ _ ⟨rfl, rfl⟩
      refine a_mputG hT (kv := kI) (va := bA) M (key l[i]) true rfl rfl rfl mtIB kI_ok rfl rfl rfl rfl rfl rfl ?_
      exact a_next hT (i + 1, aput M (key l[i]) true) [40] rfl rfl ⟨⟨i1, by dsimp only; omega⟩, by dsimp only; omega⟩ ⟨Fit.refl _, rfl, rfl, rfl, by show Value.int .i64 _ = Value.int .i64 _; rw [hw], trivial⟩ rfl ⟨⟨rfl, rfl⟩, trivial⟩
    | some b =>
      rw [hg] at i1
      cases b with
      | true =>
        refine a_lookG hT (kv := kI) (va := bA) M (key l[i]) _ rfl rfl rfl mtIB kI_ok zeroB rfl rfl rfl rfl rfl hg ?_
        refine a_t hT rfl rfl rfl ?_
        exact a_ret hT [] rfl rfl rfl rfl rfl rfl ⟨by rw [← i1]; rfl, rfl⟩
      | false =>
        refine a_lookG hT (kv := kI) (va := bA) M (key l[i]) _ rfl rfl rfl mtIB kI_ok zeroB rfl rfl rfl rfl rfl hg ?_
        refine a_f hT rfl rfl rfl ?_
        refine a_callv hT rfl rfl rfl rfl hb hF [] [] rfl rfl ?_
        rintro _ _ ⟨rfl, rfl⟩
        refine a_mputG hT (kv := kI) (va := bA) M (key l[i]) true rfl rfl rfl mtIB kI_ok rfl rfl rfl rfl rfl rfl ?_
        exact a_next hT (i + 1, aput M (key l[i]) true) [40] rfl rfl ⟨⟨i1, by dsimp only; omega⟩, by dsimp only; omega⟩ ⟨Fit.refl _, rfl, rfl, rfl, by show Value.int .i64 _ = Value.int .i64 _; rw [hw], trivial⟩ rfl ⟨⟨rfl, rfl⟩, trivial⟩
  · have hnil : l.drop i = [] := List.drop_eq_nil_of_le hil
    rw [hnil] at i1
    refine a_if hT rfl rfl (fun h => ?_) (fun h => ?_)
    · have h := of_decide_eq_true h
      (exfalso; first | omega | contradiction)
    · have h := of_decide_eq_false h
      refine a_ret hT [] rfl rfl rfl rfl rfl rfl ?_
      exact ⟨by rw [← i1]; rfl, rfl⟩
end Go.Proofs.YtjcolfogmmjaoaaGreatDoor
end

section
set_option linter.unusedVariables false
set_option linter.unusedSimpArgs false
set_option maxRecDepth 100000
namespace Go.Proofs.YtjcolfogmmjaoaaGreatDoor
open V A
def fieldNumP (n : Int) : Bool := decide (1 ≤ n ∧ n ≤ 536870911 ∧ (n < 19000 ∨ 19999 < n))
theorem fieldNumber_spec {n : Int} {h : Nat} : FSpec Tryz.prog 106 [.v (kI n) h] [] fun a cs => a = bA (fieldNumP n) ∧ cs = [] := by
  refine a_enter hT [.v (kI n) 0] [] Tryz.func106 rfl rfl rfl ⟨rfl, trivial⟩ fun c' => ?_
  refine a_g hT rfl rfl rfl (fun h1 => ?_) (fun h1 => ?_)
  · have h1 := of_decide_eq_true h1
    refine a_g hT rfl rfl rfl (fun h2 => ?_) (fun h2 => ?_)
    · have h2 := of_decide_eq_true h2
      refine a_g hT rfl rfl rfl (fun h3 => ?_) (fun h3 => ?_)
      · have h3 := of_decide_eq_true h3
        refine a_ret hT [] rfl rfl rfl rfl rfl rfl ?_
        exact b_eq (by simp [fieldNumP]; omega)
      · have h3 := of_decide_eq_false h3
        refine a_ret hT [] rfl rfl rfl rfl rfl rfl ?_
        exact b_eq (by simp [fieldNumP]; omega)
    · have h2 := of_decide_eq_false h2
      refine a_ret hT [] rfl rfl rfl rfl rfl rfl ?_
      exact b_eq (by simp [fieldNumP]; omega)
  · have h1 := of_decide_eq_false h1
    refine a_gf hT rfl rfl rfl rfl ?_
    refine a_ret hT [] rfl rfl rfl rfl rfl rfl ?_
    exact b_eq (by simp [fieldNumP]; omega)
theorem msg1_spec {f : FDP} : FSpec Tryz.prog 108 [.agg ((eF f).map nd)] [] fun a cs => a = .v (kS f.name) 0 ∧ cs = [] := by
  refine a_enter hT [.agg ((eF f).map nd)] [] Tryz.func108 rfl rfl rfl ⟨Fit.refl _, trivial⟩ fun c' => ?_
  refine a_box hT 20 rfl rfl rfl rfl fun g => ?_
  refine a_ret hT [] rfl rfl rfl rfl rfl rfl ?_
  first | exact ⟨rfl, rfl⟩ | rfl
def mostP (ne nm k : Int) : Int := if k = 9 then ne else if k = 10 then nm else 1
def badF (ne nm last : Int) (f : FDP) : Bool := !fieldNumP f.num || decide (f.num ≤ last) || !plainP f.name || decide (f.kind < 1) || decide (f.kind > 10) || decide (f.ty < 0) || decide (f.ty ≥ mostP ne nm f.kind)
theorem badF_iff {ne nm last : Int} {f : FDP} : badF ne nm last f = true ↔ fieldNumP f.num = false ∨ f.num ≤ last ∨ plainP f.name = false ∨ f.kind < 1 ∨ f.kind > 10 ∨ f.ty < 0 ∨ f.ty ≥ mostP ne nm f.kind := by
  simp [badF, or_assoc]
def fieldsP (ne nm : Int) : List FDP → Int → Bool
  | [], _ => true
  | f :: l, last => if badF ne nm last f then false else fieldsP ne nm l f.num
theorem fieldsP_cons (ne nm : Int) (f : FDP) (l : List FDP) (last : Int) : fieldsP ne nm (f :: l) last = if badF ne nm last f then false else fieldsP ne nm l f.num := rfl
def messageP (s : SchP) (m : MDP) : Bool := fieldsP s.es.length s.ms.length m.fs 0 && (decide (m.fs.length ≤ 32) && uniqM (m.fs.map (·.name)) [])
theorem message_spec {s : SchP} {m : MDP} (hl : m.fs.length < 4611686018427387904) (hn : ∀ f ∈ m.fs, f.name.size ≤ 4611686018427387904) : FSpec Tryz.prog 66 [schA s, .agg ((eM m).map nd)] [] fun a cs => a = bA (messageP s m) ∧ cs = [] := by
  refine a_enter hT [schA s, .agg ((eM m).map nd)] [] Tryz.func66 rfl rfl rfl ⟨Fit.refl _, Fit.refl _, trivial⟩ fun c' => ?_
  have hlen : (m.fs.map eF).length = m.fs.length := List.length_map _
  have hle : (s.es.map eE).length = s.es.length := List.length_map _
  have hlm : (s.ms.map eM).length = s.ms.length := List.length_map _
  refine a_box hT 20 rfl rfl rfl rfl fun g1 => ?_
  refine a_freezeK 2 20 rfl rfl rfl rfl rfl ?_
  refine a_box hT 21 rfl rfl rfl rfl fun g2 => ?_
  refine a_freezeK 3 21 rfl rfl rfl rfl rfl ?_
  refine a_loop hT [2, 3, 5, 10, 11, 12] (fun x : Nat × Int => [.d (.p (schD s)), .d (.p (eM m)), .v (kI x.2) 0, .d (.sl 5 (m.fs.map eF)), .v (kI m.fs.length) 0, .v (kI x.1) 0]) (fun _ => []) (fun x => fieldsP s.es.length s.ms.length (m.fs.drop x.1) x.2 = fieldsP s.es.length s.ms.length m.fs 0 ∧ x.1 ≤ m.fs.length) (fun x => m.fs.length - x.1) (0, 0) [] rfl rfl ⟨rfl, Nat.zero_le _⟩ ⟨rfl, rfl, rfl, rfl, by rw [← hlen]; rfl, rfl, trivial⟩ rfl trivial ?_
  rintro ⟨i, last⟩ ⟨i1, i2⟩
  dsimp only at i1 i2
  have hw := wN i (by omega)
  rcases Nat.lt_or_ge i m.fs.length with hil | hil
  · have hat : (m.fs.map eF)[(i : Int).toNat]? = some (eF m.fs[i]) := by simp [hil]
    have hnm := hn m.fs[i] (List.getElem_mem hil)
    rw [drop_at hil] at i1
    rw [fieldsP_cons] at i1
    generalize hx : m.fs[i] = x at hat hnm i1
    have hbad : badF s.es.length s.ms.length last x = true → AV.v (.bool false) 0 = bA (messageP s m) := fun h => by
      unfold messageP
      rw [← i1, if_pos h]
      rfl
    have hgood : ¬ badF s.es.length s.ms.length last x = true → fieldsP s.es.length s.ms.length (m.fs.drop (i + 1)) x.num = fieldsP s.es.length s.ms.length m.fs 0 := fun h => by
      rw [← i1, if_neg h]
    rw [badF_iff] at hbad hgood
    clear i1
    by_cases hk9 : x.kind = 9
    · have hm : mostP s.es.length s.ms.length x.kind = s.es.length := by unfold mostP; rw [if_pos hk9]
      rw [hm] at hbad hgood
      refine a_if hT rfl rfl (fun h => ?_) (fun h => ?_)
      · have h := of_decide_eq_true h
        refine a_ix hT _ rfl rfl rfl rfl rfl rfl (by first | omega | assumption) (by first | assumption | rfl) ?_
        refine a_new hT hZ 20 rfl rfl rfl rfl fun g => ?_
        refine a_if hT rfl rfl (fun h1 => ?_) (fun h1 => ?_)
        · have h1 := eq_of_beq h1
          refine a_call hT rfl rfl rfl (by kernel_rfl) fieldNumber_spec [] [] rfl rfl ?_
          rintro _ _ ⟨rfl, rfl⟩
          refine a_g hT rfl rfl rfl (fun h2 => ?_) (fun h2 => ?_)
          · simp at h2
            refine a_gt hT rfl rfl rfl rfl ?_
            refine a_gt hT rfl rfl rfl rfl ?_
            refine a_gt hT rfl rfl rfl rfl ?_
            refine a_gt hT rfl rfl rfl rfl ?_
            refine a_gt hT rfl rfl rfl rfl ?_
            refine a_t hT rfl rfl rfl ?_
            refine a_ret hT [] rfl rfl rfl rfl rfl rfl ?_
            exact ⟨hbad (by first | exact .inl (by assumption) | exact .inr (.inl (by assumption)) | exact .inr (.inr (.inl (by assumption))) | (refine .inr (.inr (.inr ?_)); omega)), rfl⟩
          · simp at h2
            refine a_g hT rfl rfl rfl (fun h3 => ?_) (fun h3 => ?_)
            · have h3 := of_decide_eq_true h3
              refine a_gt hT rfl rfl rfl rfl ?_
              refine a_gt hT rfl rfl rfl rfl ?_
              refine a_gt hT rfl rfl rfl rfl ?_
              refine a_gt hT rfl rfl rfl rfl ?_
              refine a_t hT rfl rfl rfl ?_
              refine a_ret hT [] rfl rfl rfl rfl rfl rfl ?_
              exact ⟨hbad (by first | exact .inl (by assumption) | exact .inr (.inl (by assumption)) | exact .inr (.inr (.inl (by assumption))) | (refine .inr (.inr (.inr ?_)); omega)), rfl⟩
            · have h3 := of_decide_eq_false h3
              refine a_call hT rfl rfl rfl (by kernel_rfl) (Plain_spec (by first | assumption | rfl | decide | omega | (dsimp only; omega))) [] [] rfl rfl ?_
              rintro _ _ ⟨rfl, rfl⟩
              refine a_g hT rfl rfl rfl (fun h4 => ?_) (fun h4 => ?_)
              · simp at h4
                refine a_gt hT rfl rfl rfl rfl ?_
                refine a_gt hT rfl rfl rfl rfl ?_
                refine a_gt hT rfl rfl rfl rfl ?_
                refine a_t hT rfl rfl rfl ?_
                refine a_ret hT [] rfl rfl rfl rfl rfl rfl ?_
                exact ⟨hbad (by first | exact .inl (by assumption) | exact .inr (.inl (by assumption)) | exact .inr (.inr (.inl (by assumption))) | (refine .inr (.inr (.inr ?_)); omega)), rfl⟩
              · simp at h4
                refine a_g hT rfl rfl rfl (fun h5 => ?_) (fun h5 => ?_)
                · have h5 := of_decide_eq_true h5
                  (exfalso; first | omega | contradiction)
                · have h5 := of_decide_eq_false h5
                  refine a_g hT rfl rfl rfl (fun h6 => ?_) (fun h6 => ?_)
                  · have h6 := of_decide_eq_true h6
                    (exfalso; first | omega | contradiction)
                  · have h6 := of_decide_eq_false h6
                    refine a_g hT rfl rfl rfl (fun h7 => ?_) (fun h7 => ?_)
                    · have h7 := of_decide_eq_true h7
                      refine a_t hT rfl rfl rfl ?_
                      refine a_ret hT [] rfl rfl rfl rfl rfl rfl ?_
                      exact ⟨hbad (by first | exact .inl (by assumption) | exact .inr (.inl (by assumption)) | exact .inr (.inr (.inl (by assumption))) | (refine .inr (.inr (.inr ?_)); omega)), rfl⟩
                    · have h7 := of_decide_eq_false h7
                      refine a_if hT rfl rfl (fun h8 => ?_) (fun h8 => ?_)
                      · have h8 := of_decide_eq_true h8
                        refine a_ret hT [] rfl rfl rfl rfl rfl rfl ?_
                        exact ⟨hbad (by first | exact .inl (by assumption) | exact .inr (.inl (by assumption)) | exact .inr (.inr (.inl (by assumption))) | (refine .inr (.inr (.inr ?_)); omega)), rfl⟩
                      · have h8 := of_decide_eq_false h8
                        exact a_next hT (i + 1, x.num) [] rfl rfl ⟨⟨hgood (by simp_all), by dsimp only; omega⟩, by dsimp only; omega⟩ ⟨rfl, rfl, rfl, rfl, rfl, by show Value.int .i64 _ = Value.int .i64 _; rw [hw], trivial⟩ rfl trivial
        · have h1 := ne_of_beq_false h1
          (exfalso; first | omega | contradiction)
      · have h := of_decide_eq_false h
        (exfalso; first | omega | contradiction)
    · by_cases hk10 : x.kind = 10
      · have hm : mostP s.es.length s.ms.length x.kind = s.ms.length := by unfold mostP; rw [if_neg hk9, if_pos hk10]
        rw [hm] at hbad hgood
        refine a_if hT rfl rfl (fun h => ?_) (fun h => ?_)
        · have h := of_decide_eq_true h
          refine a_ix hT _ rfl rfl rfl rfl rfl rfl (by first | omega | assumption) (by first | assumption | rfl) ?_
          refine a_new hT hZ 20 rfl rfl rfl rfl fun g => ?_
          refine a_if hT rfl rfl (fun h1 => ?_) (fun h1 => ?_)
          · have h1 := eq_of_beq h1
            (exfalso; first | omega | contradiction)
          · have h1 := ne_of_beq_false h1
            refine a_if hT rfl rfl (fun h2 => ?_) (fun h2 => ?_)
            · have h2 := eq_of_beq h2
              refine a_call hT rfl rfl rfl (by kernel_rfl) fieldNumber_spec [] [] rfl rfl ?_
              rintro _ _ ⟨rfl, rfl⟩
              refine a_g hT rfl rfl rfl (fun h3 => ?_) (fun h3 => ?_)
              · simp at h3
                refine a_gt hT rfl rfl rfl rfl ?_
                refine a_gt hT rfl rfl rfl rfl ?_
                refine a_gt hT rfl rfl rfl rfl ?_
                refine a_gt hT rfl rfl rfl rfl ?_
                refine a_gt hT rfl rfl rfl rfl ?_
                refine a_t hT rfl rfl rfl ?_
                refine a_ret hT [] rfl rfl rfl rfl rfl rfl ?_
                exact ⟨hbad (by first | exact .inl (by assumption) | exact .inr (.inl (by assumption)) | exact .inr (.inr (.inl (by assumption))) | (refine .inr (.inr (.inr ?_)); omega)), rfl⟩
              · simp at h3
                refine a_g hT rfl rfl rfl (fun h4 => ?_) (fun h4 => ?_)
                · have h4 := of_decide_eq_true h4
                  refine a_gt hT rfl rfl rfl rfl ?_
                  refine a_gt hT rfl rfl rfl rfl ?_
                  refine a_gt hT rfl rfl rfl rfl ?_
                  refine a_gt hT rfl rfl rfl rfl ?_
                  refine a_t hT rfl rfl rfl ?_
                  refine a_ret hT [] rfl rfl rfl rfl rfl rfl ?_
                  exact ⟨hbad (by first | exact .inl (by assumption) | exact .inr (.inl (by assumption)) | exact .inr (.inr (.inl (by assumption))) | (refine .inr (.inr (.inr ?_)); omega)), rfl⟩
                · have h4 := of_decide_eq_false h4
                  refine a_call hT rfl rfl rfl (by kernel_rfl) (Plain_spec (by first | assumption | rfl | decide | omega | (dsimp only; omega))) [] [] rfl rfl ?_
                  rintro _ _ ⟨rfl, rfl⟩
                  refine a_g hT rfl rfl rfl (fun h5 => ?_) (fun h5 => ?_)
                  · simp at h5
                    refine a_gt hT rfl rfl rfl rfl ?_
                    refine a_gt hT rfl rfl rfl rfl ?_
                    refine a_gt hT rfl rfl rfl rfl ?_
                    refine a_t hT rfl rfl rfl ?_
                    refine a_ret hT [] rfl rfl rfl rfl rfl rfl ?_
                    exact ⟨hbad (by first | exact .inl (by assumption) | exact .inr (.inl (by assumption)) | exact .inr (.inr (.inl (by assumption))) | (refine .inr (.inr (.inr ?_)); omega)), rfl⟩
                  · simp at h5
                    refine a_g hT rfl rfl rfl (fun h6 => ?_) (fun h6 => ?_)
                    · have h6 := of_decide_eq_true h6
                      (exfalso; first | omega | contradiction)
                    · have h6 := of_decide_eq_false h6
                      refine a_g hT rfl rfl rfl (fun h7 => ?_) (fun h7 => ?_)
                      · have h7 := of_decide_eq_true h7
                        (exfalso; first | omega | contradiction)
                      · have h7 := of_decide_eq_false h7
                        refine a_g hT rfl rfl rfl (fun h8 => ?_) (fun h8 => ?_)
                        · have h8 := of_decide_eq_true h8
                          refine a_t hT rfl rfl rfl ?_
                          refine a_ret hT [] rfl rfl rfl rfl rfl rfl ?_
                          exact ⟨hbad (by first | exact .inl (by assumption) | exact .inr (.inl (by assumption)) | exact .inr (.inr (.inl (by assumption))) | (refine .inr (.inr (.inr ?_)); omega)), rfl⟩
                        · have h8 := of_decide_eq_false h8
                          refine a_if hT rfl rfl (fun h9 => ?_) (fun h9 => ?_)
                          · have h9 := of_decide_eq_true h9
                            refine a_ret hT [] rfl rfl rfl rfl rfl rfl ?_
                            exact ⟨hbad (by first | exact .inl (by assumption) | exact .inr (.inl (by assumption)) | exact .inr (.inr (.inl (by assumption))) | (refine .inr (.inr (.inr ?_)); omega)), rfl⟩
                          · have h9 := of_decide_eq_false h9
                            exact a_next hT (i + 1, x.num) [] rfl rfl ⟨⟨hgood (by simp_all), by dsimp only; omega⟩, by dsimp only; omega⟩ ⟨rfl, rfl, rfl, rfl, rfl, by show Value.int .i64 _ = Value.int .i64 _; rw [hw], trivial⟩ rfl trivial
            · have h2 := ne_of_beq_false h2
              (exfalso; first | omega | contradiction)
        · have h := of_decide_eq_false h
          (exfalso; first | omega | contradiction)
      · have hm : mostP s.es.length s.ms.length x.kind = 1 := by unfold mostP; rw [if_neg hk9, if_neg hk10]
        rw [hm] at hbad hgood
        refine a_if hT rfl rfl (fun h => ?_) (fun h => ?_)
        · have h := of_decide_eq_true h
          refine a_ix hT _ rfl rfl rfl rfl rfl rfl (by first | omega | assumption) (by first | assumption | rfl) ?_
          refine a_new hT hZ 20 rfl rfl rfl rfl fun g => ?_
          refine a_if hT rfl rfl (fun h1 => ?_) (fun h1 => ?_)
          · have h1 := eq_of_beq h1
            (exfalso; first | omega | contradiction)
          · have h1 := ne_of_beq_false h1
            refine a_if hT rfl rfl (fun h2 => ?_) (fun h2 => ?_)
            · have h2 := eq_of_beq h2
              (exfalso; first | omega | contradiction)
            · have h2 := ne_of_beq_false h2
              refine a_call hT rfl rfl rfl (by kernel_rfl) fieldNumber_spec [] [] rfl rfl ?_
              rintro _ _ ⟨rfl, rfl⟩
              refine a_g hT rfl rfl rfl (fun h3 => ?_) (fun h3 => ?_)
              · simp at h3
                refine a_gt hT rfl rfl rfl rfl ?_
                refine a_gt hT rfl rfl rfl rfl ?_
                refine a_gt hT rfl rfl rfl rfl ?_
                refine a_gt hT rfl rfl rfl rfl ?_
                refine a_gt hT rfl rfl rfl rfl ?_
                refine a_t hT rfl rfl rfl ?_
                refine a_ret hT [] rfl rfl rfl rfl rfl rfl ?_
                exact ⟨hbad (by first | exact .inl (by assumption) | exact .inr (.inl (by assumption)) | exact .inr (.inr (.inl (by assumption))) | (refine .inr (.inr (.inr ?_)); omega)), rfl⟩
              · simp at h3
                refine a_g hT rfl rfl rfl (fun h4 => ?_) (fun h4 => ?_)
                · have h4 := of_decide_eq_true h4
                  refine a_gt hT rfl rfl rfl rfl ?_
                  refine a_gt hT rfl rfl rfl rfl ?_
                  refine a_gt hT rfl rfl rfl rfl ?_
                  refine a_gt hT rfl rfl rfl rfl ?_
                  refine a_t hT rfl rfl rfl ?_
                  refine a_ret hT [] rfl rfl rfl rfl rfl rfl ?_
                  exact ⟨hbad (by first | exact .inl (by assumption) | exact .inr (.inl (by assumption)) | exact .inr (.inr (.inl (by assumption))) | (refine .inr (.inr (.inr ?_)); omega)), rfl⟩
                · have h4 := of_decide_eq_false h4
                  refine a_call hT rfl rfl rfl (by kernel_rfl) (Plain_spec (by first | assumption | rfl | decide | omega | (dsimp only; omega))) [] [] rfl rfl ?_
                  rintro _ _ ⟨rfl, rfl⟩
                  refine a_g hT rfl rfl rfl (fun h5 => ?_) (fun h5 => ?_)
                  · simp at h5
                    refine a_gt hT rfl rfl rfl rfl ?_
                    refine a_gt hT rfl rfl rfl rfl ?_
                    refine a_gt hT rfl rfl rfl rfl ?_
                    refine a_t hT rfl rfl rfl ?_
                    refine a_ret hT [] rfl rfl rfl rfl rfl rfl ?_
                    exact ⟨hbad (by first | exact .inl (by assumption) | exact .inr (.inl (by assumption)) | exact .inr (.inr (.inl (by assumption))) | (refine .inr (.inr (.inr ?_)); omega)), rfl⟩
                  · simp at h5
                    refine a_g hT rfl rfl rfl (fun h6 => ?_) (fun h6 => ?_)
                    · have h6 := of_decide_eq_true h6
                      refine a_gt hT rfl rfl rfl rfl ?_
                      refine a_gt hT rfl rfl rfl rfl ?_
                      refine a_t hT rfl rfl rfl ?_
                      refine a_ret hT [] rfl rfl rfl rfl rfl rfl ?_
                      exact ⟨hbad (by first | exact .inl (by assumption) | exact .inr (.inl (by assumption)) | exact .inr (.inr (.inl (by assumption))) | (refine .inr (.inr (.inr ?_)); omega)), rfl⟩
                    · have h6 := of_decide_eq_false h6
                      refine a_g hT rfl rfl rfl (fun h7 => ?_) (fun h7 => ?_)
                      · have h7 := of_decide_eq_true h7
                        refine a_gt hT rfl rfl rfl rfl ?_
                        refine a_t hT rfl rfl rfl ?_
                        refine a_ret hT [] rfl rfl rfl rfl rfl rfl ?_
                        exact ⟨hbad (by first | exact .inl (by assumption) | exact .inr (.inl (by assumption)) | exact .inr (.inr (.inl (by assumption))) | (refine .inr (.inr (.inr ?_)); omega)), rfl⟩
                      · have h7 := of_decide_eq_false h7
                        refine a_g hT rfl rfl rfl (fun h8 => ?_) (fun h8 => ?_)
                        · have h8 := of_decide_eq_true h8
                          refine a_t hT rfl rfl rfl ?_
                          refine a_ret hT [] rfl rfl rfl rfl rfl rfl ?_
                          exact ⟨hbad (by first | exact .inl (by assumption) | exact .inr (.inl (by assumption)) | exact .inr (.inr (.inl (by assumption))) | (refine .inr (.inr (.inr ?_)); omega)), rfl⟩
                        · have h8 := of_decide_eq_false h8
                          refine a_if hT rfl rfl (fun h9 => ?_) (fun h9 => ?_)
                          · have h9 := of_decide_eq_true h9
                            refine a_ret hT [] rfl rfl rfl rfl rfl rfl ?_
                            exact ⟨hbad (by first | exact .inl (by assumption) | exact .inr (.inl (by assumption)) | exact .inr (.inr (.inl (by assumption))) | (refine .inr (.inr (.inr ?_)); omega)), rfl⟩
                          · have h9 := of_decide_eq_false h9
                            exact a_next hT (i + 1, x.num) [] rfl rfl ⟨⟨hgood (by simp_all), by dsimp only; omega⟩, by dsimp only; omega⟩ ⟨rfl, rfl, rfl, rfl, rfl, by show Value.int .i64 _ = Value.int .i64 _; rw [hw], trivial⟩ rfl trivial
        · have h := of_decide_eq_false h
          (exfalso; first | omega | contradiction)
  · have hnil : m.fs.drop i = [] := List.drop_eq_nil_of_le hil
    rw [hnil] at i1
    have hU := UFS_spec (l := m.fs) (key := fun f => f.name) (f := 108) (cap := []) hl (by kernel_rfl) (fun x _ => msg1_spec)
    have hmp : messageP s m = (decide (m.fs.length ≤ 32) && uniqM (m.fs.map (·.name)) []) := by unfold messageP; rw [← i1]; rfl
    refine a_if hT rfl rfl (fun h => ?_) (fun h => ?_)
    · have h := of_decide_eq_true h
      (exfalso; first | omega | contradiction)
    · have h := of_decide_eq_false h
      refine a_g hT rfl rfl rfl (fun h1 => ?_) (fun h1 => ?_)
      · have h1 := of_decide_eq_true h1
        refine a_call hT rfl rfl rfl (by kernel_rfl) hU [] [] rfl rfl ?_
        rintro _ _ ⟨rfl, rfl⟩
        refine a_ret hT [] rfl rfl rfl rfl rfl rfl ?_
        exact b_eq (by rw [hmp]; simp; omega)
      · have h1 := of_decide_eq_false h1
        refine a_ret hT [] rfl rfl rfl rfl rfl rfl ?_
        exact b_eq (by rw [hmp]; simp; omega)
end Go.Proofs.YtjcolfogmmjaoaaGreatDoor
end

section
set_option linter.unusedVariables false
set_option linter.unusedSimpArgs false
set_option maxRecDepth 100000
namespace Go.Proofs.YtjcolfogmmjaoaaGreatDoor
open V A
structure Plain0 (s : SchP) : Prop where
  es : s.es = []
  mts : s.mts = []
  ms : s.ms.length ≤ 1000
  fl : ∀ m ∈ s.ms, m.fs.length ≤ 1000
  nm : ∀ m ∈ s.ms, m.name.size ≤ 900000
  fn : ∀ m ∈ s.ms, ∀ f ∈ m.fs, f.name.size ≤ 900000
  kd : ∀ m ∈ s.ms, ∀ f ∈ m.fs, f.kind ≠ 10
theorem form1_spec {b : ByteArray} {h : Nat} (hb : b.size ≤ 900000) : FSpec Tryz.prog 60 [.v (.string b) h] [] fun a cs => a = bA (!pathOk b) ∧ cs = [] := by
  refine a_enter hT [.v (.string b) 0] [] Tryz.func60 rfl rfl rfl ⟨rfl, trivial⟩ fun c' => ?_
  have HP := Path_spec (h := 0) hb
  cases hp : pathOk b
  · rw [hp] at HP
    refine a_call hT rfl rfl rfl (by kernel_rfl) HP [] [] rfl rfl ?_
    rintro _ _ ⟨rfl, rfl⟩
    refine a_ret hT [] rfl rfl rfl rfl rfl rfl ?_
    exact ⟨rfl, rfl⟩
  · rw [hp] at HP
    refine a_call hT rfl rfl rfl (by kernel_rfl) HP [] [] rfl rfl ?_
    rintro _ _ ⟨rfl, rfl⟩
    refine a_ret hT [] rfl rfl rfl rfl rfl rfl ?_
    exact ⟨rfl, rfl⟩
theorem form2_spec {b : ByteArray} {h : Nat} : FSpec Tryz.prog 63 [.v (.string b) h] [] fun a cs => a = .v (kS b) 0 ∧ cs = [] := by
  refine a_enter hT [.v (.string b) 0] [] Tryz.func63 rfl rfl rfl ⟨rfl, trivial⟩ fun c' => ?_
  refine a_ret hT [] rfl rfl rfl rfl rfl rfl ?_
  exact ⟨rfl, rfl⟩
theorem form3_spec {s : SchP} {m : MDP} (hl : m.fs.length < 4611686018427387904) (hn : ∀ f ∈ m.fs, f.name.size ≤ 4611686018427387904) : FSpec Tryz.prog 65 [.agg ((eM m).map nd), .d (.p (schD s))] [] fun a cs => a = bA (!messageP s m) ∧ cs = [] := by
  refine a_enter hT [.agg ((eM m).map nd), .d (.p (schD s))] [] Tryz.func65 rfl rfl rfl ⟨Fit.refl _, Fit.refl _, trivial⟩ fun c' => ?_
  have HM := message_spec (s := s) hl hn
  refine a_box hT 20 rfl rfl rfl rfl fun g => ?_
  refine a_call hT rfl rfl rfl (by kernel_rfl) HM [] [] rfl rfl ?_
  rintro _ _ ⟨rfl, rfl⟩
  refine a_ret hT [] rfl rfl rfl rfl rfl rfl ?_
  exact ⟨rfl, rfl⟩
theorem uniq0_spec {f : FuncId} {cap : List AV} : FSpec Tryz.prog 71 [.d (.sl 5 []), .fn f cap] [] fun a cs => a = bA true ∧ cs = [] := by
  refine a_enter hT [.d (.sl 5 []), .fn f cap] [] Tryz.func71 rfl rfl rfl ⟨rfl, Fit.refl _, trivial⟩ fun c' => ?_
  refine a_mkmap hT 40 rfl rfl rfl fun r => ?_
  refine a_loop hT [9, 10, 11] (fun _ : Unit => [.d (.sl 5 []), .v (kI 0) 0, .v (kI 0) 0]) (fun _ => []) (fun _ => True) (fun _ => 0) () [] rfl rfl trivial ⟨rfl, rfl, rfl, trivial⟩ rfl trivial ?_
  rintro _ _
  refine a_f hT rfl rfl rfl ?_
  refine a_ret hT [] rfl rfl rfl rfl rfl rfl ?_
  exact ⟨rfl, rfl⟩
theorem reach0_spec {s : SchP} {k : Nat} {a1 a2 a3 : AV} {h : Nat} (hs : Plain0 s) (hk : k < s.ms.length) : FSpec Tryz.prog 116 [.v (kI k) h, .d (.p (schD s)), a1, a2, a3] [] fun a cs => a = bA false ∧ cs = [] := by
  refine a_enter hT [.v (kI k) 0, .d (.p (schD s)), a1, a2, a3] [] Tryz.func116 rfl rfl rfl ⟨rfl, Fit.refl _, Fit.refl _, Fit.refl _, Fit.refl _, trivial⟩ fun c' => ?_
  have hat : (s.ms.map eM)[(k : Int).toNat]? = some (eM s.ms[k]) := by simp [hk]
  have hm := List.getElem_mem hk
  have hkd := hs.kd _ hm
  have hfl := hs.fl _ hm
  generalize s.ms[k] = m at hat hm hkd hfl
  have hlen : (m.fs.map eF).length = m.fs.length := List.length_map _
  refine a_ix hT _ rfl rfl rfl rfl rfl rfl (by omega) hat ?_
  refine a_loop hT [14, 15, 16] (fun i : Nat => [.d (.sl 5 (m.fs.map eF)), .v (kI m.fs.length) 0, .v (kI i) 0]) (fun _ => []) (fun i => i ≤ m.fs.length) (fun i => m.fs.length - i) 0 [] rfl rfl (Nat.zero_le _) ⟨rfl, by rw [← hlen]; rfl, rfl, trivial⟩ rfl trivial ?_
  intro i i2
  have hw := wN i (by omega)
  rcases Nat.lt_or_ge i m.fs.length with hil | hil
  · have hat : (m.fs.map eF)[(i : Int).toNat]? = some (eF m.fs[i]) := by simp [hil]
    have hk10 := hkd _ (List.getElem_mem hil)
    refine a_if hT rfl rfl (fun h1 => ?_) (fun h1 => ?_)
    · have h1 := of_decide_eq_true h1
      refine a_ix hT _ rfl rfl rfl rfl rfl rfl (by first | omega | assumption) (by first | assumption | rfl) ?_
      refine a_new hT hZ 20 rfl rfl rfl rfl fun g => ?_
      refine a_g hT rfl rfl rfl (fun h2 => ?_) (fun h2 => ?_)
      · have h2 := bne_iff_ne.1 h2
        refine a_t hT rfl rfl rfl ?_
        exact a_next hT (i + 1) [] rfl rfl ⟨by show i + 1 ≤ m.fs.length; omega, by show m.fs.length - (i + 1) < m.fs.length - i; omega⟩ ⟨rfl, rfl, by show Value.int .i64 _ = Value.int .i64 _; rw [hw], trivial⟩ rfl trivial
      · simp at h2
        (exfalso; first | omega | contradiction)
    · have h1 := of_decide_eq_false h1
      (exfalso; first | omega | contradiction)
  · refine a_if hT rfl rfl (fun h1 => ?_) (fun h1 => ?_)
    · have h1 := of_decide_eq_true h1
      (exfalso; first | omega | contradiction)
    · have h1 := of_decide_eq_false h1
      refine a_ret hT [] rfl rfl rfl rfl rfl rfl ?_
      exact ⟨rfl, rfl⟩
theorem needs0_spec {s : SchP} {k : Nat} {h : Nat} (hs : Plain0 s) (hk : k < s.ms.length) : FSpec Tryz.prog 73 [schA s, .v (kI k) h] [] fun a cs => a = bA false ∧ cs = [] := by
  refine a_enter hT [schA s, .v (kI k) 0] [] Tryz.func73 rfl rfl rfl ⟨Fit.refl _, rfl, trivial⟩ fun c' => ?_
  have hlm : (s.ms.map eM).length = s.ms.length := List.length_map _
  have hms := hs.ms
  refine a_box hT 20 rfl rfl rfl rfl fun g1 => ?_
  refine a_freezeK 2 20 rfl rfl rfl rfl rfl ?_
  refine a_box hT 21 rfl rfl rfl rfl fun g2 => ?_
  refine a_mkslice hT 22 (z := .bool false) s.ms.length s.ms.length rfl rfl rfl rfl (by kernel_rfl) (by kernel_rfl) rfl rfl rfl (by show (((s.ms.map eM).length : Nat) : Int) = _; rw [hlm]) (by show (((s.ms.map eM).length : Nat) : Int) = _; rw [hlm]) (Nat.le_refl _) (by omega) fun x => ?_
  refine a_new hT hZ 23 rfl rfl rfl rfl fun g => ?_
  refine a_new hT hZ 24 rfl rfl rfl rfl fun g3 => ?_
  refine a_callv hT rfl rfl rfl rfl (by kernel_rfl) (reach0_spec hs hk) [] [] rfl rfl ?_
  rintro _ _ ⟨rfl, rfl⟩
  exact a_ret hT [] rfl rfl rfl rfl rfl rfl ⟨rfl, rfl⟩
def formedS (ms : List MDP) : Bool := decide (ms.length ≤ 64) && ((ms.map (·.name)).all pathOk && (uniqM (ms.map (·.name)) [] && ms.all (messageP ⟨ms, [], []⟩)))
theorem Formed0_spec {ms : List MDP} (hs : Plain0 ⟨ms, [], []⟩) : FSpec Tryz.prog 37 [schA ⟨ms, [], []⟩] [] fun a cs => a = bA (formedS ms) ∧ cs = [] := by
  refine a_enter hT [schA ⟨ms, [], []⟩] [] Tryz.func37 rfl rfl rfl ⟨Fit.refl _, trivial⟩ fun c' => ?_
  have hlm : (ms.map eM).length = ms.length := List.length_map _
  have hms : ms.length ≤ 1000 := hs.ms
  refine a_box hT 20 rfl rfl rfl rfl fun g1 => ?_
  refine a_freezeK 1 20 rfl rfl rfl rfl rfl ?_
  refine a_g hT rfl rfl rfl (fun h => ?_) (fun h => ?_)
  · have h := of_decide_eq_true h
    refine a_gt hT rfl rfl rfl rfl ?_
    refine a_t hT rfl rfl rfl ?_
    refine a_ret hT [] rfl rfl rfl rfl rfl rfl ?_
    exact b_eq (by have h : (ms.length : Int) > 64 := by rw [← hlm]; exact h
                   simp [formedS]; omega)
  · have h := of_decide_eq_false h
    have h64 : ¬ (ms.length : Int) > 64 := by rw [← hlm]; exact h
    refine a_gf hT rfl rfl rfl rfl ?_
    refine a_f hT rfl rfl rfl ?_
    refine a_run hT 6 rfl rfl ?_
    refine a_nilrow 3 30 9 1 rfl rfl ?_
    refine a_loop hT [1, 3, 28, 29, 30] (fun x : Nat × Value => [.d (.p (schD ⟨ms, [], []⟩)), .row x.2 30, .d (.sl 2 (ms.map eM)), .v (kI ms.length) 0, .v (kI x.1) 0]) (fun x => [(30, .row x.2 9 1 (((ms.take x.1).map (·.name)).map eS))]) (fun x => x.1 ≤ ms.length) (fun x => ms.length - x.1) (0, .slice none 0 0) [30] rfl rfl (Nat.zero_le _) ⟨rfl, rfl, rfl, by rw [← hlm]; rfl, rfl, trivial⟩ rfl ⟨⟨rfl, rfl, rfl, rfl⟩, trivial⟩ ?_
    rintro ⟨i, v⟩ i2
    dsimp only at i2
    have hw := wN i (by omega)
    rcases Nat.lt_or_ge i ms.length with hil | hil
    · have hat : (ms.map eM)[(i : Int).toNat]? = some (eM ms[i]) := by simp [hil]
      have htk : ((ms.take (i + 1)).map (·.name)).map eS = ((ms.take i).map (·.name)).map eS ++ [eS ms[i].name] := by rw [List.take_succ_eq_append_getElem hil, List.map_append, List.map_append]; rfl
      generalize ms[i] = m at hat htk
      refine a_t hT rfl rfl (decide_eq_true (by show (i : Int) < (ms.length : Int); omega)) ?_
      refine a_ix hT _ rfl rfl rfl rfl rfl rfl (by first | omega | assumption) (by first | assumption | rfl) ?_
      refine a_new hT hZ 31 rfl rfl rfl rfl fun g => ?_
      refine a_lit hT 32 rfl rfl rfl rfl (by kernel_rfl) rfl rfl rfl rfl fun x32 => ?_
      refine a_app hT 30 _ rfl rfl rfl rfl (by kernel_rfl) rfl rfl rfl rfl rfl rfl (by first | (simp; done) | (simp; omega) | (simp; unfold lim; omega) | (simp; assumption)) fun v1 => ?_
      exact a_next hT (i + 1, v1) [30] rfl rfl ⟨by show i + 1 ≤ ms.length; omega, by show ms.length - (i + 1) < ms.length - i; omega⟩ ⟨rfl, rfl, rfl, rfl, by show Value.int .i64 _ = Value.int .i64 _; rw [hw], trivial⟩ rfl ⟨⟨rfl, rfl, rfl, htk.symm⟩, trivial⟩
    · refine a_if hT rfl rfl (fun h1 => ?_) (fun h1 => ?_)
      · have h1 := of_decide_eq_true h1
        (exfalso; first | omega | contradiction)
      · have h1 := of_decide_eq_false h1
        have hi : i = ms.length := by omega
        subst hi
        refine a_loop hT [1, 3, 41, 42, 43] (fun _ : Unit => [.d (.p (schD ⟨ms, [], []⟩)), .row v 30, .d (.sl 2 []), .v (kI 0) 0, .v (kI 0) 0]) (fun _ => [(30, .row v 9 1 ((ms.map (·.name)).map eS))]) (fun _ => True) (fun _ => 0) () [30] rfl rfl trivial ⟨rfl, rfl, rfl, rfl, rfl, trivial⟩ rfl ⟨⟨rfl, rfl, rfl, by show ((ms.take ms.length).map (·.name)).map eS = _; rw [List.take_length]⟩, trivial⟩ ?_
        rintro _ _
        refine a_f hT rfl rfl rfl ?_
        have HC := SContainsFunc_spec (l := ms.map (·.name)) (p := fun y => !pathOk y) (f := 60) (cap := []) (by rw [List.length_map]; omega) (by kernel_rfl) (fun x hx => form1_spec (by
          obtain ⟨m, hm, rfl⟩ := List.mem_map.1 hx
          exact hs.nm m hm))
        have HU := USS_spec (l := ms.map (·.name)) (key := fun x => x) (f := 63) (cap := []) (by rw [List.length_map]; omega) (by kernel_rfl) (fun x hx => form2_spec)
        have HM := MContainsFunc_spec (l := ms) (p := fun m => !messageP ⟨ms, [], []⟩ m) (f := 65) (cap := [.d (.p (schD ⟨ms, [], []⟩))]) (by omega) (by kernel_rfl) (fun x hx => form3_spec (by have := hs.fl x hx; omega) (fun f hf => by have := hs.fn x hx f hf; omega))
        have HE := EContainsFunc_spec (l := []) (p := fun _ => false) (f := 68) (cap := []) (by decide) (by kernel_rfl) (fun x hx => absurd hx (by simp))
        have hall1 : (ms.map (·.name)).any (fun y => !pathOk y) = !(ms.map (·.name)).all pathOk := by rw [List.all_eq_not_any_not, Bool.not_not]
        have hall2 : ms.any (fun m => !messageP ⟨ms, [], []⟩ m) = !ms.all (messageP ⟨ms, [], []⟩) := by rw [List.all_eq_not_any_not, Bool.not_not]
        rw [hall1] at HC
        rw [hall2] at HM
        rw [List.map_id'] at HU
        have hfm : formedS ms = ((ms.map (·.name)).all pathOk && (uniqM (ms.map (·.name)) [] && ms.all (messageP ⟨ms, [], []⟩))) := by unfold formedS; rw [decide_eq_true (show ms.length ≤ 64 by omega)]; rfl
        generalize (ms.map (·.name)).all pathOk = bA1 at HC hfm
        generalize uniqM (ms.map (·.name)) [] = bU1 at HU hfm
        generalize ms.all (messageP ⟨ms, [], []⟩) = bM1 at HM hfm
        refine a_callZ hT rfl rfl rfl (by kernel_rfl) HC [30] [] [] rfl rfl rfl ⟨rfl, ⟨rfl, trivial⟩, trivial⟩ trivial (by rintro _ _ ⟨rfl, rfl⟩; exact ⟨inferInstance, inferInstance⟩) ?_
        rintro _ _ ⟨rfl, rfl⟩
        refine a_g hT rfl rfl rfl (fun h2 => ?_) (fun h2 => ?_)
        · simp at h2
          refine a_t hT rfl rfl rfl ?_
          refine a_ret hT [] rfl rfl rfl rfl rfl rfl ?_
          exact b_eq (by rw [hfm]; simp_all)
        · simp at h2
          refine a_callZ hT rfl rfl rfl (by kernel_rfl) HU [30] [] [] rfl rfl rfl ⟨rfl, ⟨rfl, trivial⟩, trivial⟩ trivial (by rintro _ _ ⟨rfl, rfl⟩; exact ⟨inferInstance, inferInstance⟩) ?_
          rintro _ _ ⟨rfl, rfl⟩
          refine a_if hT rfl rfl (fun h3 => ?_) (fun h3 => ?_)
          · simp at h3
            refine a_ret hT [] rfl rfl rfl rfl rfl rfl ?_
            exact b_eq (by rw [hfm]; simp_all)
          · simp at h3
            refine a_call hT rfl rfl rfl (by kernel_rfl) HM [] [] rfl rfl ?_
            rintro _ _ ⟨rfl, rfl⟩
            refine a_g hT rfl rfl rfl (fun h4 => ?_) (fun h4 => ?_)
            · simp at h4
              refine a_t hT rfl rfl rfl ?_
              refine a_ret hT [] rfl rfl rfl rfl rfl rfl ?_
              exact b_eq (by rw [hfm]; simp_all)
            · simp at h4
              refine a_call hT rfl rfl rfl (by kernel_rfl) HE [] [] rfl rfl ?_
              rintro _ _ ⟨rfl, rfl⟩
              refine a_f hT rfl rfl rfl ?_
              refine a_loop hT [1, 70, 71, 72] (fun _ : Unit => [.d (.p (schD ⟨ms, [], []⟩)), .d (.sl 5 []), .v (kI 0) 0, .v (kI 0) 0]) (fun _ => []) (fun _ => True) (fun _ => 0) () [] rfl rfl trivial ⟨rfl, rfl, rfl, rfl, trivial⟩ rfl trivial ?_
              rintro _ _
              refine a_f hT rfl rfl rfl ?_
              refine a_call hT rfl rfl rfl (by kernel_rfl) (uniq0_spec (f := 72) (cap := [])) [] [] rfl rfl ?_
              rintro _ _ ⟨rfl, rfl⟩
              refine a_f hT rfl rfl rfl ?_
              refine a_loop hT [1, 119, 120, 121] (fun i : Nat => [.d (.p (schD ⟨ms, [], []⟩)), .d (.sl 2 (ms.map eM)), .v (kI ms.length) 0, .v (kI i) 0]) (fun _ => []) (fun i => i ≤ ms.length) (fun i => ms.length - i) 0 [] rfl rfl (Nat.zero_le _) ⟨rfl, rfl, by rw [← hlm]; rfl, rfl, trivial⟩ rfl trivial ?_
              intro i i2
              have hw := wN i (by omega)
              rcases Nat.lt_or_ge i ms.length with hil | hil
              · refine a_t hT rfl rfl (decide_eq_true (by show (i : Int) < (ms.length : Int); omega)) ?_
                refine a_call hT rfl rfl rfl (by kernel_rfl) (needs0_spec (h := 0) hs hil) [] [] rfl rfl ?_
                rintro _ _ ⟨rfl, rfl⟩
                refine a_f hT rfl rfl rfl ?_
                exact a_next hT (i + 1) [] rfl rfl ⟨by show i + 1 ≤ ms.length; omega, by show ms.length - (i + 1) < ms.length - i; omega⟩ ⟨rfl, rfl, rfl, by show Value.int .i64 _ = Value.int .i64 _; rw [hw], trivial⟩ rfl trivial
              · refine a_f hT rfl rfl (decide_eq_false (by show ¬ (i : Int) < (ms.length : Int); omega)) ?_
                exact a_ret hT [] rfl rfl rfl rfl rfl rfl (b_eq (by rw [hfm]; simp_all))
end Go.Proofs.YtjcolfogmmjaoaaGreatDoor
end

section
set_option linter.unusedVariables false
set_option linter.unusedSimpArgs false
set_option maxRecDepth 100000
set_option maxHeartbeats 1000000
namespace Go.Proofs.YtjcolfogmmjaoaaGreatDoor
open V A
theorem bv_nat (k a : Nat) : (BitVec.ofInt k (a : Int)).toNat = a % 2 ^ k := by simp
theorem wrapN64 {a : Nat} (h : a < 18446744073709551616) : IntKind.u64.wrap (a : Int) = a := wrapU (by omega) (by omega)
theorem wrapN32 {a : Nat} (h : a < 4294967296) : IntKind.u32.wrap (a : Int) = a := by
  unfold IntKind.wrap
  simp [IntKind.bits, IntKind.signed]
  omega
theorem wrapN8 {a : Nat} (h : a < 256) : IntKind.u8.wrap (a : Int) = a := by
  unfold IntKind.wrap
  simp [IntKind.bits, IntKind.signed]
  omega
theorem or64 {a b : Nat} (ha : a < 18446744073709551616) (hb : b < 18446744073709551616) : IntKind.u64.wrap (BitVec.ofInt 64 (a : Int) ||| BitVec.ofInt 64 (b : Int)).toNat = ((a ||| b : Nat) : Int) := by
  rw [BitVec.toNat_or, bv_nat, bv_nat, Nat.mod_eq_of_lt (by simpa using ha), Nat.mod_eq_of_lt (by simpa using hb)]
  exact wrapN64 (Nat.or_lt_two_pow (n := 64) (by simpa using ha) (by simpa using hb))
theorem or32 {a b : Nat} (ha : a < 4294967296) (hb : b < 4294967296) : IntKind.u32.wrap (BitVec.ofInt 32 (a : Int) ||| BitVec.ofInt 32 (b : Int)).toNat = ((a ||| b : Nat) : Int) := by
  rw [BitVec.toNat_or, bv_nat, bv_nat, Nat.mod_eq_of_lt (by simpa using ha), Nat.mod_eq_of_lt (by simpa using hb)]
  exact wrapN32 (Nat.or_lt_two_pow (n := 32) (by simpa using ha) (by simpa using hb))
theorem and8 {a b : Nat} (ha : a < 256) (hb : b < 256) : IntKind.u8.wrap (BitVec.ofInt 8 (a : Int) &&& BitVec.ofInt 8 (b : Int)).toNat = ((a &&& b : Nat) : Int) := by
  rw [BitVec.toNat_and, bv_nat, bv_nat, Nat.mod_eq_of_lt (by simpa using ha), Nat.mod_eq_of_lt (by simpa using hb)]
  exact wrapN8 (Nat.lt_of_le_of_lt Nat.and_le_left ha)
theorem and127 (a : Nat) : a &&& 127 = a % 128 := Nat.and_two_pow_sub_one_eq_mod a 7
theorem and128 {a : Nat} (h : a < 256) : (a &&& 128 = 0) ↔ a < 128 := by
  have : ∀ x : Fin 256, (x.val &&& 128 = 0) ↔ x.val < 128 := by decide +kernel
  exact this ⟨a, h⟩
theorem or_add {n x i : Nat} (h : n < 2 ^ i) : n ||| x * 2 ^ i = n + x * 2 ^ i := by
  have := Nat.shiftLeft_add_eq_or_of_lt h x
  rw [Nat.shiftLeft_eq] at this
  rw [Nat.or_comm, ← this, Nat.add_comm]
theorem stepB {n i : Nat} {c : UInt8} (hi : i ≤ 9) (hn : n < 2 ^ (7 * i)) (hc : i = 9 → c.toNat ≤ 1) : n + c.toNat % 128 * 2 ^ (7 * i) < 18446744073709551616 ∧ c.toNat % 128 * 2 ^ (7 * i) < 18446744073709551616 := by
  by_cases h9 : i = 9
  · subst h9
    have := hc rfl
    have h2 : c.toNat % 128 ≤ 1 := by omega
    have h3 := Nat.mul_le_mul_right (2 ^ (7 * 9)) h2
    have : (2 : Nat) ^ (7 * 9) = 9223372036854775808 := by decide
    omega
  · have h1 : 2 ^ (7 * i) ≤ 72057594037927936 := Nat.le_trans (Nat.pow_le_pow_right (by decide) (show 7 * i ≤ 56 by omega)) (by decide)
    have h2 : c.toNat % 128 ≤ 127 := by omega
    have h3 := Nat.mul_le_mul h2 h1
    omega
theorem stepL {n i : Nat} {c : UInt8} (hn : n < 2 ^ (7 * i)) : n + c.toNat % 128 * 2 ^ (7 * i) < 2 ^ (7 * (i + 1)) := by
  have h2 : c.toNat % 128 ≤ 127 := by omega
  have h3 := Nat.mul_le_mul_right (2 ^ (7 * i)) h2
  rw [show 7 * (i + 1) = 7 * i + 7 by omega, Nat.pow_add]
  omega
theorem stepE {n i : Nat} {c : UInt8} (hi : i ≤ 9) (hn : n < 2 ^ (7 * i)) (hc : i = 9 → c.toNat ≤ 1) :
    IntKind.u64.wrap ↑(BitVec.toNat (BitVec.ofInt (IntKind.bits .u64) (n : Int) ||| BitVec.ofInt (IntKind.bits .u64) (IntKind.u64.wrap (IntKind.u64.wrap (IntKind.u8.wrap ↑(BitVec.toNat (BitVec.ofInt (IntKind.bits .u8) (c.toNat : Int) &&& BitVec.ofInt (IntKind.bits .u8) 127))) * 2 ^ min (Int.toNat (IntKind.i64.wrap (7 * (i : Int)))) (IntKind.bits .u64))))) = ((n + c.toNat % 128 * 2 ^ (7 * i) : Nat) : Int) := by
  have h1 := stepB hi hn hc
  have hlt := c.toNat_lt
  have h7 : IntKind.i64.wrap (7 * (i : Int)) = ((7 * i : Nat) : Int) := by rw [w64 (by omega) (by omega)]; omega
  have ha := and8 (a := c.toNat) (b := 127) (by omega) (by decide)
  rw [and127] at ha
  rw [show ((127 : Nat) : Int) = 127 from rfl] at ha
  show IntKind.u64.wrap ↑(BitVec.toNat (BitVec.ofInt 64 (n : Int) ||| BitVec.ofInt 64 (IntKind.u64.wrap (IntKind.u64.wrap (IntKind.u8.wrap ↑(BitVec.toNat (BitVec.ofInt 8 (c.toNat : Int) &&& BitVec.ofInt 8 127))) * 2 ^ min (Int.toNat (IntKind.i64.wrap (7 * (i : Int)))) 64)))) = _
  rw [ha, h7, Int.toNat_natCast, Nat.min_eq_left (by omega), wrapN64 (a := c.toNat % 128) (by omega)]
  rw [show ((c.toNat % 128 : Nat) : Int) * 2 ^ (7 * i) = ((c.toNat % 128 * 2 ^ (7 * i) : Nat) : Int) by push_cast; rfl, wrapN64 h1.2, or64 (by omega) h1.2, or_add hn]
theorem and0 (c : UInt8) : ((IntKind.u8.wrap ↑(BitVec.toNat (BitVec.ofInt (IntKind.bits .u8) (c.toNat : Int) &&& BitVec.ofInt (IntKind.bits .u8) 128)) : Int) = 0) ↔ c.toNat < 128 := by
  have hlt := c.toNat_lt
  have ha := and8 (a := c.toNat) (b := 128) (by omega) (by decide)
  show (IntKind.u8.wrap ↑(BitVec.toNat (BitVec.ofInt 8 (c.toNat : Int) &&& BitVec.ofInt 8 128)) : Int) = 0 ↔ _
  rw [show ((128 : Nat) : Int) = 128 from rfl] at ha
  rw [ha, ← and128 (by omega)]
  omega
def takeP : List UInt8 → Nat → Nat → Nat × Nat × Nat
  | [], _, _ => (0, 0, 5)
  | c :: l, i, n => if i = 9 ∧ 1 < c.toNat then (0, 0, 2) else if c.toNat < 128 then (n + c.toNat % 128 * 2 ^ (7 * i), i + 1, 0) else takeP l (i + 1) (n + c.toNat % 128 * 2 ^ (7 * i))
def tkA (r : Nat × Nat × Nat) : AV := .tup [.v (kU r.1) 0, .v (kI r.2.1) 0, .v (kI r.2.2) 0]
theorem bytesD_len (bs : List UInt8) : (bs.map eB).length = bs.length := List.length_map _
theorem Take_spec {bs : List UInt8} (hl : bs.length ≤ 4611686018427387904) : FSpec Tryz.prog 146 [.d (A.bytesD bs)] [] fun a cs => a = tkA (takeP bs 0 0) ∧ cs = [] := by
  have hlen := bytesD_len bs
  refine a_enter hT [.d (A.bytesD bs)] [] Tryz.func146 rfl rfl rfl ⟨Fit.refl _, trivial⟩ fun c' => ?_
  refine a_loop hT [5, 8, 9, 10] (fun x : Nat × Nat => [.v (kU x.2) 0, .d (A.bytesD bs), .v (kI bs.length) 0, .v (kI x.1) 0]) (fun _ => []) (fun x => x.1 ≤ bs.length ∧ takeP (bs.drop x.1) x.1 x.2 = takeP bs 0 0 ∧ x.1 ≤ 9 ∧ x.2 < 2 ^ (7 * x.1)) (fun x => bs.length - x.1) (0, 0) [] rfl rfl ⟨Nat.zero_le _, rfl, by decide, by decide⟩ ⟨rfl, rfl, by rw [← hlen]; rfl, rfl, trivial⟩ rfl trivial ?_
  rintro ⟨i, n⟩ ⟨i2, i3, i4, i5⟩
  dsimp only at i2 i3 i4 i5
  have hw := wN i (by omega)
  rcases Nat.lt_or_ge i bs.length with hil | hil
  · have hat : (bs.map eB)[(i : Int).toNat]? = some (eB bs[i]) := by simp [hil]
    rw [drop_at hil] at i3
    generalize bs[i] = c at hat i3
    refine a_t hT rfl rfl (decide_eq_true (by show (i : Int) < (bs.length : Int); omega)) ?_
    have hlt := c.toNat_lt
    have h7 : IntKind.i64.wrap (7 * (i : Int)) = ((7 * i : Nat) : Int) := by rw [w64 (by omega) (by omega)]; omega
    have h70 : 0 ≤ IntKind.i64.wrap (7 * (i : Int)) := by rw [h7]; omega
    refine a_ix hT _ rfl rfl rfl rfl rfl rfl (by first | omega | assumption) (by first | assumption | rfl) ?_
    refine a_g hT rfl rfl rfl (fun h => ?_) (fun h => ?_)
    · have h := eq_of_beq h
      refine a_if hT rfl rfl (fun h1 => ?_) (fun h1 => ?_)
      · have h1 := of_decide_eq_true h1
        refine a_ret hT [] rfl rfl rfl rfl rfl rfl ?_
        exact ⟨by rw [← i3]; unfold takeP; rw [if_pos ⟨by have : (i : Int) = 9 := h; omega, by have : (1 : Int) < (c.toNat : Int) := h1; omega⟩]; rfl, rfl⟩
      · have h1 := of_decide_eq_false h1
        have hno : ¬ (i = 9 ∧ 1 < c.toNat) := fun ⟨_, h3⟩ => h1 (by show (1 : Int) < (c.toNat : Int); omega)
        have h9 : i = 9 → c.toNat ≤ 1 := fun _ => by have : ¬ (1 : Int) < (c.toNat : Int) := h1; omega
        refine a_bin hT _ rfl rfl rfl (by decide) rfl rfl (fun w => (bin_and w)) ?_
        refine a_bin hT _ rfl rfl rfl (by decide) rfl rfl (fun w => (bin_shl h70 w)) ?_
        refine a_bin hT _ rfl rfl rfl (by decide) rfl rfl (fun w => (bin_or w)) ?_
        refine a_bin hT _ rfl rfl rfl (by decide) rfl rfl (fun w => (bin_and w)) ?_
        refine a_if hT rfl rfl (fun h2 => ?_) (fun h2 => ?_)
        · have h2 := eq_of_beq h2
          refine a_ret hT [] rfl rfl rfl rfl rfl rfl ?_
          have hc1 := (and0 c).1 h2
          exact ⟨by rw [← i3]; unfold takeP; rw [if_neg hno, if_pos hc1]; show AV.tup [.v (.int .u64 _) 0, .v (.int .i64 _) 0, _] = AV.tup [.v (.int .u64 _) 0, .v (.int .i64 _) 0, _]; rw [stepE i4 i5 h9]; show AV.tup [_, .v (.int .i64 (IntKind.i64.wrap ((i : Int) + 1))) 0, _] = _; rw [hw]; rfl, rfl⟩
        · have h2 := ne_of_beq_false h2
          have hc1 : ¬ c.toNat < 128 := fun h => h2 ((and0 c).2 h)
          exact a_next hT (i + 1, n + c.toNat % 128 * 2 ^ (7 * i)) [] rfl rfl ⟨⟨by show i + 1 ≤ bs.length; omega, by rw [← i3]; show takeP (bs.drop (i + 1)) (i + 1) _ = takeP (c :: _) i n; conv => rhs; unfold takeP; rw [if_neg hno, if_neg hc1], by show i + 1 ≤ 9; omega, stepL i5⟩, by show bs.length - (i + 1) < bs.length - i; omega⟩ ⟨by show Value.int .u64 _ = Value.int .u64 _; exact congrArg _ (stepE i4 i5 h9), rfl, rfl, by show Value.int .i64 _ = Value.int .i64 _; rw [hw], trivial⟩ rfl trivial
    · have h := ne_of_beq_false h
      have hn9 : i ≠ 9 := fun e => h (by show (i : Int) = 9; omega)
      have hno : ¬ (i = 9 ∧ 1 < c.toNat) := fun ⟨h2, _⟩ => hn9 h2
      have h9 : i = 9 → c.toNat ≤ 1 := fun h2 => absurd h2 hn9
      refine a_f hT rfl rfl rfl ?_
      refine a_bin hT _ rfl rfl rfl (by decide) rfl rfl (fun w => (bin_and w)) ?_
      refine a_bin hT _ rfl rfl rfl (by decide) rfl rfl (fun w => (bin_shl h70 w)) ?_
      refine a_bin hT _ rfl rfl rfl (by decide) rfl rfl (fun w => (bin_or w)) ?_
      refine a_bin hT _ rfl rfl rfl (by decide) rfl rfl (fun w => (bin_and w)) ?_
      refine a_if hT rfl rfl (fun h1 => ?_) (fun h1 => ?_)
      · have h1 := eq_of_beq h1
        refine a_ret hT [] rfl rfl rfl rfl rfl rfl ?_
        have hc1 := (and0 c).1 h1
        exact ⟨by rw [← i3]; unfold takeP; rw [if_neg hno, if_pos hc1]; show AV.tup [.v (.int .u64 _) 0, .v (.int .i64 _) 0, _] = AV.tup [.v (.int .u64 _) 0, .v (.int .i64 _) 0, _]; rw [stepE i4 i5 h9]; show AV.tup [_, .v (.int .i64 (IntKind.i64.wrap ((i : Int) + 1))) 0, _] = _; rw [hw]; rfl, rfl⟩
      · have h1 := ne_of_beq_false h1
        have hc1 : ¬ c.toNat < 128 := fun h => h1 ((and0 c).2 h)
        exact a_next hT (i + 1, n + c.toNat % 128 * 2 ^ (7 * i)) [] rfl rfl ⟨⟨by show i + 1 ≤ bs.length; omega, by rw [← i3]; show takeP (bs.drop (i + 1)) (i + 1) _ = takeP (c :: _) i n; conv => rhs; unfold takeP; rw [if_neg hno, if_neg hc1], by show i + 1 ≤ 9; omega, stepL i5⟩, by show bs.length - (i + 1) < bs.length - i; omega⟩ ⟨by show Value.int .u64 _ = Value.int .u64 _; exact congrArg _ (stepE i4 i5 h9), rfl, rfl, by show Value.int .i64 _ = Value.int .i64 _; rw [hw], trivial⟩ rfl trivial
  · refine a_f hT rfl rfl (decide_eq_false (by show ¬ (i : Int) < (bs.length : Int); omega)) ?_
    rw [List.drop_eq_nil_of_le hil] at i3
    refine a_ret hT [] rfl rfl rfl rfl rfl rfl ?_
    exact ⟨by rw [← i3]; rfl, rfl⟩
end Go.Proofs.YtjcolfogmmjaoaaGreatDoor
end

section
set_option linter.unusedVariables false
set_option linter.unusedSimpArgs false
set_option maxRecDepth 100000
set_option maxHeartbeats 1000000
namespace Go.Proofs.YtjcolfogmmjaoaaGreatDoor
open V A
def le4 : List UInt8 → Nat
  | b0 :: b1 :: b2 :: b3 :: _ => b0.toNat + b1.toNat * 2 ^ 8 + b2.toNat * 2 ^ 16 + b3.toNat * 2 ^ 24
  | _ => 0
def take32P (bs : List UInt8) : Nat × Nat := if bs.length < 4 then (0, 5) else (le4 bs, 0)
def take64P (bs : List UInt8) : Nat × Nat := if bs.length < 8 then (0, 5) else (le4 bs + le4 (bs.drop 4) * 2 ^ 32, 0)
theorem le4_lt (bs : List UInt8) : le4 bs < 4294967296 := by
  unfold le4
  split
  · rename_i b0 b1 b2 b3 _
    have := b0.toNat_lt
    have := b1.toNat_lt
    have := b2.toNat_lt
    have := b3.toNat_lt
    omega
  · decide
theorem shl32 {b i : Nat} (hi : i ≤ 32) (h : b * 2 ^ i < 4294967296) (hb : b < 4294967296) : IntKind.u32.wrap (IntKind.u32.wrap (b : Int) * 2 ^ min (Int.toNat (i : Int)) (IntKind.bits .u32)) = ((b * 2 ^ i : Nat) : Int) := by
  rw [wrapN32 hb, Int.toNat_natCast, Nat.min_eq_left (by exact hi), show (b : Int) * 2 ^ i = ((b * 2 ^ i : Nat) : Int) by push_cast; rfl, wrapN32 h]
theorem le4E {b0 b1 b2 b3 : Nat} (h0 : b0 < 256) (h1 : b1 < 256) (h2 : b2 < 256) (h3 : b3 < 256) :
    IntKind.u32.wrap ↑(BitVec.toNat (BitVec.ofInt (IntKind.bits .u32) (IntKind.u32.wrap ↑(BitVec.toNat (BitVec.ofInt (IntKind.bits .u32) (IntKind.u32.wrap ↑(BitVec.toNat (BitVec.ofInt (IntKind.bits .u32) (IntKind.u32.wrap (b0 : Int)) ||| BitVec.ofInt (IntKind.bits .u32) (IntKind.u32.wrap (IntKind.u32.wrap (b1 : Int) * 2 ^ min (Int.toNat 8) (IntKind.bits .u32)))))) ||| BitVec.ofInt (IntKind.bits .u32) (IntKind.u32.wrap (IntKind.u32.wrap (b2 : Int) * 2 ^ min (Int.toNat 16) (IntKind.bits .u32)))))) ||| BitVec.ofInt (IntKind.bits .u32) (IntKind.u32.wrap (IntKind.u32.wrap (b3 : Int) * 2 ^ min (Int.toNat 24) (IntKind.bits .u32))))) = ((b0 + b1 * 2 ^ 8 + b2 * 2 ^ 16 + b3 * 2 ^ 24 : Nat) : Int) := by
  have e1 := shl32 (b := b1) (i := 8) (by decide) (by omega) (by omega)
  have e2 := shl32 (b := b2) (i := 16) (by decide) (by omega) (by omega)
  have e3 := shl32 (b := b3) (i := 24) (by decide) (by omega) (by omega)
  rw [show ((8 : Nat) : Int) = 8 from rfl] at e1
  rw [show ((16 : Nat) : Int) = 16 from rfl] at e2
  rw [show ((24 : Nat) : Int) = 24 from rfl] at e3
  rw [e1, e2, e3, wrapN32 (a := b0) (by omega)]
  show IntKind.u32.wrap ↑(BitVec.toNat (BitVec.ofInt 32 (IntKind.u32.wrap ↑(BitVec.toNat (BitVec.ofInt 32 (IntKind.u32.wrap ↑(BitVec.toNat (BitVec.ofInt 32 (b0 : Int) ||| BitVec.ofInt 32 ((b1 * 2 ^ 8 : Nat) : Int)))) ||| BitVec.ofInt 32 ((b2 * 2 ^ 16 : Nat) : Int)))) ||| BitVec.ofInt 32 ((b3 * 2 ^ 24 : Nat) : Int))) = _
  rw [or32 (by omega) (by omega), or_add (by omega), or32 (by omega) (by omega), or_add (by omega), or32 (by omega) (by omega), or_add (by omega)]
theorem slD (bs : List UInt8) (l : Nat) : ((bs.map eB).drop l).take ((bs.map eB).length - l) = (bs.drop l).map eB := by
  rw [List.map_drop]
  exact List.take_of_length_le (by simp)
theorem shl64 {b i : Nat} (hi : i ≤ 64) (h : b * 2 ^ i < 18446744073709551616) (hb : b < 18446744073709551616) : IntKind.u64.wrap (IntKind.u64.wrap (b : Int) * 2 ^ min (Int.toNat (i : Int)) (IntKind.bits .u64)) = ((b * 2 ^ i : Nat) : Int) := by
  rw [wrapN64 hb, Int.toNat_natCast, Nat.min_eq_left (by exact hi), show (b : Int) * 2 ^ i = ((b * 2 ^ i : Nat) : Int) by push_cast; rfl, wrapN64 h]
theorem le8E {a b : Nat} (ha : a < 4294967296) (hb : b < 4294967296) : IntKind.u64.wrap ↑(BitVec.toNat (BitVec.ofInt (IntKind.bits .u64) (IntKind.u64.wrap (IntKind.u64.wrap (b : Int) * 2 ^ min (Int.toNat 32) (IntKind.bits .u64))) ||| BitVec.ofInt (IntKind.bits .u64) (IntKind.u64.wrap (a : Int)))) = ((a + b * 2 ^ 32 : Nat) : Int) := by
  have e1 := shl64 (b := b) (i := 32) (by decide) (by omega) (by omega)
  rw [show ((32 : Nat) : Int) = 32 from rfl] at e1
  rw [e1, wrapN64 (a := a) (by omega)]
  show IntKind.u64.wrap ↑(BitVec.toNat (BitVec.ofInt 64 ((b * 2 ^ 32 : Nat) : Int) ||| BitVec.ofInt 64 (a : Int))) = _
  rw [or64 (by omega) (by omega), Nat.or_comm, or_add (by omega)]
theorem Take32_spec {bs : List UInt8} (hl : bs.length ≤ 4611686018427387904) : FSpec Tryz.prog 148 [.d (A.bytesD bs)] [] fun a cs => a = .tup [.v (.int .u32 (take32P bs).1) 0, .v (kI (take32P bs).2) 0] ∧ cs = [] := by
  have hlen := bytesD_len bs
  refine a_enter hT [.d (A.bytesD bs)] [] Tryz.func148 rfl rfl rfl ⟨Fit.refl _, trivial⟩ fun c' => ?_
  by_cases h4 : bs.length < 4
  · have h1 : ((bs.map eB).length : Int) < 4 := by rw [hlen]; omega
    refine a_t hT rfl rfl (decide_eq_true h1) ?_
    refine a_ret hT [] rfl rfl rfl rfl rfl rfl ?_
    exact ⟨by unfold take32P; rw [if_pos h4]; rfl, rfl⟩
  · obtain ⟨b0, b1, b2, b3, l, rfl⟩ : ∃ b0 b1 b2 b3 l, bs = b0 :: b1 :: b2 :: b3 :: l := by
      match bs, h4 with
      | b0 :: b1 :: b2 :: b3 :: l, _ => exact ⟨b0, b1, b2, b3, l, rfl⟩
      | [], h => exact absurd (by decide) h
      | [_], h => exact absurd (by simp) h
      | [_, _], h => exact absurd (by simp) h
      | [_, _, _], h => exact absurd (by simp) h
    have h1 : ¬ (((b0 :: b1 :: b2 :: b3 :: l).map eB).length : Int) < 4 := by rw [hlen]; omega
    refine a_f hT rfl rfl (decide_eq_false h1) ?_
    refine a_draw hT [] false [(0, false), (1, false), (2, false), (3, false), (4, false), (5, false), (6, false), (7, false), (8, false), (9, false), (10, false), (11, false), (12, false), (13, false), (14, false), (15, false), (16, false), (17, false), (18, false), (19, false), (20, false), (21, false), (22, false), (23, true)] rfl rfl (by kernel_rfl) (by kernel_rfl) rfl ?_
    refine a_ix hT _ rfl rfl rfl rfl rfl rfl (by first | omega | assumption) (by first | assumption | rfl) ?_
    refine a_ix hT _ rfl rfl rfl rfl rfl rfl (by first | omega | assumption) (by first | assumption | rfl) ?_
    refine a_bin hT _ rfl rfl rfl (by decide) rfl rfl (fun w => (bin_shl (by omega) w)) ?_
    refine a_bin hT _ rfl rfl rfl (by decide) rfl rfl (fun w => (bin_or w)) ?_
    refine a_ix hT _ rfl rfl rfl rfl rfl rfl (by first | omega | assumption) (by first | assumption | rfl) ?_
    refine a_bin hT _ rfl rfl rfl (by decide) rfl rfl (fun w => (bin_shl (by omega) w)) ?_
    refine a_bin hT _ rfl rfl rfl (by decide) rfl rfl (fun w => (bin_or w)) ?_
    refine a_ix hT _ rfl rfl rfl rfl rfl rfl (by first | omega | assumption) (by first | assumption | rfl) ?_
    refine a_bin hT _ rfl rfl rfl (by decide) rfl rfl (fun w => (bin_shl (by omega) w)) ?_
    refine a_bin hT _ rfl rfl rfl (by decide) rfl rfl (fun w => (bin_or w)) ?_
    refine a_ret hT [] rfl rfl rfl rfl rfl rfl ?_
    exact ⟨by
      have e := le4E (b0 := b0.toNat) (b1 := b1.toNat) (b2 := b2.toNat) (b3 := b3.toNat) b0.toNat_lt b1.toNat_lt b2.toNat_lt b3.toNat_lt
      unfold take32P
      rw [if_neg h4]
      show AV.tup [.v (.int .u32 _) 0, _] = AV.tup [.v (.int .u32 _) 0, _]
      rw [e]
      rfl, rfl⟩
theorem Take64_spec {bs : List UInt8} (hl : bs.length ≤ 4611686018427387904) : FSpec Tryz.prog 147 [.d (A.bytesD bs)] [] fun a cs => a = .tup [.v (kU (take64P bs).1) 0, .v (kI (take64P bs).2) 0] ∧ cs = [] := by
  have hlen := bytesD_len bs
  refine a_enter hT [.d (A.bytesD bs)] [] Tryz.func147 rfl rfl rfl ⟨Fit.refl _, trivial⟩ fun c' => ?_
  by_cases h4 : bs.length < 8
  · have h1 : ((bs.map eB).length : Int) < 8 := by rw [hlen]; omega
    refine a_t hT rfl rfl (decide_eq_true h1) ?_
    refine a_ret hT [] rfl rfl rfl rfl rfl rfl ?_
    exact ⟨by unfold take64P; rw [if_pos h4]; rfl, rfl⟩
  · have h1 : ¬ ((bs.map eB).length : Int) < 8 := by rw [hlen]; omega
    have ha := Take32_spec (bs := bs) hl
    have hb := Take32_spec (bs := bs.drop 4) (by rw [List.length_drop]; omega)
    rw [show take32P bs = (le4 bs, 0) by unfold take32P; rw [if_neg (by omega)]] at ha
    rw [show take32P (bs.drop 4) = (le4 (bs.drop 4), 0) by unfold take32P; rw [if_neg (by rw [List.length_drop]; omega)]] at hb
    refine a_f hT rfl rfl (decide_eq_false h1) ?_
    refine a_call hT rfl rfl rfl (by kernel_rfl) ha [] [] rfl rfl ?_
    rintro _ _ ⟨rfl, rfl⟩
    refine a_sl hT 4 (bs.map eB).length ((bs.drop 4).map eB) rfl rfl rfl rfl rfl ⟨.i64, 0, rfl⟩ rfl (by rw [hlen]; omega) (Nat.le_refl _) (slD bs 4) ?_
    refine a_call hT rfl rfl rfl (by kernel_rfl) hb [] [] rfl rfl ?_
    rintro _ _ ⟨rfl, rfl⟩
    refine a_bin hT _ rfl rfl rfl (by decide) rfl rfl (fun w => (bin_shl (by omega) w)) ?_
    refine a_bin hT _ rfl rfl rfl (by decide) rfl rfl (fun w => (bin_or w)) ?_
    refine a_ret hT [] rfl rfl rfl rfl rfl rfl ?_
    have l1 := le4_lt bs
    have l2 := le4_lt (bs.drop 4)
    exact ⟨by
      unfold take64P
      rw [if_neg h4]
      show AV.tup [.v (.int .u64 _) 0, _] = AV.tup [.v (.int .u64 _) 0, _]
      rw [le8E l1 l2]
      rfl, rfl⟩
end Go.Proofs.YtjcolfogmmjaoaaGreatDoor
end

section
set_option linter.unusedVariables false
set_option linter.unusedSimpArgs false
namespace Go.Proofs.YtjcolfogmmjaoaaGreatDoor
open V A
theorem el8 : elemOk Tryz.prog 5 1 = true := by kernel_rfl
theorem cloneB {l : List UInt8} (hl : l.length ≤ lim) : FSpec Tryz.prog 118 [.d (A.bytesD l)] [] fun a cs => ∃ x, a = .row x 1 ∧ cs = [.row x 5 1 (l.map eB)] := by
  refine a_enter hT [.d (A.bytesD l)] [] Tryz.func118 rfl rfl rfl ⟨rfl, trivial⟩ fun c => ?_
  refine a_isnil hT rfl rfl rfl rfl rfl rfl fun b hb => ?_
  refine a_if hT rfl rfl (fun h => ?_) (fun h => ?_)
  · refine a_run hT 4 rfl rfl ?_
    refine a_nilrow 2 1 5 1 rfl rfl ?_
    refine a_ret hT [1] rfl rfl rfl rfl rfl rfl ⟨_, rfl, ?_⟩
    rw [hb h]
  · refine a_lit hT 1 rfl rfl rfl rfl el8 rfl rfl rfl rfl fun x => ?_
    refine a_app hT 1 (l.map eB) rfl rfl rfl rfl el8 rfl rfl rfl rfl rfl rfl (by simpa using hl) fun x => ?_
    refine a_ret hT [1] rfl rfl rfl rfl rfl rfl ⟨x, rfl, rfl⟩
theorem cloneF {l : List UInt8} (hl : l.length ≤ lim) : FSpec Tryz.prog 118 [.d (A.bytesD l)] [] fun a cs => a = .d (A.bytesD l) ∧ cs = [] := (cloneB hl).freeze
end Go.Proofs.YtjcolfogmmjaoaaGreatDoor
end

section
set_option linter.unusedVariables false
set_option linter.unusedSimpArgs false
set_option maxRecDepth 100000
set_option maxHeartbeats 1000000
namespace Go.Proofs.YtjcolfogmmjaoaaGreatDoor
open V A
structure FW where
  num : Nat
  typ : Nat
  n : Nat
  data : List UInt8
def fwD (f : FW) : List A.Dat := [.v (kI f.num), .v (kI f.typ), .v (kU f.n), .sl 1 (f.data.map eB)]
def fwA (f : FW) : AV := .agg [.v (kI f.num) 0, .v (kI f.typ) 0, .v (kU f.n) 0, .d (A.bytesD f.data)]
def fw0 : FW := ⟨0, 0, 0, []⟩
def formedW (f : FW) : Bool := decide (1 ≤ f.num ∧ f.num ≤ 536870911) && (if f.typ = 0 ∨ f.typ = 1 then decide (f.data = []) else if f.typ = 5 then decide (f.data = [] ∧ f.n ≤ 4294967295) else decide (f.typ = 2 ∧ f.n = 0))
theorem WFormed_spec {f : FW} : FSpec Tryz.prog 133 [fwA f] [] fun a cs => a = bA (formedW f) ∧ cs = [] := by
  obtain ⟨num, typ, n, data⟩ := f
  have hlen := bytesD_len data
  have hnil : data = [] ↔ data.length = 0 := List.length_eq_zero_iff.symm
  refine a_enter hT [fwA ⟨num, typ, n, data⟩] [] Tryz.func133 rfl rfl rfl ⟨Fit.refl _, trivial⟩ fun c' => ?_
  refine a_box hT 20 rfl rfl rfl rfl fun g => ?_
  refine a_g hT rfl rfl rfl (fun h => ?_) (fun h => ?_)
  · have h := of_decide_eq_true h
    refine a_t hT rfl rfl rfl ?_
    refine a_ret hT [] rfl rfl rfl rfl rfl rfl ?_
    exact b_eq (by rcases data with _ | ⟨x, l⟩ <;> simp_all [formedW] <;> first | omega | (split <;> omega) | (intros; refine ⟨by omega, ?_⟩; split <;> omega))
  · have h := of_decide_eq_false h
    refine a_if hT rfl rfl (fun h1 => ?_) (fun h1 => ?_)
    · have h1 := of_decide_eq_true h1
      refine a_ret hT [] rfl rfl rfl rfl rfl rfl ?_
      exact b_eq (by rcases data with _ | ⟨x, l⟩ <;> simp_all [formedW] <;> first | omega | (split <;> omega) | (intros; refine ⟨by omega, ?_⟩; split <;> omega))
    · have h1 := of_decide_eq_false h1
      refine a_if hT rfl rfl (fun h2 => ?_) (fun h2 => ?_)
      · have h2 := eq_of_beq h2
        refine a_if hT rfl rfl (fun h3 => ?_) (fun h3 => ?_)
        · have h3 := eq_of_beq h3
          refine a_ret hT [] rfl rfl rfl rfl rfl rfl ?_
          exact b_eq (by rcases data with _ | ⟨x, l⟩ <;> simp_all [formedW] <;> first | omega | (split <;> omega) | (intros; refine ⟨by omega, ?_⟩; split <;> omega))
        · have h3 := ne_of_beq_false h3
          (exfalso; first | omega | contradiction)
      · have h2 := ne_of_beq_false h2
        refine a_if hT rfl rfl (fun h3 => ?_) (fun h3 => ?_)
        · have h3 := eq_of_beq h3
          refine a_ret hT [] rfl rfl rfl rfl rfl rfl ?_
          exact b_eq (by rcases data with _ | ⟨x, l⟩ <;> simp_all [formedW] <;> first | omega | (split <;> omega) | (intros; refine ⟨by omega, ?_⟩; split <;> omega))
        · have h3 := ne_of_beq_false h3
          refine a_if hT rfl rfl (fun h4 => ?_) (fun h4 => ?_)
          · have h4 := eq_of_beq h4
            refine a_g hT rfl rfl rfl (fun h5 => ?_) (fun h5 => ?_)
            · have h5 := eq_of_beq h5
              refine a_ret hT [] rfl rfl rfl rfl rfl rfl ?_
              exact b_eq (by rcases data with _ | ⟨x, l⟩ <;> simp_all [formedW] <;> first | omega | (split <;> omega) | (intros; refine ⟨by omega, ?_⟩; split <;> omega))
            · have h5 := ne_of_beq_false h5
              refine a_ret hT [] rfl rfl rfl rfl rfl rfl ?_
              exact b_eq (by rcases data with _ | ⟨x, l⟩ <;> simp_all [formedW] <;> first | omega | (split <;> omega) | (intros; refine ⟨by omega, ?_⟩; split <;> omega))
          · have h4 := ne_of_beq_false h4
            refine a_g hT rfl rfl rfl (fun h5 => ?_) (fun h5 => ?_)
            · have h5 := eq_of_beq h5
              refine a_ret hT [] rfl rfl rfl rfl rfl rfl ?_
              exact b_eq (by rcases data with _ | ⟨x, l⟩ <;> simp_all [formedW] <;> first | omega | (split <;> omega) | (intros; refine ⟨by omega, ?_⟩; split <;> omega))
            · have h5 := ne_of_beq_false h5
              refine a_ret hT [] rfl rfl rfl rfl rfl rfl ?_
              exact b_eq (by rcases data with _ | ⟨x, l⟩ <;> simp_all [formedW] <;> first | omega | (split <;> omega) | (intros; refine ⟨by omega, ?_⟩; split <;> omega))
theorem takeP_ok : ∀ (bs : List UInt8) (i n : Nat), i ≤ 9 → n < 2 ^ (7 * i) → ((takeP bs i n).2.2 = 0 → i < (takeP bs i n).2.1 ∧ (takeP bs i n).2.1 ≤ i + bs.length) ∧ (takeP bs i n).1 < 18446744073709551616 ∧ ((takeP bs i n).2.2 = 0 ∨ (takeP bs i n).2.2 = 2 ∨ (takeP bs i n).2.2 = 5)
  | [], i, n, hi, hn => by unfold takeP; simp
  | c :: l, i, n, hi, hn => by
    unfold takeP
    split
    · simp
    · rename_i hno
      split
      · have := stepB hi hn (c := c) (fun e => by have : ¬ (i = 9 ∧ 1 < c.toNat) := hno; omega)
        simp
        omega
      · rename_i hc
        have hi9 : i ≠ 9 := fun e => hno ⟨e, by omega⟩
        have := takeP_ok l (i + 1) (n + c.toNat % 128 * 2 ^ (7 * i)) (by omega) (stepL hn)
        refine ⟨fun h => ?_, this.2⟩
        have := this.1 h
        simp only [List.length_cons]
        omega
def takeFP (bs : List UInt8) : FW × Nat × Nat :=
  let r := takeP bs 0 0
  if r.2.2 ≠ 0 then (fw0, 0, r.2.2) else
  if formedW ⟨min (r.1 / 8) 536870912, r.1 % 8, 0, []⟩ = false then (fw0, 0, 2) else
  let rest := bs.drop r.2.1
  if r.1 % 8 = 0 then (if (takeP rest 0 0).2.2 ≠ 0 then (fw0, 0, (takeP rest 0 0).2.2) else (⟨min (r.1 / 8) 536870912, 0, (takeP rest 0 0).1, []⟩, r.2.1 + (takeP rest 0 0).2.1, 0)) else
  if r.1 % 8 = 1 then (if (take64P rest).2 ≠ 0 then (fw0, 0, (take64P rest).2) else (⟨min (r.1 / 8) 536870912, 1, (take64P rest).1, []⟩, r.2.1 + 8, 0)) else
  if r.1 % 8 = 5 then (if (take32P rest).2 ≠ 0 then (fw0, 0, (take32P rest).2) else (⟨min (r.1 / 8) 536870912, 5, (take32P rest).1, []⟩, r.2.1 + 4, 0)) else
  if (takeP rest 0 0).2.2 ≠ 0 then (fw0, 0, (takeP rest 0 0).2.2) else
  if rest.length - (takeP rest 0 0).2.1 < (takeP rest 0 0).1 then (fw0, 0, 5) else
  (⟨min (r.1 / 8) 536870912, 2, 0, (rest.drop (takeP rest 0 0).2.1).take (takeP rest 0 0).1⟩, r.2.1 + ((takeP rest 0 0).2.1 + (takeP rest 0 0).1), 0)
def tfA (r : FW × Nat × Nat) : AV := .tup [fwA r.1, .v (kI r.2.1) 0, .v (kI r.2.2) 0]
theorem le_fw0 (a b : AV) : Le (.tup [.agg [.v (Value.int IntKind.i64 0) 0, .v (Value.int IntKind.i64 0) 0, .v (Value.int IntKind.u64 0) 0, .v (Value.slice none 0 0) 0], a, b]) (.tup [fwA fw0, a, b]) := Le.tup (.cons (Le.agg (.cons (Le.refl _) (.cons (Le.refl _) (.cons (Le.refl _) (.cons le_nil .nil))))) (.cons (Le.refl _) (.cons (Le.refl _) .nil)))
theorem take32_ok (bs : List UInt8) : (take32P bs).1 < 4294967296 ∧ ((take32P bs).2 = 0 → 4 ≤ bs.length) ∧ ((take32P bs).2 = 0 ∨ (take32P bs).2 = 5) := by
  have := le4_lt bs
  unfold take32P
  split <;> simp <;> omega
theorem take64_ok (bs : List UInt8) : (take64P bs).1 < 18446744073709551616 ∧ ((take64P bs).2 = 0 → 8 ≤ bs.length) ∧ ((take64P bs).2 = 0 ∨ (take64P bs).2 = 5) := by
  have := le4_lt bs
  have := le4_lt (bs.drop 4)
  unfold take64P
  split <;> simp <;> omega
theorem numE {n : Nat} (h : n < 18446744073709551616) : IntKind.wrap IntKind.i64 (if 536870912 < Int.fdiv (n : Int) (2 ^ min (Int.toNat 3) (IntKind.bits IntKind.u64)) then 536870912 else Int.fdiv (n : Int) (2 ^ min (Int.toNat 3) (IntKind.bits IntKind.u64))) = ((min (n / 8) 536870912 : Nat) : Int) := by
  have e : Int.fdiv (n : Int) (2 ^ min (Int.toNat 3) (IntKind.bits IntKind.u64)) = ((n / 8 : Nat) : Int) := by
    show Int.fdiv (n : Int) 8 = _
    rw [Int.fdiv_eq_ediv_of_nonneg _ (by decide)]
    omega
  rw [e]
  split <;> rw [w64 (by omega) (by omega)] <;> omega
theorem typE {n : Nat} (h : n < 18446744073709551616) : IntKind.wrap IntKind.i64 (IntKind.wrap IntKind.u64 ↑(BitVec.toNat (BitVec.ofInt (IntKind.bits IntKind.u64) (n : Int) &&& BitVec.ofInt (IntKind.bits IntKind.u64) 7))) = ((n % 8 : Nat) : Int) := by
  have e : IntKind.wrap IntKind.u64 ↑(BitVec.toNat (BitVec.ofInt (IntKind.bits IntKind.u64) (n : Int) &&& BitVec.ofInt (IntKind.bits IntKind.u64) 7)) = ((n % 8 : Nat) : Int) := by
    show IntKind.wrap IntKind.u64 ↑(BitVec.toNat (BitVec.ofInt 64 (n : Int) &&& BitVec.ofInt 64 ((7 : Nat) : Int))) = _
    rw [BitVec.toNat_and, bv_nat, bv_nat, Nat.mod_eq_of_lt (by simpa using h), Nat.mod_eq_of_lt (show 7 < 2 ^ 64 by decide), show n &&& 7 = n % 8 from Nat.and_two_pow_sub_one_eq_mod n 3]
    exact wrapN64 (by omega)
  rw [e, w64 (by omega) (by omega)]
theorem WTake_spec {bs : List UInt8} (hl : bs.length ≤ lim) : FSpec Tryz.prog 117 [.d (A.bytesD bs)] [] fun a cs => a = tfA (takeFP bs) ∧ cs = [] := by
  refine FSpec.le ?_
  have hlen := bytesD_len bs
  have hlim : lim = 4294967296 := rfl
  have h1 := Take_spec (bs := bs) (by omega)
  have o1 := takeP_ok bs 0 0 (by decide) (by decide)
  have hT0 : takeFP bs = takeFP bs := rfl
  conv at hT0 => rhs; unfold takeFP
  generalize takeFP bs = R at hT0 ⊢
  generalize takeP bs 0 0 = r at h1 o1 hT0
  obtain ⟨n, p, e⟩ := r
  dsimp only at o1 hT0
  have hw1 : IntKind.i64.wrap ((min ((n : Int) / 8) 536870912)) = ((min (n / 8) 536870912 : Nat) : Int) := by rw [w64 (by omega) (by omega)]; omega
  refine a_enter hT [.d (A.bytesD bs)] [] Tryz.func117 rfl rfl rfl ⟨Fit.refl _, trivial⟩ fun c' => ?_
  refine a_new hT hZ 20 rfl rfl rfl rfl fun g => ?_
  refine a_call hT rfl rfl rfl (by kernel_rfl) h1 [] [] rfl rfl ?_
  rintro _ _ ⟨rfl, rfl⟩
  refine a_if hT rfl rfl (fun h => ?_) (fun h => ?_)
  · have h := bne_iff_ne.1 h
    refine a_build hT hZ [.v (Value.int IntKind.i64 0) 0, .v (Value.int IntKind.i64 0) 0, .v (Value.int IntKind.u64 0) 0, .v (Value.slice none 0 0) 0] rfl rfl rfl rfl rfl rfl ?_
    refine a_ret hT [] rfl rfl rfl rfl rfl rfl ?_
    have he : e ≠ 0 := fun h2 => h (by show ((e : Int)) = 0; omega)
    rw [if_pos he] at hT0
    subst hT0
    exact ⟨_, le_fw0 _ _, rfl, rfl⟩
  · simp at h
    refine a_bin hT _ rfl rfl rfl (by decide) rfl rfl (fun w => (bin_shr (by omega) w)) ?_
    refine a_bin hT _ rfl rfl rfl (by decide) rfl rfl (fun w => (bin_and w)) ?_
    refine a_build hT hZ [.v (Value.int IntKind.i64 (IntKind.wrap IntKind.i64 (if 536870912 < Int.fdiv (↑(Prod.fst (n, p, e))) (2 ^ min (Int.toNat 3) (IntKind.bits IntKind.u64)) then 536870912 else Int.fdiv (↑(Prod.fst (n, p, e))) (2 ^ min (Int.toNat 3) (IntKind.bits IntKind.u64))))) 0, .v (Value.int IntKind.i64 (IntKind.wrap IntKind.i64 (IntKind.wrap IntKind.u64 ↑(BitVec.toNat (BitVec.ofInt (IntKind.bits IntKind.u64) ↑(Prod.fst (n, p, e)) &&& BitVec.ofInt (IntKind.bits IntKind.u64) 7))))) 0, .v (Value.int IntKind.u64 0) 0, .v (Value.slice none 0 0) 0] rfl rfl rfl rfl rfl rfl ?_
    refine a_new hT hZ 21 rfl rfl rfl rfl fun g1 => ?_
    have he : e = 0 := by omega
    subst he
    rw [if_neg (by simp)] at hT0
    have hn64 := o1.2.1
    have ho := o1.1 rfl
    refine a_run hT 1 rfl rfl ?_
    refine a_cellL 21 0 (b := .v (kI (min (n / 8) 536870912 : Nat)) 0) rfl rfl rfl (Fit.le (congrArg (Value.int .i64) (numE hn64))) ?_
    refine a_cellL 21 1 (b := .v (kI (n % 8 : Nat)) 0) rfl rfl rfl (Fit.le (congrArg (Value.int .i64) (typE hn64))) ?_
    refine a_cellL 21 3 (b := .d (A.bytesD [])) rfl rfl rfl le_nil ?_
    have h2 := WFormed_spec (f := ⟨min (n / 8) 536870912, n % 8, 0, []⟩)
    by_cases hfm : formedW ⟨min (n / 8) 536870912, n % 8, 0, []⟩ = false
    · rw [hfm] at h2
      rw [if_pos hfm] at hT0
      subst hT0
      refine a_call hT rfl rfl rfl (by kernel_rfl) h2 [] [] rfl rfl ?_
      rintro _ _ ⟨rfl, rfl⟩
      refine a_t hT rfl rfl rfl ?_
      refine a_build hT hZ [.v (Value.int IntKind.i64 0) 0, .v (Value.int IntKind.i64 0) 0, .v (Value.int IntKind.u64 0) 0, .v (Value.slice none 0 0) 0] rfl rfl rfl rfl rfl rfl ?_
      refine a_ret hT [] rfl rfl rfl rfl rfl rfl ?_
      exact ⟨_, le_fw0 _ _, rfl, rfl⟩
    · rw [if_neg hfm] at hT0
      rw [show formedW ⟨min (n / 8) 536870912, n % 8, 0, []⟩ = true by simpa using hfm] at h2
      have hbl : (bs.drop p).length = bs.length - p := List.length_drop
      have h3 := Take_spec (bs := bs.drop p) (by omega)
      have h4 := Take64_spec (bs := bs.drop p) (by omega)
      have h5 := Take32_spec (bs := bs.drop p) (by omega)
      refine a_call hT rfl rfl rfl (by kernel_rfl) h2 [] [] rfl rfl ?_
      rintro _ _ ⟨rfl, rfl⟩
      refine a_f hT rfl rfl rfl ?_
      refine a_sl hT p (bs.map eB).length ((bs.drop p).map eB) rfl rfl rfl rfl rfl ⟨.i64, 0, rfl⟩ rfl (by rw [hlen]; omega) (Nat.le_refl _) (slD bs p) ?_
      have o3 := takeP_ok (bs.drop p) 0 0 (by decide) (by decide)
      have o4 := take64_ok (bs.drop p)
      have o5 := take32_ok (bs.drop p)
      generalize bs.drop p = rest at *
      have hrl := bytesD_len rest
      generalize takeP rest 0 0 = q at h3 o3 hT0
      generalize take64P rest = q4 at h4 o4 hT0
      generalize take32P rest = q5 at h5 o5 hT0
      obtain ⟨n2, p2, e2⟩ := q
      obtain ⟨n4, e4⟩ := q4
      obtain ⟨n5, e5⟩ := q5
      dsimp only at o3 o4 o5 hT0
      have hty : n % 8 = 0 ∨ n % 8 = 1 ∨ n % 8 = 5 ∨ n % 8 = 2 := by
        unfold formedW at hfm
        simp at hfm
        by_cases h5' : n % 8 = 5
        · omega
        · simp [h5'] at hfm
          omega
      refine a_if hT rfl rfl (fun h6 => ?_) (fun h6 => ?_)
      · have h6 := eq_of_beq h6
        refine a_call hT rfl rfl rfl (by kernel_rfl) h3 [] [] rfl rfl ?_
        rintro _ _ ⟨rfl, rfl⟩
        refine a_if hT rfl rfl (fun h7 => ?_) (fun h7 => ?_)
        · have h7 := bne_iff_ne.1 h7
          refine a_build hT hZ [.v (Value.int IntKind.i64 0) 0, .v (Value.int IntKind.i64 0) 0, .v (Value.int IntKind.u64 0) 0, .v (Value.slice none 0 0) 0] rfl rfl rfl rfl rfl rfl ?_
          refine a_ret hT [] rfl rfl rfl rfl rfl rfl ?_
          have he2 : e2 ≠ 0 := fun h => h7 (by show (e2 : Int) = 0; omega)
          exact ⟨_, le_fw0 _ _, by rw [hT0, if_pos (show n % 8 = 0 by have : ((n % 8 : Nat) : Int) = 0 := h6; omega), if_pos he2]; rfl, rfl⟩
        · simp at h7
          refine a_ret hT [] rfl rfl rfl rfl rfl rfl ?_
          have he2 : e2 = 0 := by omega
          subst he2
          have hwp : IntKind.i64.wrap ((p : Int) + (p2 : Int)) = ((p + p2 : Nat) : Int) := by rw [w64 (by omega) (by omega)]; omega
          exact ⟨_, Fit.le (b := tfA (⟨min (n / 8) 536870912, 0, n2, []⟩, p + p2, 0)) ⟨⟨rfl, congrArg (Value.int .i64) h6, rfl, rfl, trivial⟩, congrArg (Value.int .i64) hwp, rfl, trivial⟩, by rw [hT0, if_pos (show n % 8 = 0 by have : ((n % 8 : Nat) : Int) = 0 := h6; omega), if_neg (by simp)], rfl⟩
      · have h6 := ne_of_beq_false h6
        refine a_if hT rfl rfl (fun h7 => ?_) (fun h7 => ?_)
        · have h7 := eq_of_beq h7
          refine a_call hT rfl rfl rfl (by kernel_rfl) h4 [] [] rfl rfl ?_
          rintro _ _ ⟨rfl, rfl⟩
          refine a_if hT rfl rfl (fun h8 => ?_) (fun h8 => ?_)
          · have h8 := bne_iff_ne.1 h8
            refine a_build hT hZ [.v (Value.int IntKind.i64 0) 0, .v (Value.int IntKind.i64 0) 0, .v (Value.int IntKind.u64 0) 0, .v (Value.slice none 0 0) 0] rfl rfl rfl rfl rfl rfl ?_
            refine a_ret hT [] rfl rfl rfl rfl rfl rfl ?_
            have he2 : e4 ≠ 0 := fun h => h8 (by show (e4 : Int) = 0; omega)
            exact ⟨_, le_fw0 _ _, by rw [hT0, if_neg (show ¬ n % 8 = 0 from fun e => h6 (by show ((n % 8 : Nat) : Int) = 0; omega)), if_pos (show n % 8 = 1 by have : ((n % 8 : Nat) : Int) = 1 := h7; omega), if_pos he2]; rfl, rfl⟩
          · simp at h8
            refine a_ret hT [] rfl rfl rfl rfl rfl rfl ?_
            have he2 : e4 = 0 := by omega
            subst he2
            have hwp : IntKind.i64.wrap ((p : Int) + 8) = ((p + 8 : Nat) : Int) := by rw [w64 (by omega) (by omega)]; omega
            exact ⟨_, Fit.le (b := tfA (⟨min (n / 8) 536870912, 1, n4, []⟩, p + 8, 0)) ⟨⟨rfl, congrArg (Value.int .i64) h7, rfl, rfl, trivial⟩, congrArg (Value.int .i64) hwp, rfl, trivial⟩, by rw [hT0, if_neg (show ¬ n % 8 = 0 from fun e => h6 (by show ((n % 8 : Nat) : Int) = 0; omega)), if_pos (show n % 8 = 1 by have : ((n % 8 : Nat) : Int) = 1 := h7; omega), if_neg (by simp)], rfl⟩
        · have h7 := ne_of_beq_false h7
          refine a_if hT rfl rfl (fun h8 => ?_) (fun h8 => ?_)
          · have h8 := eq_of_beq h8
            refine a_call hT rfl rfl rfl (by kernel_rfl) h5 [] [] rfl rfl ?_
            rintro _ _ ⟨rfl, rfl⟩
            refine a_if hT rfl rfl (fun h9 => ?_) (fun h9 => ?_)
            · have h9 := bne_iff_ne.1 h9
              refine a_build hT hZ [.v (Value.int IntKind.i64 0) 0, .v (Value.int IntKind.i64 0) 0, .v (Value.int IntKind.u64 0) 0, .v (Value.slice none 0 0) 0] rfl rfl rfl rfl rfl rfl ?_
              refine a_ret hT [] rfl rfl rfl rfl rfl rfl ?_
              have he2 : e5 ≠ 0 := fun h => h9 (by show (e5 : Int) = 0; omega)
              exact ⟨_, le_fw0 _ _, by rw [hT0, if_neg (show ¬ n % 8 = 0 from fun e => h6 (by show ((n % 8 : Nat) : Int) = 0; omega)), if_neg (show ¬ n % 8 = 1 from fun e => h7 (by show ((n % 8 : Nat) : Int) = 1; omega)), if_pos (show n % 8 = 5 by have : ((n % 8 : Nat) : Int) = 5 := h8; omega), if_pos he2]; rfl, rfl⟩
            · simp at h9
              refine a_ret hT [] rfl rfl rfl rfl rfl rfl ?_
              have he2 : e5 = 0 := by omega
              subst he2
              have hwp : IntKind.i64.wrap ((p : Int) + 4) = ((p + 4 : Nat) : Int) := by rw [w64 (by omega) (by omega)]; omega
              exact ⟨_, Fit.le (b := tfA (⟨min (n / 8) 536870912, 5, n5, []⟩, p + 4, 0)) ⟨⟨rfl, congrArg (Value.int .i64) h8, congrArg (Value.int .u64) (wrapN64 (by omega)), rfl, trivial⟩, congrArg (Value.int .i64) hwp, rfl, trivial⟩, by rw [hT0, if_neg (show ¬ n % 8 = 0 from fun e => h6 (by show ((n % 8 : Nat) : Int) = 0; omega)), if_neg (show ¬ n % 8 = 1 from fun e => h7 (by show ((n % 8 : Nat) : Int) = 1; omega)), if_pos (show n % 8 = 5 by have : ((n % 8 : Nat) : Int) = 5 := h8; omega), if_neg (by simp)], rfl⟩
          · have h8 := ne_of_beq_false h8
            refine a_if hT rfl rfl (fun h9 => ?_) (fun h9 => ?_)
            · have h9 := eq_of_beq h9
              refine a_call hT rfl rfl rfl (by kernel_rfl) h3 [] [] rfl rfl ?_
              rintro _ _ ⟨rfl, rfl⟩
              refine a_g hT rfl rfl rfl (fun h10 => ?_) (fun h10 => ?_)
              · have h10 := eq_of_beq h10
                refine a_if hT rfl rfl (fun h11 => ?_) (fun h11 => ?_)
                · have h11 := of_decide_eq_true h11
                  refine a_f hT rfl rfl rfl ?_
                  refine a_t hT rfl rfl rfl ?_
                  refine a_build hT hZ [.v (Value.int IntKind.i64 0) 0, .v (Value.int IntKind.i64 0) 0, .v (Value.int IntKind.u64 0) 0, .v (Value.slice none 0 0) 0] rfl rfl rfl rfl rfl rfl ?_
                  refine a_ret hT [] rfl rfl rfl rfl rfl rfl ?_
                  have he2 : e2 = 0 := by have : (e2 : Int) = 0 := h10; omega
                  subst he2
                  have hwl : IntKind.u64.wrap (IntKind.i64.wrap (((rest.map eB).length : Int) - (p2 : Int))) = ((rest.length - p2 : Nat) : Int) := by rw [hrl, w64 (by omega) (by omega), wrapU (by omega) (by omega)]; omega
                  have h13 : rest.length - p2 < n2 := by have : (n2 : Int) > IntKind.u64.wrap (IntKind.i64.wrap (((rest.map eB).length : Int) - (p2 : Int))) := h11; rw [hwl] at this; omega
                  exact ⟨_, le_fw0 _ _, by rw [hT0, if_neg (show ¬ n % 8 = 0 from fun e => h6 (by show ((n % 8 : Nat) : Int) = 0; omega)), if_neg (show ¬ n % 8 = 1 from fun e => h7 (by show ((n % 8 : Nat) : Int) = 1; omega)), if_neg (show ¬ n % 8 = 5 from fun e => h8 (by show ((n % 8 : Nat) : Int) = 5; omega)), if_neg (show ¬ (0 : Nat) ≠ 0 by simp), if_pos h13]; rfl, rfl⟩
                · have h11 := of_decide_eq_false h11
                  refine a_if hT rfl rfl (fun h12 => ?_) (fun h12 => ?_)
                  · have h12 := eq_of_beq h12
                    have he2 : e2 = 0 := by have : (e2 : Int) = 0 := h10; omega
                    subst he2
                    have hwl : IntKind.u64.wrap (IntKind.i64.wrap (((rest.map eB).length : Int) - (p2 : Int))) = ((rest.length - p2 : Nat) : Int) := by rw [hrl, w64 (by omega) (by omega), wrapU (by omega) (by omega)]; omega
                    have h13 : ¬ rest.length - p2 < n2 := by have : ¬ (n2 : Int) > IntKind.u64.wrap (IntKind.i64.wrap (((rest.map eB).length : Int) - (p2 : Int))) := h11; rw [hwl] at this; omega
                    have hw9 : IntKind.i64.wrap ((p2 : Int) + IntKind.i64.wrap (n2 : Int)) = ((p2 + n2 : Nat) : Int) := by rw [w64 (x := (n2 : Int)) (by omega) (by omega), w64 (by omega) (by omega)]; omega
                    have hcl := cloneF (l := (rest.drop p2).take n2) (by rw [List.length_take, List.length_drop]; omega)
                    refine a_sl hT p2 (p2 + n2) (((rest.drop p2).take n2).map eB) rfl rfl rfl rfl rfl ⟨.i64, 0, rfl⟩ ⟨.i64, 0, congrArg (fun x => AV.v (Value.int .i64 x) 0) hw9⟩ (by omega) (by rw [hrl]; omega) (by rw [List.map_take, List.map_drop, Nat.add_sub_cancel_left]) ?_
                    refine a_call hT rfl rfl rfl (by kernel_rfl) hcl [] [] rfl rfl ?_
                    rintro _ _ ⟨rfl, rfl⟩
                    refine a_f hT rfl rfl rfl ?_
                    refine a_ret hT [] rfl rfl rfl rfl rfl rfl ?_
                    have hwp : IntKind.i64.wrap ((p : Int) + IntKind.i64.wrap ((p2 : Int) + IntKind.i64.wrap (n2 : Int))) = ((p + (p2 + n2) : Nat) : Int) := by rw [hw9, w64 (by omega) (by omega)]; omega
                    exact ⟨_, Fit.le (b := tfA (⟨min (n / 8) 536870912, 2, 0, (rest.drop p2).take n2⟩, p + (p2 + n2), 0)) ⟨⟨rfl, congrArg (Value.int .i64) h9, rfl, rfl, trivial⟩, congrArg (Value.int .i64) hwp, rfl, trivial⟩, by rw [hT0, if_neg (show ¬ n % 8 = 0 from fun e => h6 (by show ((n % 8 : Nat) : Int) = 0; omega)), if_neg (show ¬ n % 8 = 1 from fun e => h7 (by show ((n % 8 : Nat) : Int) = 1; omega)), if_neg (show ¬ n % 8 = 5 from fun e => h8 (by show ((n % 8 : Nat) : Int) = 5; omega)), if_neg (show ¬ (0 : Nat) ≠ 0 by simp), if_neg h13], rfl⟩
                  · have h12 := ne_of_beq_false h12
                    (exfalso; first | omega | contradiction)
              · have h10 := ne_of_beq_false h10
                refine a_f hT rfl rfl rfl ?_
                refine a_if hT rfl rfl (fun h11 => ?_) (fun h11 => ?_)
                · have h11 := eq_of_beq h11
                  (exfalso; first | omega | contradiction)
                · have h11 := ne_of_beq_false h11
                  refine a_if hT rfl rfl (fun h12 => ?_) (fun h12 => ?_)
                  · have h12 := bne_iff_ne.1 h12
                    refine a_build hT hZ [.v (Value.int IntKind.i64 0) 0, .v (Value.int IntKind.i64 0) 0, .v (Value.int IntKind.u64 0) 0, .v (Value.slice none 0 0) 0] rfl rfl rfl rfl rfl rfl ?_
                    refine a_ret hT [] rfl rfl rfl rfl rfl rfl ?_
                    have he2 : e2 ≠ 0 := fun h => h12 (by show (e2 : Int) = 0; omega)
                    exact ⟨_, le_fw0 _ _, by rw [hT0, if_neg (show ¬ n % 8 = 0 from fun e => h6 (by show ((n % 8 : Nat) : Int) = 0; omega)), if_neg (show ¬ n % 8 = 1 from fun e => h7 (by show ((n % 8 : Nat) : Int) = 1; omega)), if_neg (show ¬ n % 8 = 5 from fun e => h8 (by show ((n % 8 : Nat) : Int) = 5; omega)), if_pos he2]; rfl, rfl⟩
                  · simp at h12
                    refine a_ret hT [] rfl rfl rfl rfl rfl rfl ?_
                    exact absurd (show (e2 : Int) = 0 by first | omega | (have : e2 = 0 := h12; omega)) h10
            · have h9 := ne_of_beq_false h9
              refine a_f hT rfl rfl rfl ?_
              refine a_ret hT [] rfl rfl rfl rfl rfl rfl ?_
              exfalso
              rcases hty with h13 | h13 | h13 | h13
              · exact h6 (by show ((n % 8 : Nat) : Int) = 0; omega)
              · exact h7 (by show ((n % 8 : Nat) : Int) = 1; omega)
              · exact h8 (by show ((n % 8 : Nat) : Int) = 5; omega)
              · exact h9 (by show ((n % 8 : Nat) : Int) = 2; omega)
end Go.Proofs.YtjcolfogmmjaoaaGreatDoor
end

section
set_option linter.unusedVariables false
set_option linter.unusedSimpArgs false
set_option maxRecDepth 100000
set_option maxHeartbeats 1000000
namespace Go.Proofs.YtjcolfogmmjaoaaGreatDoor
open V A
theorem takeFP_ok (bs : List UInt8) : (takeFP bs).2.2 = 0 → 1 ≤ (takeFP bs).2.1 ∧ (takeFP bs).2.1 ≤ bs.length := by
  have o1 := takeP_ok bs 0 0 (by decide) (by decide)
  unfold takeFP
  generalize takeP bs 0 0 = r at o1 ⊢
  obtain ⟨n, p, e⟩ := r
  have hbl : (bs.drop p).length = bs.length - p := List.length_drop
  have o3 := takeP_ok (bs.drop p) 0 0 (by decide) (by decide)
  have o4 := take64_ok (bs.drop p)
  have o5 := take32_ok (bs.drop p)
  dsimp only at *
  generalize bs.drop p = rest at *
  generalize takeP rest 0 0 = q at *
  generalize take64P rest = q4 at *
  generalize take32P rest = q5 at *
  obtain ⟨n2, p2, e2⟩ := q
  obtain ⟨n4, e4⟩ := q4
  obtain ⟨n5, e5⟩ := q5
  dsimp only at *
  by_cases he : e ≠ 0
  · rw [if_pos he]; exact fun h => absurd h he
  rw [if_neg he]
  have h1 := o1.1 (by omega)
  by_cases hf : formedW ⟨min (n / 8) 536870912, n % 8, 0, []⟩ = false
  · rw [if_pos hf]; exact fun h => absurd h (by decide)
  rw [if_neg hf]
  by_cases t0 : n % 8 = 0
  · rw [if_pos t0]
    by_cases h2 : e2 ≠ 0
    · rw [if_pos h2]; exact fun h => absurd h h2
    rw [if_neg h2]
    have := o3.1 (by omega)
    exact fun _ => by dsimp only; omega
  rw [if_neg t0]
  by_cases t1 : n % 8 = 1
  · rw [if_pos t1]
    by_cases h2 : e4 ≠ 0
    · rw [if_pos h2]; exact fun h => absurd h h2
    rw [if_neg h2]
    have := o4.2.1 (by omega)
    exact fun _ => by dsimp only; omega
  rw [if_neg t1]
  by_cases t5 : n % 8 = 5
  · rw [if_pos t5]
    by_cases h2 : e5 ≠ 0
    · rw [if_pos h2]; exact fun h => absurd h h2
    rw [if_neg h2]
    have := o5.2.1 (by omega)
    exact fun _ => by dsimp only; omega
  rw [if_neg t5]
  by_cases h2 : e2 ≠ 0
  · rw [if_pos h2]; exact fun h => absurd h h2
  rw [if_neg h2]
  have := o3.1 (by omega)
  by_cases h3 : rest.length - p2 < n2
  · rw [if_pos h3]; exact fun h => absurd h (by decide)
  rw [if_neg h3]
  exact fun _ => by dsimp only; omega
def wsplitP : Nat → List UInt8 → Option (List (FW × List UInt8))
  | _, [] => some []
  | 0, _ :: _ => none
  | k + 1, b :: bs => if (takeFP (b :: bs)).2.2 ≠ 0 then none else (wsplitP k ((b :: bs).drop (takeFP (b :: bs)).2.1)).map (((takeFP (b :: bs)).1, (b :: bs).take (takeFP (b :: bs)).2.1) :: ·)
theorem wsplitP_fuel : ∀ (k : Nat) (bs : List UInt8), bs.length ≤ k → wsplitP k bs = wsplitP bs.length bs := by
  intro k
  induction k using Nat.strongRecOn with
  | _ k ih =>
  intro bs h
  cases bs with
  | nil => cases k <;> rfl
  | cons b bs =>
    cases k with
    | zero => simp at h
    | succ k =>
      simp only [List.length_cons]
      unfold wsplitP
      split
      · rfl
      · rename_i he
        have he := takeFP_ok (b :: bs) (by simpa using he)
        generalize (takeFP (b :: bs)).2.1 = p at he ⊢
        generalize (takeFP (b :: bs)).1 = f
        have hl : ((b :: bs).drop p).length ≤ bs.length := by rw [List.length_drop]; simp only [List.length_cons]; omega
        simp only [List.length_cons] at h
        rw [ih k (by omega) _ (by omega), ih bs.length (by omega) _ hl]
def splitW (bs : List UInt8) : Option (List (FW × List UInt8)) := wsplitP bs.length bs
theorem splitW_nil : splitW [] = some [] := rfl
theorem splitW_cons {bs : List UInt8} (h : bs ≠ []) : splitW bs = if (takeFP bs).2.2 ≠ 0 then none else (splitW (bs.drop (takeFP bs).2.1)).map (((takeFP bs).1, bs.take (takeFP bs).2.1) :: ·) := by
  cases bs with
  | nil => exact absurd rfl h
  | cons b bs =>
    show wsplitP (bs.length + 1) (b :: bs) = _
    conv => lhs; unfold wsplitP
    split
    · rfl
    · rename_i he
      have he := takeFP_ok (b :: bs) (by simpa using he)
      unfold splitW
      rw [wsplitP_fuel bs.length _ (by rw [List.length_drop]; simp only [List.length_cons]; omega)]
def rawD (x : FW × List UInt8) : List A.Dat := [.sl 1 (x.2.map eB)]
def wsplitA : Option (List (FW × List UInt8)) → AV
  | none => .tup [.d (.sl 4 []), .d (.sl 1 []), .v (kI 2) 0]
  | some L => .tup [.d (.sl 4 (L.map fun x => fwD x.1)), .d (.sl 1 (L.map rawD)), .v (kI 0) 0]
theorem WSplit_spec {bs : List UInt8} (hl : bs.length ≤ 1000000000) : FSpec Tryz.prog 74 [.d (A.bytesD bs)] [] fun a cs => a = wsplitA (splitW bs) ∧ cs = [] := by
  refine FSpec.le ?_
  have hlim : lim = 4294967296 := rfl
  have hlen := bytesD_len bs
  refine a_enter hT [.d (A.bytesD bs)] [] Tryz.func74 rfl rfl rfl ⟨Fit.refl _, trivial⟩ fun c' => ?_
  refine a_run hT 4 rfl rfl ?_
  refine a_nilrow 2 12 139 4 rfl rfl ?_
  refine a_nilrow 3 13 27 1 rfl rfl ?_
  refine a_loop hT [0, 2, 3] (fun x : List (FW × List UInt8) × List UInt8 × Value × Value => [.d (A.bytesD x.2.1), .row x.2.2.1 12, .row x.2.2.2 13]) (fun x => [(12, .row x.2.2.1 139 4 (x.1.map fun y => fwD y.1)), (13, .row x.2.2.2 27 1 (x.1.map rawD))]) (fun x => (splitW x.2.1).map (x.1 ++ ·) = splitW bs ∧ x.1.length + x.2.1.length ≤ bs.length) (fun x => x.2.1.length) ([], bs, .slice none 0 0, .slice none 0 0) [12, 13] rfl rfl ⟨by show (splitW bs).map ([] ++ ·) = _; simp, by simp⟩ ⟨rfl, rfl, rfl, trivial⟩ rfl ⟨⟨rfl, rfl, rfl, rfl⟩, ⟨rfl, rfl, rfl, rfl⟩, trivial⟩ ?_
  rintro ⟨acc, rest, v2, v3⟩ ⟨i1, i2⟩
  dsimp only at i1 i2
  have hrl := bytesD_len rest
  rcases Nat.eq_zero_or_pos rest.length with h0 | h0
  · have : rest = [] := List.eq_nil_of_length_eq_zero h0
    subst this
    refine a_f hT rfl rfl rfl ?_
    refine a_freeze 2 12 rfl rfl rfl rfl ?_
    refine a_freeze 3 13 rfl rfl rfl rfl ?_
    refine a_ret hT [] rfl rfl rfl rfl rfl rfl ?_
    exact ⟨_, Le.refl _, by rw [← i1, splitW_nil]; show _ = wsplitA (some (acc ++ [])); rw [List.append_nil]; rfl, rfl⟩
  · have hne : rest ≠ [] := fun e => by rw [e] at h0; simp at h0
    have hw := splitW_cons hne
    have ht := WTake_spec (bs := rest) (by omega)
    have ho := takeFP_ok rest
    generalize takeFP rest = r at hw ht ho
    obtain ⟨f, p, e⟩ := r
    dsimp only at hw ho
    refine a_t hT rfl rfl (decide_eq_true (by show ((rest.map eB).length : Int) > 0; rw [hrl]; omega)) ?_
    obtain ⟨fn, ft, fu, fd⟩ := f
    refine a_call hT rfl rfl rfl (by kernel_rfl) ht [] [] rfl rfl ?_
    rintro _ _ ⟨rfl, rfl⟩
    refine a_new hT hZ 20 rfl rfl rfl rfl fun g => ?_
    refine a_if hT rfl rfl (fun h => ?_) (fun h => ?_)
    · have h := bne_iff_ne.1 h
      refine a_ret hT [] rfl rfl rfl rfl rfl rfl ?_
      have he : e ≠ 0 := fun h2 => h (by show (e : Int) = 0; omega)
      rw [if_pos he] at hw
      exact ⟨_, Le.tup (.cons (le_nil (k := 4)) (.cons (le_nil (k := 1)) (.cons (Le.refl _) .nil))), by rw [← i1, hw]; rfl, rfl⟩
    · simp at h
      have he : e = 0 := by omega
      subst he
      have ho := ho rfl
      rw [if_neg (show ¬ (0 : Nat) ≠ 0 by simp)] at hw
      refine a_draw hT [12, 13] false [(0, false), (1, false), (4, false), (5, false), (6, false), (7, false), (2, true), (3, true), (8, true), (9, true), (10, true), (11, true), (12, true)] rfl rfl (by kernel_rfl) (by kernel_rfl) rfl ?_
      refine a_sl hT 0 p ((rest.take p).map eB) rfl rfl rfl rfl rfl rfl ⟨.i64, 0, rfl⟩ (by omega) (by rw [hrl]; omega) (by simp [List.map_take]) ?_
      have hcl := cloneF (l := rest.take p) (by rw [List.length_take]; omega)
      refine a_lit hT 21 rfl rfl rfl rfl (by kernel_rfl) rfl rfl rfl rfl fun x21 => ?_
      refine a_app hT 12 _ rfl rfl rfl rfl (by kernel_rfl) rfl rfl rfl rfl rfl rfl (by first | (simp; done) | (simp; omega) | (simp; unfold lim; omega) | (simp; assumption)) fun v => ?_
      refine a_call hT rfl rfl rfl (by kernel_rfl) hcl [] [] rfl rfl ?_
      rintro _ _ ⟨rfl, rfl⟩
      refine a_lit hT 22 rfl rfl rfl rfl (by kernel_rfl) rfl rfl rfl rfl fun x22 => ?_
      refine a_app hT 13 _ rfl rfl rfl rfl (by kernel_rfl) rfl rfl rfl rfl rfl rfl (by first | (simp; done) | (simp; omega) | (simp; unfold lim; omega) | (simp; assumption)) fun v1 => ?_
      refine a_sl hT p (rest.map eB).length ((rest.drop p).map eB) rfl rfl rfl rfl rfl ⟨.i64, 0, rfl⟩ rfl (by rw [hrl]; omega) (Nat.le_refl _) (slD rest p) ?_
      exact a_next hT (acc ++ [(⟨fn, ft, fu, fd⟩, rest.take p)], rest.drop p, v, v1) [12, 13] rfl rfl ⟨⟨by rw [← i1, hw]; show (splitW (rest.drop p)).map _ = _; rw [Option.map_map]; congr 1; funext L; simp, by show (acc ++ [_]).length + (rest.drop p).length ≤ bs.length; rw [List.length_append, List.length_drop]; simp only [List.length_cons, List.length_nil]; omega⟩, by show (rest.drop p).length < rest.length; rw [List.length_drop]; omega⟩ ⟨rfl, rfl, rfl, trivial⟩ rfl ⟨⟨rfl, rfl, rfl, by show _ = (acc ++ [_]).map _; rw [List.map_append]; rfl⟩, ⟨rfl, rfl, rfl, by show _ = (acc ++ [_]).map _; rw [List.map_append]; rfl⟩, trivial⟩
end Go.Proofs.YtjcolfogmmjaoaaGreatDoor
end

section
set_option linter.unusedVariables false
set_option linter.unusedSimpArgs false
set_option maxRecDepth 100000
namespace Go.Proofs.YtjcolfogmmjaoaaGreatDoor
open V A
mutual
inductive ND where
  | mk (kind n u : Int) (b : Bool) (s : ByteArray) (ty : Int) (fs : List NF)
inductive NF where
  | mk (num : Int) (vs : List ND)
end
mutual
inductive VL where
  | none
  | int (n : Int)
  | uint (u : Int)
  | bool (b : Bool)
  | text (s : ByteArray)
  | bytes (s : ByteArray)
  | enum (n : Int)
  | msg (ty : Int) (fs : List VF) (unk : ByteArray)
inductive VF where
  | mk (num : Int) (vs : List VL)
end
mutual
def ndD : ND → List A.Dat
  | .mk k n u b s t fs => [.v (kI k), .v (kI n), .v (kU u), .v (.bool b), .v (.string s), .v (kI t), .sl 2 (nfsD fs)]
def nfD : NF → List A.Dat
  | .mk num vs => [.v (kI num), .sl 7 (ndsD vs)]
def nfsD : List NF → List (List A.Dat)
  | [] => []
  | f :: fs => nfD f :: nfsD fs
def ndsD : List ND → List (List A.Dat)
  | [] => []
  | x :: xs => ndD x :: ndsD xs
end
mutual
def vlD : VL → A.Dat
  | .none => .v .nilIface
  | .int n => .ifc 89 false [.v (kI n)]
  | .uint u => .ifc 90 false [.v (kU u)]
  | .bool b => .ifc 91 false [.v (.bool b)]
  | .text s => .ifc 92 false [.v (.string s)]
  | .bytes s => .ifc 93 false [.v (.string s)]
  | .enum n => .ifc 94 false [.v (.int .i32 n)]
  | .msg t fs s => .ifc 97 true [.v (kI t), .sl 2 (vfsD fs), .v (.string s)]
def vfD : VF → List A.Dat
  | .mk num vs => [.v (kI num), .sl 1 (vlsD vs)]
def vfsD : List VF → List (List A.Dat)
  | [] => []
  | f :: fs => vfD f :: vfsD fs
def vlsD : List VL → List (List A.Dat)
  | [] => []
  | x :: xs => [vlD x] :: vlsD xs
end
theorem nfsD_map : ∀ fs, nfsD fs = fs.map nfD
  | [] => rfl
  | f :: fs => by unfold nfsD; rw [nfsD_map fs]; rfl
theorem ndsD_map : ∀ fs, ndsD fs = fs.map ndD
  | [] => rfl
  | f :: fs => by unfold ndsD; rw [ndsD_map fs]; rfl
theorem vfsD_map : ∀ fs, vfsD fs = fs.map vfD
  | [] => rfl
  | f :: fs => by unfold vfsD; rw [vfsD_map fs]; rfl
theorem vlsD_map : ∀ fs, vlsD fs = fs.map fun x => [vlD x]
  | [] => rfl
  | f :: fs => by unfold vlsD; rw [vlsD_map fs]; rfl
mutual
def oursP : VL → ND
  | .none => .mk 0 0 0 false .empty 0 []
  | .int n => .mk 1 n 0 false .empty 0 []
  | .uint u => .mk 2 0 u false .empty 0 []
  | .bool b => .mk 3 0 0 b .empty 0 []
  | .text s => .mk 4 0 0 false s 0 []
  | .bytes s => .mk 5 0 0 false s 0 []
  | .enum n => .mk 6 n 0 false .empty 0 []
  | .msg t fs s => .mk 7 0 0 false s t (oursFs fs)
def oursF : VF → NF
  | .mk num vs => .mk num (oursVs vs)
def oursFs : List VF → List NF
  | [] => []
  | f :: fs => oursF f :: oursFs fs
def oursVs : List VL → List ND
  | [] => []
  | x :: xs => oursP x :: oursVs xs
end
theorem oursFs_map : ∀ fs, oursFs fs = fs.map oursF
  | [] => rfl
  | f :: fs => by unfold oursFs; rw [oursFs_map fs]; rfl
theorem oursVs_map : ∀ fs, oursVs fs = fs.map oursP
  | [] => rfl
  | f :: fs => by unfold oursVs; rw [oursVs_map fs]; rfl
def ndA (x : ND) : AV := .agg ((ndD x).map nd)
end Go.Proofs.YtjcolfogmmjaoaaGreatDoor
end

section
set_option linter.unusedVariables false
set_option linter.unusedSimpArgs false
set_option maxRecDepth 100000
set_option maxHeartbeats 1000000
namespace Go.Proofs.YtjcolfogmmjaoaaGreatDoor
open V A
inductive OkV : VL → Prop
  | none : OkV .none
  | int (n : Int) : OkV (.int n)
  | uint (u : Int) : OkV (.uint u)
  | bool (b : Bool) : OkV (.bool b)
  | text (s : ByteArray) : OkV (.text s)
  | bytes (s : ByteArray) : OkV (.bytes s)
  | enum (n : Int) : -2147483648 ≤ n → n < 2147483648 → OkV (.enum n)
  | msg {t : Int} {fs : List VF} {s : ByteArray} : fs.length ≤ 100000 → (∀ num vs, VF.mk num vs ∈ fs → vs.length ≤ 100000) → (∀ num vs x, VF.mk num vs ∈ fs → x ∈ vs → OkV x) → OkV (.msg t fs s)
theorem Ours_spec : ∀ {v : VL}, OkV v → FSpec Tryz.prog 18 [nd (vlD v)] [] fun a cs => a = ndA (oursP v) ∧ cs = [] := by
  intro v hok
  induction hok with
  | none =>
    refine FSpec.le ?_
    refine a_enter hT [nd (vlD .none)] [] Tryz.func18 rfl rfl rfl ⟨Fit.refl _, trivial⟩ fun c' => ?_
    refine a_new hT hZ 20 rfl rfl rfl rfl fun g => ?_
    refine a_assertN hT (.int .i64 0) rfl rfl rfl rfl rfl (by kernel_rfl) rfl ?_
    refine a_f hT rfl rfl rfl ?_
    refine a_assertN hT (.int .u64 0) rfl rfl rfl rfl rfl (by kernel_rfl) rfl ?_
    refine a_f hT rfl rfl rfl ?_
    refine a_assertN hT (.bool false) rfl rfl rfl rfl rfl (by kernel_rfl) rfl ?_
    refine a_f hT rfl rfl rfl ?_
    refine a_assertN hT (.string ByteArray.empty) rfl rfl rfl rfl rfl (by kernel_rfl) rfl ?_
    refine a_f hT rfl rfl rfl ?_
    refine a_assertN hT (.string ByteArray.empty) rfl rfl rfl rfl rfl (by kernel_rfl) rfl ?_
    refine a_f hT rfl rfl rfl ?_
    refine a_assertN hT (.int .i32 0) rfl rfl rfl rfl rfl (by kernel_rfl) rfl ?_
    refine a_f hT rfl rfl rfl ?_
    refine a_assertN hT (.agg #[.int .i64 0, .slice none 0 0, .string ByteArray.empty]) rfl rfl rfl rfl rfl (by kernel_rfl) rfl ?_
    refine a_f hT rfl rfl rfl ?_
    refine a_build hT hZ [.v (Value.int IntKind.i64 0) 0, .v (Value.int IntKind.i64 0) 0, .v (Value.int IntKind.u64 0) 0, .v (Value.bool false) 0, .v (Value.string ByteArray.empty) 0, .v (Value.int IntKind.i64 0) 0, .v (Value.slice none 0 0) 0] rfl rfl rfl rfl rfl rfl ?_
    refine a_ret hT [] rfl rfl rfl rfl rfl rfl ?_
    exact ⟨_, Fit.le (b := ndA (oursP .none)) ⟨rfl, rfl, rfl, rfl, rfl, rfl, ⟨rfl, rfl⟩, trivial⟩, rfl, rfl⟩
  | int n =>
    refine FSpec.le ?_
    refine a_enter hT [nd (vlD (.int n))] [] Tryz.func18 rfl rfl rfl ⟨Fit.refl _, trivial⟩ fun c' => ?_
    refine a_new hT hZ 20 rfl rfl rfl rfl fun g => ?_
    refine a_t hT rfl rfl rfl ?_
    refine a_build hT hZ [.v (Value.int IntKind.i64 1) 0, .d (A.Dat.v (kI n)), .v (Value.int IntKind.u64 0) 0, .v (Value.bool false) 0, .v (Value.string ByteArray.empty) 0, .v (Value.int IntKind.i64 0) 0, .v (Value.slice none 0 0) 0] rfl rfl rfl rfl rfl rfl ?_
    refine a_ret hT [] rfl rfl rfl rfl rfl rfl ?_
    exact ⟨_, Fit.le (b := ndA (oursP (.int n))) ⟨rfl, rfl, rfl, rfl, rfl, rfl, ⟨rfl, rfl⟩, trivial⟩, rfl, rfl⟩
  | uint u =>
    refine FSpec.le ?_
    refine a_enter hT [nd (vlD (.uint u))] [] Tryz.func18 rfl rfl rfl ⟨Fit.refl _, trivial⟩ fun c' => ?_
    refine a_new hT hZ 20 rfl rfl rfl rfl fun g => ?_
    refine a_assertN hT (.int .i64 0) rfl rfl rfl rfl rfl (by kernel_rfl) rfl ?_
    refine a_f hT rfl rfl rfl ?_
    refine a_t hT rfl rfl rfl ?_
    refine a_build hT hZ [.v (Value.int IntKind.i64 2) 0, .v (Value.int IntKind.i64 0) 0, .d (A.Dat.v (kU u)), .v (Value.bool false) 0, .v (Value.string ByteArray.empty) 0, .v (Value.int IntKind.i64 0) 0, .v (Value.slice none 0 0) 0] rfl rfl rfl rfl rfl rfl ?_
    refine a_ret hT [] rfl rfl rfl rfl rfl rfl ?_
    exact ⟨_, Fit.le (b := ndA (oursP (.uint u))) ⟨rfl, rfl, rfl, rfl, rfl, rfl, ⟨rfl, rfl⟩, trivial⟩, rfl, rfl⟩
  | bool b =>
    refine FSpec.le ?_
    refine a_enter hT [nd (vlD (.bool b))] [] Tryz.func18 rfl rfl rfl ⟨Fit.refl _, trivial⟩ fun c' => ?_
    refine a_new hT hZ 20 rfl rfl rfl rfl fun g => ?_
    refine a_assertN hT (.int .i64 0) rfl rfl rfl rfl rfl (by kernel_rfl) rfl ?_
    refine a_f hT rfl rfl rfl ?_
    refine a_assertN hT (.int .u64 0) rfl rfl rfl rfl rfl (by kernel_rfl) rfl ?_
    refine a_f hT rfl rfl rfl ?_
    refine a_t hT rfl rfl rfl ?_
    refine a_build hT hZ [.v (Value.int IntKind.i64 3) 0, .v (Value.int IntKind.i64 0) 0, .v (Value.int IntKind.u64 0) 0, .d (A.Dat.v (Value.bool b)), .v (Value.string ByteArray.empty) 0, .v (Value.int IntKind.i64 0) 0, .v (Value.slice none 0 0) 0] rfl rfl rfl rfl rfl rfl ?_
    refine a_ret hT [] rfl rfl rfl rfl rfl rfl ?_
    exact ⟨_, Fit.le (b := ndA (oursP (.bool b))) ⟨rfl, rfl, rfl, rfl, rfl, rfl, ⟨rfl, rfl⟩, trivial⟩, rfl, rfl⟩
  | text s =>
    refine FSpec.le ?_
    refine a_enter hT [nd (vlD (.text s))] [] Tryz.func18 rfl rfl rfl ⟨Fit.refl _, trivial⟩ fun c' => ?_
    refine a_new hT hZ 20 rfl rfl rfl rfl fun g => ?_
    refine a_assertN hT (.int .i64 0) rfl rfl rfl rfl rfl (by kernel_rfl) rfl ?_
    refine a_f hT rfl rfl rfl ?_
    refine a_assertN hT (.int .u64 0) rfl rfl rfl rfl rfl (by kernel_rfl) rfl ?_
    refine a_f hT rfl rfl rfl ?_
    refine a_assertN hT (.bool false) rfl rfl rfl rfl rfl (by kernel_rfl) rfl ?_
    refine a_f hT rfl rfl rfl ?_
    refine a_t hT rfl rfl rfl ?_
    refine a_build hT hZ [.v (Value.int IntKind.i64 4) 0, .v (Value.int IntKind.i64 0) 0, .v (Value.int IntKind.u64 0) 0, .v (Value.bool false) 0, .d (A.Dat.v (Value.string s)), .v (Value.int IntKind.i64 0) 0, .v (Value.slice none 0 0) 0] rfl rfl rfl rfl rfl rfl ?_
    refine a_ret hT [] rfl rfl rfl rfl rfl rfl ?_
    exact ⟨_, Fit.le (b := ndA (oursP (.text s))) ⟨rfl, rfl, rfl, rfl, rfl, rfl, ⟨rfl, rfl⟩, trivial⟩, rfl, rfl⟩
  | bytes s =>
    refine FSpec.le ?_
    refine a_enter hT [nd (vlD (.bytes s))] [] Tryz.func18 rfl rfl rfl ⟨Fit.refl _, trivial⟩ fun c' => ?_
    refine a_new hT hZ 20 rfl rfl rfl rfl fun g => ?_
    refine a_assertN hT (.int .i64 0) rfl rfl rfl rfl rfl (by kernel_rfl) rfl ?_
    refine a_f hT rfl rfl rfl ?_
    refine a_assertN hT (.int .u64 0) rfl rfl rfl rfl rfl (by kernel_rfl) rfl ?_
    refine a_f hT rfl rfl rfl ?_
    refine a_assertN hT (.bool false) rfl rfl rfl rfl rfl (by kernel_rfl) rfl ?_
    refine a_f hT rfl rfl rfl ?_
    refine a_assertN hT (.string ByteArray.empty) rfl rfl rfl rfl rfl (by kernel_rfl) rfl ?_
    refine a_f hT rfl rfl rfl ?_
    refine a_t hT rfl rfl rfl ?_
    refine a_build hT hZ [.v (Value.int IntKind.i64 5) 0, .v (Value.int IntKind.i64 0) 0, .v (Value.int IntKind.u64 0) 0, .v (Value.bool false) 0, .d (A.Dat.v (Value.string s)), .v (Value.int IntKind.i64 0) 0, .v (Value.slice none 0 0) 0] rfl rfl rfl rfl rfl rfl ?_
    refine a_ret hT [] rfl rfl rfl rfl rfl rfl ?_
    exact ⟨_, Fit.le (b := ndA (oursP (.bytes s))) ⟨rfl, rfl, rfl, rfl, rfl, rfl, ⟨rfl, rfl⟩, trivial⟩, rfl, rfl⟩
  | enum n h1 h2 =>
    refine FSpec.le ?_
    refine a_enter hT [nd (vlD (.enum n))] [] Tryz.func18 rfl rfl rfl ⟨Fit.refl _, trivial⟩ fun c' => ?_
    refine a_new hT hZ 20 rfl rfl rfl rfl fun g => ?_
    refine a_assertN hT (.int .i64 0) rfl rfl rfl rfl rfl (by kernel_rfl) rfl ?_
    refine a_f hT rfl rfl rfl ?_
    refine a_assertN hT (.int .u64 0) rfl rfl rfl rfl rfl (by kernel_rfl) rfl ?_
    refine a_f hT rfl rfl rfl ?_
    refine a_assertN hT (.bool false) rfl rfl rfl rfl rfl (by kernel_rfl) rfl ?_
    refine a_f hT rfl rfl rfl ?_
    refine a_assertN hT (.string ByteArray.empty) rfl rfl rfl rfl rfl (by kernel_rfl) rfl ?_
    refine a_f hT rfl rfl rfl ?_
    refine a_assertN hT (.string ByteArray.empty) rfl rfl rfl rfl rfl (by kernel_rfl) rfl ?_
    refine a_f hT rfl rfl rfl ?_
    have hwn : IntKind.i64.wrap n = n := w64 (by omega) (by omega)
    refine a_t hT rfl rfl rfl ?_
    refine a_build hT hZ [.v (Value.int IntKind.i64 6) 0, .v (Value.int IntKind.i64 (IntKind.wrap IntKind.i64 n)) 0, .v (Value.int IntKind.u64 0) 0, .v (Value.bool false) 0, .v (Value.string ByteArray.empty) 0, .v (Value.int IntKind.i64 0) 0, .v (Value.slice none 0 0) 0] rfl rfl rfl rfl rfl rfl ?_
    refine a_ret hT [] rfl rfl rfl rfl rfl rfl ?_
    exact ⟨_, Fit.le (b := ndA (oursP (.enum n))) ⟨rfl, by show Value.int .i64 _ = Value.int .i64 _; rw [hwn], rfl, rfl, rfl, rfl, ⟨rfl, rfl⟩, trivial⟩, rfl, rfl⟩
  | @msg t fs s hl hvl hv ih =>
    refine FSpec.le ?_
    refine a_enter hT [nd (vlD (.msg t fs s))] [] Tryz.func18 rfl rfl rfl ⟨Fit.refl _, trivial⟩ fun c' => ?_
    refine a_new hT hZ 20 rfl rfl rfl rfl fun g0 => ?_
    refine a_assertN hT (.int .i64 0) rfl rfl rfl rfl rfl (by kernel_rfl) rfl ?_
    refine a_f hT rfl rfl rfl ?_
    refine a_assertN hT (.int .u64 0) rfl rfl rfl rfl rfl (by kernel_rfl) rfl ?_
    refine a_f hT rfl rfl rfl ?_
    refine a_assertN hT (.bool false) rfl rfl rfl rfl rfl (by kernel_rfl) rfl ?_
    refine a_f hT rfl rfl rfl ?_
    refine a_assertN hT (.string ByteArray.empty) rfl rfl rfl rfl rfl (by kernel_rfl) rfl ?_
    refine a_f hT rfl rfl rfl ?_
    refine a_assertN hT (.string ByteArray.empty) rfl rfl rfl rfl rfl (by kernel_rfl) rfl ?_
    refine a_f hT rfl rfl rfl ?_
    refine a_assertN hT (.int .i32 0) rfl rfl rfl rfl rfl (by kernel_rfl) rfl ?_
    refine a_f hT rfl rfl rfl ?_
    refine a_t hT rfl rfl rfl ?_
    refine a_new hT hZ 21 rfl rfl rfl rfl fun g => ?_
    refine a_build hT hZ [.v (Value.int IntKind.i64 7) 0, .v (Value.int IntKind.i64 0) 0, .v (Value.int IntKind.u64 0) 0, .v (Value.bool false) 0, .d (A.Dat.v (Value.string s)), .d (A.Dat.v (kI t)), .v (Value.slice none 0 0) 0] rfl rfl rfl rfl rfl rfl ?_
    refine a_new hT hZ 22 rfl rfl rfl rfl fun g1 => ?_
    have hlen : (vfsD fs).length = fs.length := by rw [vfsD_map, List.length_map]
    refine a_run hT 2 rfl rfl ?_
    refine a_nilrowB 22 6 23 79 2 rfl rfl rfl ?_
    refine a_loop hT [2, 9, 10, 56, 57] (fun x : Nat × Value => [.v (.pointer (some ⟨g0, 0, none⟩)) 20, .v (.pointer (some ⟨g, 0, none⟩)) 21, .v (.pointer (some ⟨g1, 0, none⟩)) 22, .v (kI fs.length) 0, .v (kI x.1) 0]) (fun x => [(20, .blk g0 38 [.v (Value.int IntKind.i64 0) 0, .v (Value.int IntKind.i64 0) 0, .v (Value.int IntKind.u64 0) 0, .v (Value.bool false) 0, .v (Value.string ByteArray.empty) 0, .v (Value.int IntKind.i64 0) 0, .v (Value.slice none 0 0) 0]), (21, .blk g 97 [.d (A.Dat.v (kI t)), .d (A.Dat.sl 2 (vfsD fs)), .d (A.Dat.v (Value.string s))]), (22, .blk g1 38 [.v (Value.int IntKind.i64 7) 0, .v (Value.int IntKind.i64 0) 0, .v (Value.int IntKind.u64 0) 0, .v (Value.bool false) 0, .d (A.Dat.v (Value.string s)), .d (A.Dat.v (kI t)), .row x.2 23]), (23, .row x.2 79 2 ((fs.take x.1).map fun f => nfD (oursF f)))]) (fun x => x.1 ≤ fs.length) (fun x => fs.length - x.1) (0, .slice none 0 0) [20, 21, 22, 23] rfl rfl (Nat.zero_le _) ⟨rfl, rfl, rfl, by rw [← hlen]; rfl, rfl, trivial⟩ rfl ⟨⟨rfl, rfl, ⟨rfl, rfl, rfl, rfl, Fit.refl _, Fit.refl _, rfl, trivial⟩⟩, ⟨rfl, rfl, ⟨rfl, rfl, rfl, trivial⟩⟩, ⟨rfl, rfl, ⟨rfl, rfl, rfl, rfl, Fit.refl _, Fit.refl _, rfl, trivial⟩⟩, ⟨rfl, rfl, rfl, rfl⟩, trivial⟩ ?_
    rintro ⟨i, v⟩ i2
    dsimp only at i2
    have hw := wN i (by omega)
    rcases Nat.lt_or_ge i fs.length with hil | hil
    · have hat : (vfsD fs)[(i : Int).toNat]? = some (vfD fs[i]) := by rw [vfsD_map]; simp [hil]
      have hmem := List.getElem_mem hil
      have htk : (fs.take (i + 1)).map (fun f => nfD (oursF f)) = (fs.take i).map (fun f => nfD (oursF f)) ++ [nfD (oursF fs[i])] := by rw [List.take_succ_eq_append_getElem hil, List.map_append]; rfl
      generalize fs[i] = f at hat hmem htk
      obtain ⟨num, vs⟩ := f
      have hvs := hvl num vs hmem
      have hih := fun x hx => ih num vs x hmem hx
      have hlv : (vlsD vs).length = vs.length := by rw [vlsD_map, List.length_map]
      refine a_t hT rfl rfl (decide_eq_true (by show (i : Int) < (fs.length : Int); omega)) ?_
      refine a_ix hT _ rfl rfl rfl rfl rfl rfl (by first | omega | assumption) (by first | assumption | rfl) ?_
      refine a_build hT hZ [.v (kI num) 0, .v (Value.slice none 0 0) 0] rfl rfl rfl rfl rfl rfl ?_
      refine a_new hT hZ 24 rfl rfl rfl rfl fun g2 => ?_
      refine a_ix hT _ rfl rfl rfl rfl rfl rfl (by first | omega | assumption) (by first | assumption | rfl) ?_
      refine a_nilrowB 24 1 25 38 7 rfl rfl rfl ?_
      refine a_loop hT [2, 9, 10, 11, 12, 56, 57, 73, 74] (fun x : Nat × Value => [.v (.pointer (some ⟨g0, 0, none⟩)) 20, .v (.pointer (some ⟨g, 0, none⟩)) 21, .v (.pointer (some ⟨g1, 0, none⟩)) 22, .v (kI i) 0, .v (.pointer (some ⟨g2, 0, none⟩)) 24, .v (kI fs.length) 0, .v (kI i) 0, .v (kI vs.length) 0, .v (kI x.1) 0]) (fun x => [(20, .blk g0 38 [.v (Value.int IntKind.i64 0) 0, .v (Value.int IntKind.i64 0) 0, .v (Value.int IntKind.u64 0) 0, .v (Value.bool false) 0, .v (Value.string ByteArray.empty) 0, .v (Value.int IntKind.i64 0) 0, .v (Value.slice none 0 0) 0]), (21, .blk g 97 [.d (A.Dat.v (kI t)), .d (A.Dat.sl 2 (vfsD fs)), .d (A.Dat.v (Value.string s))]), (22, .blk g1 38 [.v (Value.int IntKind.i64 7) 0, .v (Value.int IntKind.i64 0) 0, .v (Value.int IntKind.u64 0) 0, .v (Value.bool false) 0, .d (A.Dat.v (Value.string s)), .d (A.Dat.v (kI t)), .row v 23]), (23, .row v 79 2 ((fs.take i).map fun f => nfD (oursF f))), (24, .blk g2 79 [.v (kI num) 0, .row x.2 25]), (25, .row x.2 38 7 ((vs.take x.1).map fun y => ndD (oursP y)))]) (fun x => x.1 ≤ vs.length) (fun x => vs.length - x.1) (0, .slice none 0 0) [20, 21, 22, 23, 24, 25] rfl rfl (Nat.zero_le _) ⟨rfl, rfl, rfl, rfl, rfl, rfl, rfl, by rw [← hlv]; rfl, rfl, trivial⟩ rfl ⟨⟨rfl, rfl, ⟨rfl, rfl, rfl, rfl, Fit.refl _, Fit.refl _, rfl, trivial⟩⟩, ⟨rfl, rfl, ⟨rfl, rfl, rfl, trivial⟩⟩, ⟨rfl, rfl, ⟨rfl, rfl, rfl, rfl, Fit.refl _, Fit.refl _, rfl, trivial⟩⟩, ⟨rfl, rfl, rfl, rfl⟩, ⟨rfl, rfl, ⟨rfl, rfl, trivial⟩⟩, ⟨rfl, rfl, rfl, rfl⟩, trivial⟩ ?_
      rintro ⟨j, v2⟩ i3
      dsimp only at i3
      have hw2 := wN j (by omega)
      rcases Nat.lt_or_ge j vs.length with hjl | hjl
      · have hat2 : (vlsD vs)[(j : Int).toNat]? = some [vlD vs[j]] := by rw [vlsD_map]; simp [hjl]
        have htk2 : (vs.take (j + 1)).map (fun y => ndD (oursP y)) = (vs.take j).map (fun y => ndD (oursP y)) ++ [ndD (oursP vs[j])] := by rw [List.take_succ_eq_append_getElem hjl, List.map_append]; rfl
        have hy := hih vs[j] (List.getElem_mem hjl)
        generalize vs[j] = y at hat2 htk2 hy
        generalize hz : oursP y = z at htk2 hy
        obtain ⟨zk, zn, zu, zb, zs, zt, zf⟩ := z
        refine a_t hT rfl rfl (decide_eq_true (by show (j : Int) < (vs.length : Int); omega)) ?_
        refine a_draw hT [25] true [(0, false), (1, false), (2, false), (3, false), (4, false), (5, false), (6, false), (7, false), (8, false), (9, false), (10, false), (11, true), (12, true), (13, true), (14, true), (15, true)] rfl rfl (by kernel_rfl) (by kernel_rfl) rfl ?_
        refine a_ix hT _ rfl rfl rfl rfl rfl rfl (by first | omega | assumption) (by first | assumption | rfl) ?_
        refine a_ix hT _ rfl rfl rfl rfl rfl rfl (by first | omega | assumption) (by first | assumption | rfl) ?_
        refine a_call hT rfl rfl rfl (by kernel_rfl) hy [] [] rfl rfl ?_
        rintro _ _ ⟨rfl, rfl⟩
        refine a_lit hT 26 rfl rfl rfl rfl (by kernel_rfl) rfl rfl rfl rfl fun x26 => ?_
        have hlim : ((vs.take j).map (fun y => ndD (oursP y))).length + 1 ≤ lim := by rw [List.length_map, List.length_take]; unfold lim; omega
        refine a_app hT 25 _ rfl rfl rfl rfl (by kernel_rfl) rfl rfl rfl rfl rfl rfl hlim fun v1 => ?_
        exact a_next hT (j + 1, v1) [20, 21, 22, 23, 24, 25] rfl rfl ⟨by show j + 1 ≤ vs.length; omega, by show vs.length - (j + 1) < vs.length - j; omega⟩ ⟨rfl, rfl, rfl, rfl, rfl, rfl, rfl, rfl, by show Value.int .i64 _ = Value.int .i64 _; rw [hw2], trivial⟩ rfl ⟨⟨rfl, rfl, ⟨rfl, rfl, rfl, rfl, Fit.refl _, Fit.refl _, rfl, trivial⟩⟩, ⟨rfl, rfl, ⟨rfl, rfl, rfl, trivial⟩⟩, ⟨rfl, rfl, ⟨rfl, rfl, rfl, rfl, Fit.refl _, Fit.refl _, rfl, trivial⟩⟩, ⟨rfl, rfl, rfl, rfl⟩, ⟨rfl, rfl, ⟨rfl, rfl, trivial⟩⟩, ⟨rfl, rfl, rfl, htk2.symm⟩, trivial⟩
      · refine a_f hT rfl rfl (decide_eq_false (by show ¬ (j : Int) < (vs.length : Int); omega)) ?_
        refine a_freezeB 24 1 25 rfl rfl rfl rfl rfl ?_
        have hj : j = vs.length := by omega
        subst hj
        have htk3 : (fs.take i).map (fun f => nfD (oursF f)) ++ [[.v (kI num), .sl 7 ((vs.take vs.length).map (fun y => ndD (oursP y)))]] = (fs.take (i + 1)).map (fun f => nfD (oursF f)) := by
          rw [htk, List.take_length]
          unfold oursF nfD
          rw [ndsD_map, oursVs_map, List.map_map]
          rfl
        refine a_lit hT 26 rfl rfl rfl rfl (by kernel_rfl) rfl rfl rfl rfl fun x26 => ?_
        refine a_app hT 23 _ rfl rfl rfl rfl (by kernel_rfl) rfl rfl rfl rfl rfl rfl (by first | (simp; done) | (simp; omega) | (simp; unfold lim; omega) | (simp; assumption)) fun v1 => ?_
        exact a_next hT (i + 1, v1) [20, 21, 22, 23] rfl rfl ⟨by show i + 1 ≤ fs.length; omega, by show fs.length - (i + 1) < fs.length - i; omega⟩ ⟨rfl, rfl, rfl, rfl, by show Value.int .i64 _ = Value.int .i64 _; rw [hw], trivial⟩ rfl ⟨⟨rfl, rfl, ⟨rfl, rfl, rfl, rfl, Fit.refl _, Fit.refl _, rfl, trivial⟩⟩, ⟨rfl, rfl, ⟨rfl, rfl, rfl, trivial⟩⟩, ⟨rfl, rfl, ⟨rfl, rfl, rfl, rfl, Fit.refl _, Fit.refl _, rfl, trivial⟩⟩, ⟨rfl, rfl, rfl, htk3⟩, trivial⟩
    · refine a_f hT rfl rfl (decide_eq_false (by show ¬ (i : Int) < (fs.length : Int); omega)) ?_
      refine a_freezeB 22 6 23 rfl rfl rfl rfl rfl ?_
      refine a_cellL 22 4 (b := .v (.string s) 0) rfl rfl rfl le_dv ?_
      refine a_cellL 22 5 (b := .v (kI t) 0) rfl rfl rfl le_dv ?_
      have hi : i = fs.length := by omega
      subst hi
      refine a_ret hT [] rfl rfl rfl rfl rfl rfl ?_
      refine ⟨_, Fit.le (b := ndA (oursP (.msg t fs s))) ⟨rfl, rfl, rfl, rfl, rfl, rfl, ?_, trivial⟩, rfl, rfl⟩
      have hth : ((fs.take fs.length).map fun f => nfD (oursF f)) = nfsD (oursFs fs) := by rw [List.take_length, nfsD_map, oursFs_map, List.map_map]; rfl
      show Fit (.d (.sl 2 ((fs.take fs.length).map fun f => nfD (oursF f)))) (.d (.sl 2 (nfsD (oursFs fs))))
      rw [hth]
      exact Fit.refl _
end Go.Proofs.YtjcolfogmmjaoaaGreatDoor
end

section
set_option linter.unusedVariables false
set_option linter.unusedSimpArgs false
set_option maxRecDepth 100000
set_option maxHeartbeats 1000000
namespace Go.Proofs.YtjcolfogmmjaoaaGreatDoor
open V A
inductive BdN : ND → Prop
  | mk {k n u : Int} {b : Bool} {s : ByteArray} {t : Int} {fs : List NF} : s.size ≤ reachN → fs.length ≤ reachN → (∀ num vs, NF.mk num vs ∈ fs → vs.length ≤ reachN) → (∀ num vs x, NF.mk num vs ∈ fs → x ∈ vs → BdN x) → BdN (.mk k n u b s t fs)
end Go.Proofs.YtjcolfogmmjaoaaGreatDoor
end
