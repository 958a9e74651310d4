/- Rows that are turned in place: append within the room, clear, copy, a slice with three bounds. It holds of any program. -/
import Derived.Test.YtepjnmocepkfjaaL
set_option linter.unusedVariables false
set_option linter.unusedSimpArgs false
namespace Go.Proofs.Ytepjnmocepkfjaa.V

theorem setL_len : ∀ (vs : List Value) (cs : List Value) (i : Nat), (setL cs i vs).length = cs.length
  | [], cs, i => rfl
  | v :: vs, cs, i => by unfold setL; rw [setL_len vs]; simp
theorem setL_eq : ∀ (vs : List Value) (cs : List Value) (i : Nat), i + vs.length ≤ cs.length → setL cs i vs = cs.take i ++ vs ++ cs.drop (i + vs.length)
  | [], cs, i, h => by simp [setL]
  | v :: vs, cs, i, h => by
    simp at h
    unfold setL
    rw [setL_eq vs _ (i + 1) (by simp; omega)]
    have h1 : (cs.set i v).take (i + 1) = cs.take i ++ [v] := by
      apply List.ext_getElem?
      intro j
      by_cases hj : j < i
      · rw [List.getElem?_take_of_lt (by omega), List.getElem?_append_left (by simp; omega), List.getElem?_take_of_lt hj, List.getElem?_set_ne (by omega)]
      · by_cases hi : j = i
        · subst hi
          rw [List.getElem?_take_of_lt (by omega), List.getElem?_append_right (by simp; omega)]
          simp [show min j cs.length = j by omega, show j < cs.length by omega]
        · rw [List.getElem?_eq_none (by simp; omega), List.getElem?_eq_none (by simp; omega)]
    rw [h1, List.drop_set_of_lt (by omega)]
    simp [Nat.add_assoc, Nat.add_comm 1]

section
variable {P : Program} {L : List TD} {n : Nat} {Q : Exit → Act → World → Prop} {s : MS} {f f' : Env} {w : World} {κ : List Kt} {all : Array Oper} {dec : List Nat} {o : Oper} {al : Bool} {rest : List (Oper × Bool)} {S : World → Prop} {ex : Ex} {D : Dr}

/-- Cells of a block known whole are written, one behind the other. -/
theorem run_storeB {g off : Nat} {t : TypeId} {cs vs : List Value} (hb : Blk w g t cs) (hl : off + vs.length ≤ cs.length) (h1 : ∀ u ∈ vs, u.oneCell' = true) :
    (storeCells ⟨g, off, none⟩ vs).run P w = .ok () (setAll w ⟨g, off, none⟩ 0 vs) ∧ Blk (setAll w ⟨g, off, none⟩ 0 vs) g t (cs.take off ++ vs ++ cs.drop (off + vs.length)) ∧ Ev (at1 g) w (setAll w ⟨g, off, none⟩ 0 vs) := by
  obtain ⟨h2, h3⟩ := setAll_blk off vs 0 w cs hb
  rw [Nat.add_zero, setL_eq vs cs off hl] at h2
  refine ⟨run_storeCells P ⟨g, off, none⟩ vs 0 w h1 fun j _ hj => ?_, h2, h3⟩
  rw [add_off, hb.cell (off + j) (List.getElem?_eq_getElem (by omega))]
  exact ⟨rfl, hb.free _⟩

theorem go_sl3 (hT : TOk P L) {t e : TypeId} {m : Nat} {x y1 y2 y3 : Operand} {k1 k2 k3 : IntKind} {A : Option Addr} {len cap : Nat} (l r c : Nat) (h : mach L n fuel s f = .op D κ all dec o al rest f') (ho : o.op = .slice t x (some y1) (some y2) (some y3)) (ht : tl L t = .sl e m) (hx : ev n f' x = .slice A len cap)
    (h1 : ev n f' y1 = .int k1 l) (h2 : ev n f' y2 = .int k2 r) (h3 : ev n f' y3 = .int k3 c) (hlr : l ≤ r) (hrc : r ≤ c) (hc : c ≤ cap)
    (hk : DenS P n Q (.ops D κ all dec rest) (put f' o.dst (.slice (if c = l then A else A.map (·.add (l * m))) (r - l) (c - l))) w) : DenS P n Q s f w := by
  have htd : tdOf P t = .sl e m := by rcases hT t with e | e <;> rw [e] at ht; cases ht; exact ht
  obtain ⟨hu, hinf, hm⟩ := tdOf_sl htd
  refine go hT h (den_val _ (fun w' _ => ?_) hk)
  simp [execOp, ho, Instr.sliceAt, Instr.slice, hx, underlying, hu, Instr.sliceBounds, h1, h2, h3, Instr.sliceBound, asIntOf, hlr, hrc, hc, run_sizeOf' hinf, hm]

/-- A part of a row whose block is known; the part's form is given. -/
theorem go_slB (hT : TOk P L) {t e : TypeId} {m : Nat} {x : Operand} {lo hi : Option Operand} {g off len cap : Nat} (l r : Nat) (v : Value) (h : mach L n fuel s f = .op D κ all dec o al rest f') (ho : o.op = .slice t x lo hi none) (ht : tl L t = .sl e m) (hx : ev n f' x = .slice (some ⟨g, off, none⟩) len cap)
    (hlo : match lo with | none => l = 0 | some y => ∃ k : IntKind, ev n f' y = .int k l) (hhi : match hi with | none => r = len | some y => ∃ k : IntKind, ev n f' y = .int k r) (h0 : l ≤ r) (h1 : r ≤ cap) (hv : Value.slice (some ⟨g, if cap = l then off else off + l * m, none⟩) (r - l) (cap - l) = v)
    (hk : DenS P n Q (.ops D κ all dec rest) (put f' o.dst v) w) : DenS P n Q s f w := by
  refine go_sl hT l r h ho ht hx hlo hhi h0 h1 ?_
  have : (Value.slice (if cap = l then some (⟨g, off, none⟩ : Addr) else Option.map (fun x : Addr => x.add (l * m)) (some (⟨g, off, none⟩ : Addr))) (r - l) (cap - l)) = v := by
    rw [← hv]
    split <;> simp [add_off, *]
  rw [this]
  exact hk

/-- append where there is room. -/
theorem go_appIn (hT : TOk P L) {t e : TypeId} {k m0 m c cap g off : Nat} {x y : Operand} {A : Option Addr} {cs news : List Value} (h : mach L n fuel s f = .op D κ all dec o true rest f') (ho : o.op = .call ⟨.builtin .append, #[x, y], #[t, t]⟩) (ht : tl L t = .sl e k)
    (hx : ev n f' x = .slice (some ⟨g, off, none⟩) m0 cap) (hy : ev n f' y = .slice A m c) (hb : Blk w g e cs) (hnl : news.length = m * k) (hc : news ≠ [] → ∃ ad, A = some ad ∧ Cells w ad news) (h1 : ∀ u ∈ news, u.oneCell' = true) (hroom : m0 + m ≤ cap) (hl : off + (m0 + m) * k ≤ cs.length)
    (hk : ∀ w', Blk w' g e (cs.take (off + m0 * k) ++ news ++ cs.drop (off + (m0 + m) * k)) → Ev (at1 g) w w' → Keep D rest.isEmpty w' ∧ DenS P n Q (.ops D κ all dec rest) (put f' o.dst (.slice (some ⟨g, off, none⟩) (m0 + m) cap)) w') : DenS P n Q s f w := by
  obtain ⟨hu, hinf, hsz⟩ := sl_tl hT ht
  have hl2 : off + m0 * k + news.length ≤ cs.length := by rw [hnl]; rw [Nat.add_mul] at hl; omega
  obtain ⟨r1, r2, r3⟩ := run_storeB (P := P) hb hl2 h1
  obtain ⟨hS, hn⟩ := hk _ (by rw [hnl] at r2; rw [show off + (m0 + m) * k = off + m0 * k + m * k by rw [Nat.add_mul]; omega]; exact r2) r3
  refine go hT h (den_new _ ?_ hS hn)
  have hload : (Builtin.firstCells k m (.slice A m c)).run P w = .ok news.toArray w := by
    by_cases hne : news = []
    · subst hne
      have h0 : m * k = 0 := by simpa using hnl.symm
      cases A with
      | none => rfl
      | some ad =>
        unfold Builtin.firstCells
        rw [h0]
        exact run_loadCells_list (P := P) (w := w) ad [] (fun j v h => by simp at h)
    · obtain ⟨ad, rfl, hcc⟩ := hc hne
      unfold Builtin.firstCells
      rw [← hnl]
      exact run_loadCells_list (P := P) (w := w) ad news hcc
  have hadd : (⟨g, off, none⟩ : Addr).add (m0 * k) = ⟨g, off + m0 * k, none⟩ := add_off g off _
  have hrun : ∀ ty, (Builtin.append_ #[t, t] ty #[.slice (some ⟨g, off, none⟩) m0 cap, .slice A m c]).run P w = .ok (.slice (some ⟨g, off, none⟩) (m0 + m) cap) (setAll w ⟨g, off + m0 * k, none⟩ 0 news) := by
    intro ty
    unfold Builtin.append_
    simp [run_underlying hu, run_sizeOf' hinf, hsz, Builtin.lenOf, hroom, hload, hadd, r1]
  unfold execOp
  simp only [ho, resolve, invoke, builtin, Sem.run_bind, Sem.run_pure, Result.andThen_ok, List.map_toArray, List.map_cons, List.map_nil, hx, hy, hrun]

/-- clear: a row of zeros. -/
theorem go_clear (hT : TOk P L) {t e : TypeId} {k m c g off : Nat} {x : Operand} {cs : List Value} (z : Value) (h : mach L n fuel s f = .op D κ all dec o true rest f') (ho : o.op = .call ⟨.builtin .clear, #[x], #[t]⟩) (ht : tl L t = .sl e k)
    (hx : ev n f' x = .slice (some ⟨g, off, none⟩) m c) (hz : (P.info? e).map (·.zero) = some (some z)) (hz1 : z.cells.toList.all (·.oneCell') = true) (hzk : Nat.beq z.cells.size k = true) (hb : Blk w g e cs) (hl : off + m * k ≤ cs.length)
    (hk : ∀ w' zs, zs.length = m * k → Blk w' g e (cs.take off ++ zs ++ cs.drop (off + m * k)) → Ev (at1 g) w w' → Keep D rest.isEmpty w' ∧ DenS P n Q (.ops D κ all dec rest) (put f' o.dst (.tuple #[])) w') : DenS P n Q s f w := by
  obtain ⟨hu, hinf, hsz⟩ := sl_tl hT ht
  obtain ⟨i, hi, hiz⟩ := Option.map_eq_some_iff.1 hz
  have hzk' : z.cells.size = k := Nat.eq_of_beq_eq_true hzk
  rcases Nat.eq_zero_or_pos m with h0 | h0
  · subst h0
    obtain ⟨hS, hn⟩ := hk w [] (by simp) (by simpa using hb) (Ev.refl _ _)
    refine go hT h (den_new _ ?_ hS hn)
    unfold execOp
    simp only [ho, resolve, invoke, builtin, Sem.run_bind, Sem.run_pure, Result.andThen_ok, List.map_toArray, List.map_cons, List.map_nil, hx]
    simp [Builtin.clear_, run_underlying hu]
  · have hone : ∀ u ∈ (Builtin.zeroCells z.cells m).toList, u.oneCell' = true := by
      intro u hu
      simp only [Builtin.zeroCells, Array.toList_map, List.mem_map] at hu
      obtain ⟨j, hj, rfl⟩ := hu
      simp at hj
      have hp : 0 < z.cells.size := by
        rcases Nat.eq_zero_or_pos z.cells.size with h | h
        · rw [h] at hj; simp at hj
        · exact h
      rw [getElem!_pos z.cells (j % z.cells.size) (Nat.mod_lt _ hp)]
      exact List.all_eq_true.1 hz1 _ (by simp)
    have hlen : (Builtin.zeroCells z.cells m).toList.length = m * k := by simp [Builtin.zeroCells, hzk']
    obtain ⟨r1, r2, r3⟩ := run_storeB (P := P) hb (vs := (Builtin.zeroCells z.cells m).toList) (by rw [hlen]; exact hl) hone
    obtain ⟨hS, hn⟩ := hk _ _ hlen (by rw [hlen] at r2; exact r2) r3
    refine go hT h (den_new _ ?_ hS hn)
    unfold execOp
    simp only [ho, resolve, invoke, builtin, Sem.run_bind, Sem.run_pure, Result.andThen_ok, List.map_toArray, List.map_cons, List.map_nil, hx]
    obtain ⟨m', rfl⟩ : ∃ m', m = m' + 1 := ⟨m - 1, by omega⟩
    simp [Builtin.clear_, run_underlying hu, zeroValue, typeInfo, hi, hiz, r1]

/-- copy, within a block known whole. -/
theorem go_copy (hT : TOk P L) {t t2 e : TypeId} {k m c m2 c2 g off : Nat} {x y : Operand} {A : Option Addr} {cs news : List Value} (h : mach L n fuel s f = .op D κ all dec o true rest f') (ho : o.op = .call ⟨.builtin .copy, #[x, y], #[t, t2]⟩) (ht : tl L t = .sl e k)
    (hx : ev n f' x = .slice (some ⟨g, off, none⟩) m c) (hy : ev n f' y = .slice A m2 c2) (hb : Blk w g e cs) (hnl : news.length = min m2 m * k) (hc : news ≠ [] → ∃ ad, A = some ad ∧ Cells w ad news) (h1 : ∀ u ∈ news, u.oneCell' = true) (hl : off + min m2 m * k ≤ cs.length)
    (hk : ∀ w', Blk w' g e (cs.take off ++ news ++ cs.drop (off + min m2 m * k)) → Ev (at1 g) w w' → Keep D rest.isEmpty w' ∧ DenS P n Q (.ops D κ all dec rest) (put f' o.dst (.int .i64 (min m2 m : Nat))) w') : DenS P n Q s f w := by
  obtain ⟨hu, hinf, hsz⟩ := sl_tl hT ht
  obtain ⟨r1, r2, r3⟩ := run_storeB (P := P) hb (by rw [hnl]; exact hl) h1
  obtain ⟨hS, hn⟩ := hk _ (by rw [hnl] at r2; exact r2) r3
  refine go hT h (den_new _ ?_ hS hn)
  have hload : (Builtin.firstCells k (min m2 m) (.slice A m2 c2)).run P w = .ok news.toArray w := by
    by_cases hne : news = []
    · subst hne
      have h0 : min m2 m * k = 0 := by simpa using hnl.symm
      cases A with
      | none => rfl
      | some ad =>
        unfold Builtin.firstCells
        rw [h0]
        exact run_loadCells_list (P := P) (w := w) ad [] (fun j v h => by simp at h)
    · obtain ⟨ad, rfl, hcc⟩ := hc hne
      unfold Builtin.firstCells
      rw [← hnl]
      exact run_loadCells_list (P := P) (w := w) ad news hcc
  have hrun : ∀ ty, (Builtin.copy_ #[t, t2] ty #[.slice (some ⟨g, off, none⟩) m c, .slice A m2 c2]).run P w = .ok (.int .i64 (min m2 m : Nat)) (setAll w ⟨g, off, none⟩ 0 news) := by
    intro ty
    unfold Builtin.copy_
    have hmin : Nat.min m2 m = min m2 m := rfl
    simp [run_underlying hu, run_sizeOf' hinf, hsz, Builtin.lenOf, hmin, hload, r1, goInt]
  unfold execOp
  simp only [ho, resolve, invoke, builtin, Sem.run_bind, Sem.run_pure, Result.andThen_ok, List.map_toArray, List.map_cons, List.map_nil, hx, hy, hrun]
/-! ### Integers -/
theorem run_bin {op : BinOp} {t yt : TypeId} {x y : Operand} {a b v : Value} (hg : op.ctorIdx ≠ BinOp.eql.ctorIdx ∧ op.ctorIdx ≠ BinOp.neq.ctorIdx) (ho : o.op = .binOp op t x y yt) (hx : ev n f x = a) (hy : ev n f y = b) (hv : (binOp op t a b).run P w = .ok v w) : (execOp (ev n f) o).run P w = .ok (.value v) w := by
  rw [run_binOp ho, hx, hy]
  have : (eqGuard op t x y a b).run P w = .ok () w := by
    unfold eqGuard
    cases op <;> first | rfl | simp at hg
  rw [this, Result.andThen_ok, hv, Result.andThen_ok]
theorem go_rem (hT : TOk P L) {t yt : TypeId} {x y : Operand} {k : IntKind} {a b : Int} (r : Int) (h : mach L n fuel s f = .op D κ all dec o al rest f') (ho : o.op = .binOp .rem t x y yt) (hx : ev n f' x = .int k a) (hy : ev n f' y = .int k b) (hb : b ≠ 0) (hr : a.tmod b = r)
    (hk : DenS P n Q (.ops D κ all dec rest) (put f' o.dst (.int k r)) w) : DenS P n Q s f w :=
  go hT h (den_val _ (fun w' _ => run_bin (by decide) ho hx hy (by simp [binOp, Op.intDiv, hb, hr])) hk)
theorem go_quo (hT : TOk P L) {t yt : TypeId} {x y : Operand} {k : IntKind} {a b : Int} (r : Int) (h : mach L n fuel s f = .op D κ all dec o al rest f') (ho : o.op = .binOp .quo t x y yt) (hx : ev n f' x = .int k a) (hy : ev n f' y = .int k b) (hb : b ≠ 0) (hr : k.wrap (a.tdiv b) = r)
    (hk : DenS P n Q (.ops D κ all dec rest) (put f' o.dst (.int k r)) w) : DenS P n Q s f w :=
  go hT h (den_val _ (fun w' _ => run_bin (by decide) ho hx hy (by simp [binOp, Op.intDiv, hb, hr])) hk)
theorem go_xor (hT : TOk P L) {t yt : TypeId} {x y : Operand} {k : IntKind} {a b : Int} (r : Int) (h : mach L n fuel s f = .op D κ all dec o al rest f') (ho : o.op = .binOp .xor t x y yt) (hx : ev n f' x = .int k a) (hy : ev n f' y = .int k b) (hr : k.wrap (BitVec.ofInt k.bits a ^^^ BitVec.ofInt k.bits b).toNat = r)
    (hk : DenS P n Q (.ops D κ all dec rest) (put f' o.dst (.int k r)) w) : DenS P n Q s f w :=
  go hT h (den_val _ (fun w' _ => run_bin (by decide) ho hx hy (by simp only [binOp, ne_eq, not_true_eq_false, if_false, Op.intBits, hr]; rfl)) hk)
theorem go_and (hT : TOk P L) {t yt : TypeId} {x y : Operand} {k : IntKind} {a b : Int} (r : Int) (h : mach L n fuel s f = .op D κ all dec o al rest f') (ho : o.op = .binOp .and t x y yt) (hx : ev n f' x = .int k a) (hy : ev n f' y = .int k b) (hr : k.wrap (BitVec.ofInt k.bits a &&& BitVec.ofInt k.bits b).toNat = r)
    (hk : DenS P n Q (.ops D κ all dec rest) (put f' o.dst (.int k r)) w) : DenS P n Q s f w :=
  go hT h (den_val _ (fun w' _ => run_bin (by decide) ho hx hy (by simp only [binOp, ne_eq, not_true_eq_false, if_false, Op.intBits, hr]; rfl)) hk)
theorem go_or (hT : TOk P L) {t yt : TypeId} {x y : Operand} {k : IntKind} {a b : Int} (r : Int) (h : mach L n fuel s f = .op D κ all dec o al rest f') (ho : o.op = .binOp .or t x y yt) (hx : ev n f' x = .int k a) (hy : ev n f' y = .int k b) (hr : k.wrap (BitVec.ofInt k.bits a ||| BitVec.ofInt k.bits b).toNat = r)
    (hk : DenS P n Q (.ops D κ all dec rest) (put f' o.dst (.int k r)) w) : DenS P n Q s f w :=
  go hT h (den_val _ (fun w' _ => run_bin (by decide) ho hx hy (by simp only [binOp, ne_eq, not_true_eq_false, if_false, Op.intBits, hr]; rfl)) hk)
theorem go_shl (hT : TOk P L) {t yt : TypeId} {x y : Operand} {k k2 : IntKind} {a b : Int} (r : Int) (h : mach L n fuel s f = .op D κ all dec o al rest f') (ho : o.op = .binOp .shl t x y yt) (hx : ev n f' x = .int k a) (hy : ev n f' y = .int k2 b) (hb : 0 ≤ b) (hr : k.wrap (a * 2 ^ (min b.toNat k.bits)) = r)
    (hk : DenS P n Q (.ops D κ all dec rest) (put f' o.dst (.int k r)) w) : DenS P n Q s f w :=
  go hT h (den_val _ (fun w' _ => run_bin (by decide) ho hx hy (by simp only [binOp, Op.shift, hr, if_neg (show ¬ b < 0 by omega)]; rfl)) hk)
theorem go_shr (hT : TOk P L) {t yt : TypeId} {x y : Operand} {k k2 : IntKind} {a b : Int} (r : Int) (h : mach L n fuel s f = .op D κ all dec o al rest f') (ho : o.op = .binOp .shr t x y yt) (hx : ev n f' x = .int k a) (hy : ev n f' y = .int k2 b) (hb : 0 ≤ b) (hr : a.fdiv (2 ^ (min b.toNat k.bits)) = r)
    (hk : DenS P n Q (.ops D κ all dec rest) (put f' o.dst (.int k r)) w) : DenS P n Q s f w :=
  go hT h (den_val _ (fun w' _ => run_bin (by decide) ho hx hy (by simp only [binOp, Op.shift, hr, if_neg (show ¬ b < 0 by omega)]; rfl)) hk)
end
end Go.Proofs.Ytepjnmocepkfjaa.V
