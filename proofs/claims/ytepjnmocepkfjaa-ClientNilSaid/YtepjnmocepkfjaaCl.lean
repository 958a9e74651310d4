/- Layer 23's laws: their scripts, read from what is handed in. -/
import Derived.Test.YtepjnmocepkfjaaCk
import Derived.Test.YtepjnmocepkfjaaK
set_option linter.unusedVariables false
set_option linter.unusedSimpArgs false
namespace Go.Proofs.Ytepjnmocepkfjaa
open V A
theorem cop_reads (ds : List V.Dat) (h : HasTys [.int .i64, .int .i64, .int .u64, .int .i64, .int .i64, .sl [.int .u8], .int .i64, .int .i64, .int .u64, .int .i64, .int .u64, .int .i64, .int .i64, .int .i64, .sl [.int .u8]] ds) : ∃ o : COp, cvs ds = o.d ∧ poss ds ∧ o.ok := by
  obtain ⟨d1, r, rfl, h1, h⟩ := h.cons
  obtain ⟨d2, r, rfl, h2, h⟩ := h.cons
  obtain ⟨d3, r, rfl, h3, h⟩ := h.cons
  obtain ⟨d4, r, rfl, h4, h⟩ := h.cons
  obtain ⟨d5, r, rfl, h5, h⟩ := h.cons
  obtain ⟨d6, r, rfl, h6, h⟩ := h.cons
  obtain ⟨d7, r, rfl, h7, h⟩ := h.cons
  obtain ⟨d8, r, rfl, h8, h⟩ := h.cons
  obtain ⟨d9, r, rfl, h9, h⟩ := h.cons
  obtain ⟨d10, r, rfl, h10, h⟩ := h.cons
  obtain ⟨d11, r, rfl, h11, h⟩ := h.cons
  obtain ⟨d12, r, rfl, h12, h⟩ := h.cons
  obtain ⟨d13, r, rfl, h13, h⟩ := h.cons
  obtain ⟨d14, r, rfl, h14, h⟩ := h.cons
  obtain ⟨d15, r, rfl, h15, h⟩ := h.cons
  cases h.nil
  obtain ⟨x1, rfl, _, _⟩ := h1.i64
  obtain ⟨x2, rfl, _, _⟩ := h2.i64
  obtain ⟨x3, rfl, hx3⟩ := h3.u64
  obtain ⟨x4, rfl, _, _⟩ := h4.i64
  obtain ⟨x5, rfl, _, _⟩ := h5.i64
  obtain ⟨l1, hl1, hp1, hb1⟩ := cv_bytes h6
  obtain ⟨x7, rfl, _, _⟩ := h7.i64
  obtain ⟨x8, rfl, _, _⟩ := h8.i64
  obtain ⟨x9, rfl, hx9⟩ := h9.u64
  obtain ⟨x10, rfl, _, _⟩ := h10.i64
  obtain ⟨x11, rfl, hx11⟩ := h11.u64
  obtain ⟨x12, rfl, _, _⟩ := h12.i64
  obtain ⟨x13, rfl, _, _⟩ := h13.i64
  obtain ⟨x14, rfl, _, _⟩ := h14.i64
  obtain ⟨l2, hl2, hp2, hb2⟩ := cv_bytes h15
  refine ⟨⟨x1, x2, x3, x4, x5, l1, ⟨x7, x8, x9, x10, x11, x12, x13, x14, l2⟩⟩, ?_, ⟨trivial, trivial, trivial, trivial, trivial, hp1, trivial, trivial, trivial, trivial, trivial, trivial, trivial, trivial, hp2, trivial⟩, ⟨hb1, hb2⟩⟩
  simp only [cvs, hl1, hl2]
  rfl
def opCells (o : COp) : List AV := o.d.map AV.d
end Go.Proofs.Ytepjnmocepkfjaa
