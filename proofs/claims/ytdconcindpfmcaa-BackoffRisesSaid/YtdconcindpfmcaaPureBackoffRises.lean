/- For every k: delays don't fall, each attempt comes just the delay behind the one ahead, and the fifth delay is 32. No condition. -/
import Derived.Test.YtdconcindpfmcaaPBackoffRisesx1
namespace Go.Proofs.Ytdconcindpfmcaa.Pure
open Go.RowKit Go.Proofs.Ytdconcindpfmcaa.PBackoffRises Go.Proofs.YtdconcindpfmcaaW.PrintWords Go.Proofs.YtdconcindpfmcaaW.PrintLast

theorem rises_at (m a : Int) (h : wrap64 (Int.tmod a 5) = m) (h0 : 0 ≤ m) (h5 : m < 5) : courierlaw16_BackoffRises.f 20 a = some true := by
  unfold courierlaw16_BackoffRises.f
  rw [h]
  obtain rfl | rfl | rfl | rfl | rfl : m = 0 ∨ m = 1 ∨ m = 2 ∨ m = 3 ∨ m = 4 := by omega
  all_goals decide +kernel

theorem BackoffRises : courierlaw16_BackoffRises.Pure := by
  intro a ha
  have hx : 0 ≤ a ∧ a ≤ 255 := by simpa [Lit.wf, IntKind.min, IntKind.max, IntKind.signed, IntKind.bits] using ha
  have hm : Int.tmod a 5 = a % 5 := Int.tmod_eq_emod_of_nonneg hx.1
  exact ⟨20, rises_at _ a rfl (by rw [hm]; unfold wrap64; omega) (by rw [hm]; unfold wrap64; omega)⟩

end Go.Proofs.Ytdconcindpfmcaa.Pure
