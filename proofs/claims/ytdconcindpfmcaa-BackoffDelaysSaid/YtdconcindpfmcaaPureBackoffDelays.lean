/- For every k: the delay behind attempt k, and when attempt k is made, are the reference's; and the first delay is 4. No condition. -/
import Derived.Test.YtdconcindpfmcaaPBackoffDelaysx1
namespace Go.Proofs.Ytdconcindpfmcaa.Pure
open Go.RowKit Go.Proofs.Ytdconcindpfmcaa.PBackoffDelays Go.Proofs.YtdconcindpfmcaaW.PrintWords Go.Proofs.YtdconcindpfmcaaW.PrintLast

theorem BackoffDelays : courierlaw16_BackoffDelays.Pure := by
  intro a ha
  refine ⟨30, ?_⟩
  rcases Int.lt_or_le a 0 with h | h
  · have h1 : backoff_Delay.f a = some 0 := by unfold backoff_Delay.f; rw [if_pos h]
    have h2 : courierref15_Delay.f 30 a = some 0 := by unfold courierref15_Delay.f; rw [if_pos h]; rfl
    have h3 : backoff_When.f 30 a = some (-1) := by rw [show (30 : Nat) = 29 + 1 from rfl, backoff_When.f, if_pos h]; rfl
    have h4 : courierref15_When.f 30 a = some (-1) := by unfold courierref15_When.f; rw [if_pos h]; rfl
    unfold courierlaw16_BackoffDelays.f
    rw [h1, h2, h3, h4]
    decide +kernel
  · rcases Int.lt_or_le 6 a with h6 | h6
    · have h1 : backoff_Delay.f a = some 0 := by unfold backoff_Delay.f; rw [if_neg (by omega), if_pos (by omega)]
      have h2 : courierref15_Delay.f 30 a = some 0 := by unfold courierref15_Delay.f; rw [if_neg (by omega), decide_eq_true (by omega : a ≥ 6)]; rfl
      have h3 : backoff_When.f 30 a = some (-1) := by rw [show (30 : Nat) = 29 + 1 from rfl, backoff_When.f, if_neg (by omega), decide_eq_true (by omega : a > 6)]; rfl
      have h4 : courierref15_When.f 30 a = some (-1) := by unfold courierref15_When.f; rw [if_neg (by omega), decide_eq_true (by omega : a > 6)]; rfl
      unfold courierlaw16_BackoffDelays.f
      rw [h1, h2, h3, h4]
      decide +kernel
    · obtain rfl | rfl | rfl | rfl | rfl | rfl | rfl : a = 0 ∨ a = 1 ∨ a = 2 ∨ a = 3 ∨ a = 4 ∨ a = 5 ∨ a = 6 := by omega
      all_goals decide +kernel

end Go.Proofs.Ytdconcindpfmcaa.Pure
