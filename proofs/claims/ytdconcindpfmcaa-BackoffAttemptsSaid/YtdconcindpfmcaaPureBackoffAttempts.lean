/- For all ticks and k: as many attempts are made as the reference says; attempt k % 6 is among them just if its time has come; and in no time there is one. No condition. -/
import Derived.Test.YtdconcindpfmcaaPBackoffAttemptsx1
namespace Go.Proofs.Ytdconcindpfmcaa.Pure
open Go.RowKit Go.Proofs.Ytdconcindpfmcaa.PBackoffAttempts Go.Proofs.YtdconcindpfmcaaW.PrintWords Go.Proofs.YtdconcindpfmcaaW.PrintLast

theorem att_step (k : Nat) (x i w : Int) (hw : backoff_When.f k i = some w) (hi : i < 6) :
    backoff_Attempts.l0 (k + 1) x i = if w ≤ x then backoff_Attempts.l0 k x (wrap64 (i + 1)) else some i := by
  rw [backoff_Attempts.l0, if_pos hi, hw]; rfl

theorem att_all (x : Int) : backoff_Attempts.l0 30 x 1 = some (if x < 4 then 1 else if x < 12 then 2 else if x < 28 then 3 else if x < 60 then 4 else if x < 92 then 5 else 6) := by
  rw [att_step 29 x 1 4 (by decide +kernel) (by decide), show wrap64 (1 + 1) = 2 from by decide +kernel,
    att_step 28 x 2 12 (by decide +kernel) (by decide), show wrap64 (2 + 1) = 3 from by decide +kernel,
    att_step 27 x 3 28 (by decide +kernel) (by decide), show wrap64 (3 + 1) = 4 from by decide +kernel,
    att_step 26 x 4 60 (by decide +kernel) (by decide), show wrap64 (4 + 1) = 5 from by decide +kernel,
    att_step 25 x 5 92 (by decide +kernel) (by decide), show wrap64 (5 + 1) = 6 from by decide +kernel]
  have h6 : backoff_Attempts.l0 25 x 6 = some 6 := by rw [backoff_Attempts.l0, if_neg (by decide)]
  rw [h6]
  repeat' split
  all_goals first | rfl | (exfalso; omega)

theorem ref_step (k : Nat) (x n i w : Int) (hw : courierref15_When.f k i = some w) (hi : i < 6) :
    courierref15_Attempts.l0 (k + 1) x n i = courierref15_Attempts.l0 k x (if w ≤ x then wrap64 (n + 1) else n) (wrap64 (i + 1)) := by
  rw [courierref15_Attempts.l0, if_pos hi, hw]; simp only [Option.bind_some]; split <;> rfl

theorem ref_all (x : Int) : courierref15_Attempts.l0 30 x 0 0 = some (if x < 0 then 0 else if x < 4 then 1 else if x < 12 then 2 else if x < 28 then 3 else if x < 60 then 4 else if x < 92 then 5 else 6) := by
  rw [ref_step 29 x _ 0 0 (by decide +kernel) (by decide), show wrap64 (0 + 1) = 1 from by decide +kernel,
    ref_step 28 x _ 1 4 (by decide +kernel) (by decide), show wrap64 (1 + 1) = 2 from by decide +kernel,
    ref_step 27 x _ 2 12 (by decide +kernel) (by decide), show wrap64 (2 + 1) = 3 from by decide +kernel,
    ref_step 26 x _ 3 28 (by decide +kernel) (by decide), show wrap64 (3 + 1) = 4 from by decide +kernel,
    ref_step 25 x _ 4 60 (by decide +kernel) (by decide), show wrap64 (4 + 1) = 5 from by decide +kernel,
    ref_step 24 x _ 5 92 (by decide +kernel) (by decide), show wrap64 (5 + 1) = 6 from by decide +kernel]
  rw [courierref15_Attempts.l0, if_neg (by decide)]
  congr 1
  by_cases h0 : x < 0
  · rw [if_pos h0, if_neg (by omega), if_neg (by omega), if_neg (by omega), if_neg (by omega), if_neg (by omega), if_neg (by omega)]
  rw [if_neg h0, if_pos (show (0 : Int) ≤ x by omega)]
  by_cases h1 : x < 4
  · rw [if_pos h1, if_neg (by omega), if_neg (by omega), if_neg (by omega), if_neg (by omega), if_neg (by omega)]
  rw [if_neg h1, if_pos (show (4 : Int) ≤ x by omega)]
  by_cases h2 : x < 12
  · rw [if_pos h2, if_neg (by omega), if_neg (by omega), if_neg (by omega), if_neg (by omega)]; decide +kernel
  rw [if_neg h2, if_pos (show (12 : Int) ≤ x by omega)]
  by_cases h3 : x < 28
  · rw [if_pos h3, if_neg (by omega), if_neg (by omega), if_neg (by omega)]; decide +kernel
  rw [if_neg h3, if_pos (show (28 : Int) ≤ x by omega)]
  by_cases h4 : x < 60
  · rw [if_pos h4, if_neg (by omega), if_neg (by omega)]; decide +kernel
  rw [if_neg h4, if_pos (show (60 : Int) ≤ x by omega)]
  by_cases h5 : x < 92
  · rw [if_pos h5, if_neg (by omega)]; decide +kernel
  rw [if_neg h5, if_pos (show (92 : Int) ≤ x by omega)]; decide +kernel

theorem BackoffAttempts : courierlaw16_BackoffAttempts.Pure := by
  intro x a _ ha
  have hx : 0 ≤ a ∧ a ≤ 255 := by simpa [Lit.wf, IntKind.min, IntKind.max, IntKind.signed, IntKind.bits] using ha
  have hm : Int.tmod a 6 = a % 6 := Int.tmod_eq_emod_of_nonneg hx.1
  refine ⟨30, ?_⟩
  have h1 : backoff_Attempts.f 30 x = some (if x < 0 then 0 else if x < 4 then 1 else if x < 12 then 2 else if x < 28 then 3 else if x < 60 then 4 else if x < 92 then 5 else 6) := by
    unfold backoff_Attempts.f
    rw [att_all]
    split <;> rfl
  have h2 : courierref15_Attempts.f 30 x = some (if x < 0 then 0 else if x < 4 then 1 else if x < 12 then 2 else if x < 28 then 3 else if x < 60 then 4 else if x < 92 then 5 else 6) := ref_all x
  have h3 : backoff_Attempts.f 30 0 = some 1 := by decide +kernel
  unfold courierlaw16_BackoffAttempts.f
  rw [h1, h2, h3]
  simp only [Option.bind_some, if_true]
  obtain ⟨m, hmm⟩ : ∃ m, wrap64 (Int.tmod a 6) = m := ⟨_, rfl⟩
  have hr : 0 ≤ m ∧ m < 6 := by rw [← hmm, hm]; unfold wrap64; omega
  rw [hmm]
  have go : ∀ w : Int, backoff_When.f 30 m = some w → ((decide ((if x < 0 then 0 else if x < 4 then 1 else if x < 12 then 2 else if x < 28 then 3 else if x < 60 then 4 else if x < 92 then 5 else 6 : Int) > m)) = (decide (w ≤ x))) →
      ((backoff_When.f 30 m).bind fun t108 => (if ((decide ((if x < 0 then 0 else if x < 4 then 1 else if x < 12 then 2 else if x < 28 then 3 else if x < 60 then 4 else if x < 92 then 5 else 6 : Int) > m)) == (decide (t108 ≤ x))) = true then some ((1 : Int) == 1) else (some false))) = some true := by
    intro w hw he
    rw [hw]
    simp only [Option.bind_some]
    rw [he, if_pos (by simp)]
    rfl
  obtain ⟨h0, h6⟩ := hr
  clear hmm hm
  obtain rfl | rfl | rfl | rfl | rfl | rfl : m = 0 ∨ m = 1 ∨ m = 2 ∨ m = 3 ∨ m = 4 ∨ m = 5 := by omega
  · exact go 0 (by decide +kernel) (by rw [decide_eq_decide]; repeat' split
                                       all_goals omega)
  · exact go 4 (by decide +kernel) (by rw [decide_eq_decide]; repeat' split
                                       all_goals omega)
  · exact go 12 (by decide +kernel) (by rw [decide_eq_decide]; repeat' split
                                        all_goals omega)
  · exact go 28 (by decide +kernel) (by rw [decide_eq_decide]; repeat' split
                                        all_goals omega)
  · exact go 60 (by decide +kernel) (by rw [decide_eq_decide]; repeat' split
                                        all_goals omega)
  · exact go 92 (by decide +kernel) (by rw [decide_eq_decide]; repeat' split
                                        all_goals omega)

end Go.Proofs.Ytdconcindpfmcaa.Pure
