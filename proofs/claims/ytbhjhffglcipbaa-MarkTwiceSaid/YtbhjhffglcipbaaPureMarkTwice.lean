/- The law lockgatelaw13.MarkTwice holds of every input: the same bytes once more change nothing, more bytes never make it less busy; no condition beyond the row's own. -/
import Derived.Test.YtbhjhffglcipbaaPMarkTwicex1
namespace Go.Proofs.Ytbhjhffglcipbaa.Pure
open Go.RowKit Go.Proofs.Ytbhjhffglcipbaa.PMarkTwice Go.Proofs.YtbhjhffglcipbaaW.PrintWords Go.Proofs.YtbhjhffglcipbaaW.PrintLast

theorem awake_some : lockgatelaw13_awake.f = some true := by
  simp [lockgatelaw13_awake.f, mark_Next.f, mark_Room.f]

theorem MarkTwice : lockgatelaw13_MarkTwice.Pure := by
  intro a0 a1 a2 a3 a4 _ _ _ _
  refine ⟨1, ?_⟩
  unfold lockgatelaw13_MarkTwice.f
  by_cases h1 : a4 > a3
  · rw [if_pos h1]; simp only [lockgatelaw13_MarkTwice.j0]; rw [awake_some]; rfl
  · rw [if_neg h1]
    by_cases h2 : a2 < a1
    · simp only [lockgatelaw13_MarkTwice.j0, h2, decide_true, if_true]; rw [awake_some]; rfl
    · simp only [lockgatelaw13_MarkTwice.j0, h2, decide_false]
      rw [awake_some]
      unfold mark_Next.f
      by_cases h3 : a1 ≥ a3
      · have h4 : a2 ≥ a3 := by omega
        simp [h3, h4]
      · by_cases h4 : a2 ≥ a3
        · by_cases h5 : a1 ≤ a4 <;> cases a0 <;> simp [h3, h4, h5]
        · by_cases h5 : a1 ≤ a4
          · by_cases h6 : a2 ≤ a4 <;> cases a0 <;> simp [h3, h4, h5, h6]
          · have h6 : ¬ a2 ≤ a4 := by omega
            cases a0 <;> simp [h3, h4, h5, h6]

end Go.Proofs.Ytbhjhffglcipbaa.Pure
