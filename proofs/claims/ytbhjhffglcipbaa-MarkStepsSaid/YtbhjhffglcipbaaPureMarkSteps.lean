/- The law lockgatelaw13.MarkSteps holds of every input: Next and Room answer what the document says; no condition beyond the row's own. -/
import Derived.Test.YtbhjhffglcipbaaPMarkStepsx1
namespace Go.Proofs.Ytbhjhffglcipbaa.Pure
open Go.RowKit Go.Proofs.Ytbhjhffglcipbaa.PMarkSteps Go.Proofs.YtbhjhffglcipbaaW.PrintWords Go.Proofs.YtbhjhffglcipbaaW.PrintLast

theorem awake_some : lockgatelaw13_awake.f = some true := by
  simp [lockgatelaw13_awake.f, mark_Next.f, mark_Room.f]

theorem MarkSteps : lockgatelaw13_MarkSteps.Pure := by
  intro a0 a1 a2 a3 _ _ _
  unfold lockgatelaw13_MarkSteps.f
  rw [awake_some]
  simp only [Option.bind_some, if_true]
  unfold mark_Room.f mark_Next.f
  by_cases h1 : a3 > a2
  · rw [if_pos h1]
  · rw [if_neg h1]
    by_cases h2 : a1 ≥ a2
    · simp [h2]
    · by_cases h3 : a1 ≤ a3
      · have h4 : ¬ a1 > a3 := by omega
        cases a0 <;> simp [h2, h3, h4]
      · have h4 : a1 > a3 := by omega
        cases a0 <;> simp [h2, h3, h4]

end Go.Proofs.Ytbhjhffglcipbaa.Pure
