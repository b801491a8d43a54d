import Derived.Test.YtkghejleififiaaAsHk
namespace Go.Proofs.Ytkghejleififiaa
open Go Go.Proofs.Ytkghejleififiaa.AS Go.Proofs.Ytkghejleififiaa.CS
set_option maxRecDepth 100000
theorem p2_20 : all2 Try.prog code2 2 0 = true := by kernel_rfl
theorem p2_21 : all2 Try.prog code2 2 1 = true := by kernel_rfl
theorem p2_22 : all2 Try.prog code2 2 2 = true := by kernel_rfl
theorem p2_23 : all2 Try.prog code2 2 3 = true := by kernel_rfl
end Go.Proofs.Ytkghejleififiaa
