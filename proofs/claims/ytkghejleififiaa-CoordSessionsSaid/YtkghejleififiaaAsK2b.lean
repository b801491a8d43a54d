import Derived.Test.YtkghejleififiaaAsHk
namespace Go.Proofs.Ytkghejleififiaa
open Go Go.Proofs.Ytkghejleififiaa.AS Go.Proofs.Ytkghejleififiaa.CS
set_option maxRecDepth 100000
theorem p2_10 : all2 Try.prog code2 1 0 = true := by kernel_rfl
theorem p2_11 : all2 Try.prog code2 1 1 = true := by kernel_rfl
theorem p2_12 : all2 Try.prog code2 1 2 = true := by kernel_rfl
theorem p2_13 : all2 Try.prog code2 1 3 = true := by kernel_rfl
end Go.Proofs.Ytkghejleififiaa
