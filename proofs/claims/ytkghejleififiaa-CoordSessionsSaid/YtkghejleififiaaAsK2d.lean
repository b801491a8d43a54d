import Derived.Test.YtkghejleififiaaAsHk
namespace Go.Proofs.Ytkghejleififiaa
open Go Go.Proofs.Ytkghejleififiaa.AS Go.Proofs.Ytkghejleififiaa.CS
set_option maxRecDepth 100000
theorem p2_30 : all2 Try.prog code2 3 0 = true := by kernel_rfl
theorem p2_31 : all2 Try.prog code2 3 1 = true := by kernel_rfl
theorem p2_32 : all2 Try.prog code2 3 2 = true := by kernel_rfl
theorem p2_33 : all2 Try.prog code2 3 3 = true := by kernel_rfl
end Go.Proofs.Ytkghejleififiaa
