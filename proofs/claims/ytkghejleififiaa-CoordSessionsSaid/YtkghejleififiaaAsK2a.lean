import Derived.Test.YtkghejleififiaaAsHk
namespace Go.Proofs.Ytkghejleififiaa
open Go Go.Proofs.Ytkghejleififiaa.AS Go.Proofs.Ytkghejleififiaa.CS
set_option maxRecDepth 100000
theorem p2_00 : all2 Try.prog code2 0 0 = true := by kernel_rfl
theorem p2_01 : all2 Try.prog code2 0 1 = true := by kernel_rfl
theorem p2_02 : all2 Try.prog code2 0 2 = true := by kernel_rfl
theorem p2_03 : all2 Try.prog code2 0 3 = true := by kernel_rfl
end Go.Proofs.Ytkghejleififiaa
