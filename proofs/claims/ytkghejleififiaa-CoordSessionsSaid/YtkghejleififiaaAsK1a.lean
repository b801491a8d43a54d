import Derived.Test.YtkghejleififiaaAsHk
namespace Go.Proofs.Ytkghejleififiaa
open Go Go.Proofs.Ytkghejleififiaa.AS Go.Proofs.Ytkghejleififiaa.CS
set_option maxRecDepth 100000
theorem p1_00 : all1 Try.prog code1 0 0 = true := by kernel_rfl
theorem p1_40 : all1 Try.prog code1 4 0 = true := by kernel_rfl
theorem p1_41 : all1 Try.prog code1 4 1 = true := by kernel_rfl
end Go.Proofs.Ytkghejleififiaa
