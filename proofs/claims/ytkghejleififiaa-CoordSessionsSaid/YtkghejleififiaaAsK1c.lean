import Derived.Test.YtkghejleififiaaAsHk
namespace Go.Proofs.Ytkghejleififiaa
open Go Go.Proofs.Ytkghejleififiaa.AS Go.Proofs.Ytkghejleififiaa.CS
set_option maxRecDepth 100000
theorem p1_43 : all1 Try.prog code1 4 3 = true := by kernel_rfl
end Go.Proofs.Ytkghejleififiaa
