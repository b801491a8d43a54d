import Derived.Test.YtbhjhffglcipbaaAsW2
namespace Go.Proofs.Ytbhjhffglcipbaa
open Go Go.Proofs.Ytbhjhffglcipbaa.AS Go.Proofs.Ytbhjhffglcipbaa.HW
set_option maxRecDepth 100000
theorem y_take : ((List.range 10).all fun k => takeY Try.prog keLb k) = true := by kernel_rfl
end Go.Proofs.Ytbhjhffglcipbaa
