import Derived.Test.YtbhjhffglcipbaaAsZ1
namespace Go.Proofs.Ytbhjhffglcipbaa
open Go Go.Proofs.Ytbhjhffglcipbaa.AS Go.Proofs.Ytbhjhffglcipbaa.HW
set_option maxRecDepth 100000
theorem z_all7 : allC Try.prog hmLb2 7 = true := by kernel_rfl
theorem z_all8 : allC Try.prog hmLb2 8 = true := by kernel_rfl
end Go.Proofs.Ytbhjhffglcipbaa
