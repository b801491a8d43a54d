import Derived.Test.YtbhjhffglcipbaaAsZ1
namespace Go.Proofs.Ytbhjhffglcipbaa
open Go Go.Proofs.Ytbhjhffglcipbaa.AS Go.Proofs.Ytbhjhffglcipbaa.HW
set_option maxRecDepth 100000
theorem z_all0 : allC Try.prog hmLb2 0 = true := by kernel_rfl
theorem z_all1 : allC Try.prog hmLb2 1 = true := by kernel_rfl
theorem z_all2 : allC Try.prog hmLb2 2 = true := by kernel_rfl
theorem z_all3 : allC Try.prog hmLb2 3 = true := by kernel_rfl
theorem z_all4 : allC Try.prog hmLb2 4 = true := by kernel_rfl
theorem z_all5 : allC Try.prog hmLb2 5 = true := by kernel_rfl
theorem z_all6 : allC Try.prog hmLb2 6 = true := by kernel_rfl
end Go.Proofs.Ytbhjhffglcipbaa
