import Derived.Test.YtbhjhffglcipbaaAsG4
namespace Go.Proofs.Ytbhjhffglcipbaa
open Go Go.Proofs.Ytbhjhffglcipbaa.AS Go.Proofs.Ytbhjhffglcipbaa.HW
set_option maxRecDepth 100000
theorem m_all0 : allM Try.prog maLb 0 = true := by kernel_rfl
theorem m_all1 : allM Try.prog maLb 1 = true := by kernel_rfl
theorem m_all2 : allM Try.prog maLb 2 = true := by kernel_rfl
theorem m_all3 : allM Try.prog maLb 3 = true := by kernel_rfl
theorem m_all4 : allM Try.prog maLb 4 = true := by kernel_rfl
end Go.Proofs.Ytbhjhffglcipbaa
