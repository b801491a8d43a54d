import Derived.Test.YtbhjhffglcipbaaAsG4
namespace Go.Proofs.Ytbhjhffglcipbaa
open Go Go.Proofs.Ytbhjhffglcipbaa.AS Go.Proofs.Ytbhjhffglcipbaa.HW
set_option maxRecDepth 100000
theorem m_all5 : allM Try.prog maLb 5 = true := by kernel_rfl
theorem m_all6 : allM Try.prog maLb 6 = true := by kernel_rfl
end Go.Proofs.Ytbhjhffglcipbaa
