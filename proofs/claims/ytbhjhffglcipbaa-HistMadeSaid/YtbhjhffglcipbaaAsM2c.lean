import Derived.Test.YtbhjhffglcipbaaAsG4
namespace Go.Proofs.Ytbhjhffglcipbaa
open Go Go.Proofs.Ytbhjhffglcipbaa.AS Go.Proofs.Ytbhjhffglcipbaa.HW
set_option maxRecDepth 100000
theorem m_all7 : allM Try.prog maLb 7 = true := by kernel_rfl
theorem m_all8 : allM Try.prog maLb 8 = true := by kernel_rfl
end Go.Proofs.Ytbhjhffglcipbaa
