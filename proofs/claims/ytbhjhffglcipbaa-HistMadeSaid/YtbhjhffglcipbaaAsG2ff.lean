import Derived.Test.YtbhjhffglcipbaaAsG1
namespace Go.Proofs.Ytbhjhffglcipbaa
open Go Go.Proofs.Ytbhjhffglcipbaa.AS Go.Proofs.Ytbhjhffglcipbaa.HW
set_option maxRecDepth 100000
theorem h_ff : (bools.all fun h => chk2 Try.prog Try.f18 goLb (goLb.take 2) (goLb.getD 2 .skip) false false h (all2 false false h) factsG) = true := by kernel_rfl
end Go.Proofs.Ytbhjhffglcipbaa
