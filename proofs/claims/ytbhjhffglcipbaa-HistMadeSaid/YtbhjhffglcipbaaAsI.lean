import Derived.Test.YtbhjhffglcipbaaAsName
import Derived.Test.YtbhjhffglcipbaaProg
import Derived.KernelRfl
namespace Go.Proofs.Ytbhjhffglcipbaa
open Go Go.Proofs.Ytbhjhffglcipbaa.AS Go.RowKit
set_option maxRecDepth 100000
theorem mixed26 : Try.prog.follows .mixedOrders = true := by kernel_rfl
theorem awake26_run : (match @AS.callT Try.prog (fun _ => none) (@AS.runT mute Try.prog (fun _ => none) 3000 none) 12 [] (AS.start Try.prog) with | some (.bool true, _) => true | _ => false) = true := by kernel_rfl
end Go.Proofs.Ytbhjhffglcipbaa
