import Derived.Test.YtkghejleififiaaAsOrc
import Derived.Test.YtkghejleififiaaProg
import Derived.KernelRfl
namespace Go.Proofs.Ytkghejleififiaa
open Go Go.Proofs.Ytkghejleififiaa.AS Go.RowKit
set_option maxRecDepth 100000
theorem mixed : Try.prog.follows .mixedOrders = true := by kernel_rfl
theorem awake_yes : @yes mute Try.prog (fun _ => none) 3000 4 = true := by kernel_rfl
/-- awake() is true, in every world; what was there stays -/
theorem awake_calls (w : World) : Calls Try.prog 4 #[] w fun e w' => e = .returned (.bool true) ∧ Below w.heap.size w w' :=
  @closed_yes0 plainSym mute Try.prog (mute_ok plainSym) mixed 3000 4 awake_yes w
end Go.Proofs.Ytkghejleififiaa
