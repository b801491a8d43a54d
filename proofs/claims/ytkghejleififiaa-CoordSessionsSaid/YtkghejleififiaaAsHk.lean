import Derived.Test.YtkghejleififiaaAsHd
import Derived.Test.YtkghejleififiaaAsE
namespace Go.Proofs.Ytkghejleififiaa
open Go Go.Proofs.Ytkghejleififiaa.AS Go.Proofs.Ytkghejleififiaa.CS
set_option maxRecDepth 100000
noncomputable def lawC : List Code := flatC (Try.f3.body.getD .skip)
noncomputable def bodyC : Code := match lawC[7]? with | some (Code.block _ (Code.loop b)) => b | _ => .skip
noncomputable def lbC : List Code := flatC bodyC
noncomputable def inC : Code := match lbC[2]? with | some (Code.block _ b) => b | _ => .skip
noncomputable def innerC : List Code := flatC inC
noncomputable def code1 : List Code := (innerC.drop 2).take 7
noncomputable def code2 : List Code := innerC.drop 9 ++ lbC.drop 3
end Go.Proofs.Ytkghejleififiaa
