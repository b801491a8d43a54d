import Derived.Test.YtkghejleififiaaAsHk
namespace Go.Proofs.Ytkghejleififiaa
open Go Go.Proofs.Ytkghejleififiaa.AS Go.Proofs.Ytkghejleififiaa.CS
set_option maxRecDepth 100000
theorem sS : phaseS Try.prog (lawC.take 7) = true := by kernel_rfl
theorem sL : phaseL Try.prog Try.f3 (lawC.take 2) (lawC.getD 2 .skip) = true := by kernel_rfl
theorem sH00t : phaseH Try.prog (.seq (lbC.getD 0 .skip) (lbC.getD 1 .skip)) 0 0 true = true := by kernel_rfl
theorem sH00f : phaseH Try.prog (.seq (lbC.getD 0 .skip) (lbC.getD 1 .skip)) 0 0 false = true := by kernel_rfl
theorem sE00 : phaseE Try.prog Try.f3 [lawC.getD 8 .skip] 0 0 = true := by kernel_rfl
theorem sH40t : phaseH Try.prog (.seq (lbC.getD 0 .skip) (lbC.getD 1 .skip)) 4 0 true = true := by kernel_rfl
theorem sH40f : phaseH Try.prog (.seq (lbC.getD 0 .skip) (lbC.getD 1 .skip)) 4 0 false = true := by kernel_rfl
theorem sE40 : phaseE Try.prog Try.f3 [lawC.getD 8 .skip] 4 0 = true := by kernel_rfl
theorem sH41t : phaseH Try.prog (.seq (lbC.getD 0 .skip) (lbC.getD 1 .skip)) 4 1 true = true := by kernel_rfl
theorem sH41f : phaseH Try.prog (.seq (lbC.getD 0 .skip) (lbC.getD 1 .skip)) 4 1 false = true := by kernel_rfl
theorem sE41 : phaseE Try.prog Try.f3 [lawC.getD 8 .skip] 4 1 = true := by kernel_rfl
theorem sH42t : phaseH Try.prog (.seq (lbC.getD 0 .skip) (lbC.getD 1 .skip)) 4 2 true = true := by kernel_rfl
theorem sH42f : phaseH Try.prog (.seq (lbC.getD 0 .skip) (lbC.getD 1 .skip)) 4 2 false = true := by kernel_rfl
theorem sE42 : phaseE Try.prog Try.f3 [lawC.getD 8 .skip] 4 2 = true := by kernel_rfl
theorem sH43t : phaseH Try.prog (.seq (lbC.getD 0 .skip) (lbC.getD 1 .skip)) 4 3 true = true := by kernel_rfl
theorem sH43f : phaseH Try.prog (.seq (lbC.getD 0 .skip) (lbC.getD 1 .skip)) 4 3 false = true := by kernel_rfl
theorem sE43 : phaseE Try.prog Try.f3 [lawC.getD 8 .skip] 4 3 = true := by kernel_rfl
end Go.Proofs.Ytkghejleififiaa
