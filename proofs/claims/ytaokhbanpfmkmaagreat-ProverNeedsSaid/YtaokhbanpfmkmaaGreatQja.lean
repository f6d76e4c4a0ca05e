/- Runs of Add, by the kernel. -/
import Derived.Test.YtaokhbanpfmkmaaGreatQi
import Derived.KernelRfl
namespace Go.Proofs.YtaokhbanpfmkmaaGreat
set_option linter.unusedVariables false
set_option linter.unusedSimpArgs false
open Ev
theorem a0_ok : a0 = true := by kernel_rfl
theorem a1_ok : a1 = true := by kernel_rfl
theorem a2_ok : a2 = true := by kernel_rfl
theorem b0_ok : b0 = true := by kernel_rfl
theorem b1_ok : b1 = true := by kernel_rfl
theorem b1_ok' : b1' = true := by kernel_rfl
end Go.Proofs.YtaokhbanpfmkmaaGreat
