/- Runs of Add, by the kernel. -/
import Derived.Test.YtaokhbanpfmkmaaGreatQi
import Derived.KernelRfl
namespace Go.Proofs.YtaokhbanpfmkmaaGreat
set_option linter.unusedVariables false
set_option linter.unusedSimpArgs false
open Ev
theorem c2f2 : c2 false ps2 = true := by kernel_rfl
end Go.Proofs.YtaokhbanpfmkmaaGreat
