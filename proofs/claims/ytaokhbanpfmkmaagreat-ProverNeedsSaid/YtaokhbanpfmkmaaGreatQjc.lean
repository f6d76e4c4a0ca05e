/- Runs of Add, by the kernel. -/
import Derived.Test.YtaokhbanpfmkmaaGreatQi
import Derived.KernelRfl
namespace Go.Proofs.YtaokhbanpfmkmaaGreat
set_option linter.unusedVariables false
set_option linter.unusedSimpArgs false
open Ev
theorem b2f_ok : b2 false = true := by kernel_rfl
end Go.Proofs.YtaokhbanpfmkmaaGreat

namespace Go.Proofs.YtaokhbanpfmkmaaGreat
set_option linter.unusedVariables false
set_option linter.unusedSimpArgs false
open Ev
theorem b2t_ok : b2 true = true := by kernel_rfl
end Go.Proofs.YtaokhbanpfmkmaaGreat
