/- Sums of small numbers, by runs. -/
import Derived.Test.YtaokhbanpfmkmaaGreatQa
import Derived.KernelRfl
namespace Go.Proofs.YtaokhbanpfmkmaaGreat
set_option linter.unusedVariables false
set_option linter.unusedSimpArgs false
open Ev
theorem add_all : addAll (pm 6) (pm 3) = true := by kernel_rfl
end Go.Proofs.YtaokhbanpfmkmaaGreat
