/- No function of the program bears the name runtime.NumGoroutine. -/
import Derived.Test.YtaokhbanpfmkmaaGreatProg
import Derived.Test.YtaokhbanpfmkmaaGreatEvZc
import Derived.KernelRfl
namespace Go.Proofs.YtaokhbanpfmkmaaGreat
set_option linter.unusedVariables false
theorem ngx : Ev.NG Tryz.prog := Ev.NG.of (by kernel_rfl)
instance : Ev.NG Tryz.prog := ngx
theorem mixed : Tryz.prog.follows .mixedOrders = true := by kernel_rfl
end Go.Proofs.YtaokhbanpfmkmaaGreat
