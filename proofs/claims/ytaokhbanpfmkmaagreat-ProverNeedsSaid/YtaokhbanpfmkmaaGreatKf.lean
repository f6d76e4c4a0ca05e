/- A closed fact of the program: its word on how it is entered. -/
import Derived.Test.YtaokhbanpfmkmaaGreatRows
import Derived.JoinedOf
import Derived.KernelRfl
import Derived.Test.YtaokhbanpfmkmaaGreatKd
import Derived.Test.YtaokhbanpfmkmaaGreatKe
namespace Go.Proofs.YtaokhbanpfmkmaaGreat
theorem kh : Tryz.prog.mayEnter = true := by kernel_rfl
theorem laidOut : laidOutB Tryz.prog = true := by
  unfold laidOutB
  rw [lo0, lo1, lo2]; rfl
end Go.Proofs.YtaokhbanpfmkmaaGreat
