/- A closed fact of the program: its types' rows. -/
import Derived.Test.YtaokhbanpfmkmaaGreatRows
import Derived.JoinedOf
import Derived.KernelRfl
namespace Go.Proofs.YtaokhbanpfmkmaaGreat
theorem lo0 : (List.range Tryz.prog.types.size).all (rowFine Tryz.prog) = true := by kernel_rfl
end Go.Proofs.YtaokhbanpfmkmaaGreat
