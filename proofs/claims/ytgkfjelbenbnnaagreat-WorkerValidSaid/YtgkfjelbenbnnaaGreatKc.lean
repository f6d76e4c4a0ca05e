/- A closed fact of the row, by the kernel: its cell recurses is what the program forces. -/
import Derived.Test.YtgkfjelbenbnnaaGreatRows
namespace Go.Proofs.YtgkfjelbenbnnaaGreat
theorem kc : (Rows.workerValidRow.recurses == Tryz.prog.recurses 3) = true := by kernel_rfl
end Go.Proofs.YtgkfjelbenbnnaaGreat
