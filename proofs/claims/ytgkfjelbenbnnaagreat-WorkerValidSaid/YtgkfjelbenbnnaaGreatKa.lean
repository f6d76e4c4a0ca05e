/- A closed fact of the row, by the kernel: its cell inPlace is what the program forces. -/
import Derived.Test.YtgkfjelbenbnnaaGreatRows
namespace Go.Proofs.YtgkfjelbenbnnaaGreat
theorem ka : (Rows.workerValidRow.inPlace == Tryz.prog.inPlace 3) = true := by kernel_rfl
end Go.Proofs.YtgkfjelbenbnnaaGreat
