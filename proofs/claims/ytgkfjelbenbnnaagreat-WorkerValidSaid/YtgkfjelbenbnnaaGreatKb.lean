/- A closed fact of the row, by the kernel: its cell unfollowed is what the program forces. -/
import Derived.Test.YtgkfjelbenbnnaaGreatRows
namespace Go.Proofs.YtgkfjelbenbnnaaGreat
theorem kb : (Rows.workerValidRow.unfollowed == Tryz.prog.unfollowed 3) = true := by kernel_rfl
end Go.Proofs.YtgkfjelbenbnnaaGreat
