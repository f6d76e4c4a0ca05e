/- A closed fact of the row, by the kernel: its cell named is what the program forces. -/
import Derived.Test.YtgkfjelbenbnnaaGreatRows
namespace Go.Proofs.YtgkfjelbenbnnaaGreat
theorem kd : (Rows.workerValidRow.named == Tryz.prog.varsNamed 3) = true := by kernel_rfl
end Go.Proofs.YtgkfjelbenbnnaaGreat
