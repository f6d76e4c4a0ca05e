/- Closed facts of the row: what the program forces, from the one list of what is come to. -/
import Derived.Test.YtaokhbanpfmkmaaGreatKa
import Derived.JoinedOf
namespace Go.Proofs.YtaokhbanpfmkmaaGreat
set_option linter.unusedVariables false
set_option linter.unusedSimpArgs false

theorem ka : (Rows.proverNeedsRow.inPlace == Tryz.prog.inPlace 3) = true := by
  unfold Program.inPlace
  rw [cl_ok]
  kernel_rfl
theorem unf : Tryz.prog.unfollowed 3 = true := by
  unfold Program.unfollowed
  rw [cl_ok]
  kernel_rfl
theorem kb : (Rows.proverNeedsRow.unfollowed == Tryz.prog.unfollowed 3) = true := by rw [unf]; rfl
theorem kc : (Rows.proverNeedsRow.recurses == Tryz.prog.recurses 3) = true := by
  unfold Program.recurses
  rw [unf]; rfl
theorem kd : (Rows.proverNeedsRow.named == Tryz.prog.varsNamed 3) = true := by
  unfold Program.varsNamed
  rw [cl_ok]
  kernel_rfl
end Go.Proofs.YtaokhbanpfmkmaaGreat
