/- The closed facts of the row, together. -/
import Derived.Test.YtaokhbanpfmkmaaGreatKf
import Derived.Test.YtaokhbanpfmkmaaGreatKc
namespace Go.Proofs.YtaokhbanpfmkmaaGreat
theorem closed : joinedFacts Tryz.prog 3 Tryz.f3 Rows.proverNeedsSpec Rows.proverNeedsRow = true := by
  unfold joinedFacts
  rw [ka, kb, kc, kd, ke, kf, kg, kh, laidOut]
  kernel_rfl
end Go.Proofs.YtaokhbanpfmkmaaGreat
