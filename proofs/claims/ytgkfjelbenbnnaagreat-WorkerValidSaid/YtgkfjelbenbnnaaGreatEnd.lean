/- WorkerValid returns true for every slice of leases (nil too) and every number, and writes nothing that was there: no condition. -/
import Derived.Test.YtgkfjelbenbnnaaGreatMain
import Derived.Test.YtgkfjelbenbnnaaGreatKa
import Derived.Test.YtgkfjelbenbnnaaGreatKb
import Derived.Test.YtgkfjelbenbnnaaGreatKc
import Derived.Test.YtgkfjelbenbnnaaGreatKd
namespace Go.Proofs.YtgkfjelbenbnnaaGreat
set_option linter.unusedVariables false

theorem closed : joinedFacts Tryz.prog 3 Tryz.f3 Rows.workerValidSpec Rows.workerValidRow = true := by
  unfold joinedFacts
  rw [ka, kb, kc, kd]
  kernel_rfl

theorem workerValid_holds : Rows.WorkerValidSaid :=
  OpenClaim.holds_of_wide 3 Tryz.f3 rfl rfl rfl rfl rfl rfl rfl ⟨rfl, rfl, rfl, rfl, rfl⟩ rfl rfl rfl rfl rfl (by kernel_rfl) Tryz.func3 closed
    (of_decide_eq_true (by kernel_rfl)) (by unfold Func.isWrapper; first | (rw [if_pos (by decide +kernel)]; kernel_rfl) | (rw [if_neg (by decide +kernel)]; exact ⟨rfl, rfl⟩))
    (fun os started H enc _ => lifted os started H enc)

#print axioms workerValid_holds
end Go.Proofs.YtgkfjelbenbnnaaGreat
