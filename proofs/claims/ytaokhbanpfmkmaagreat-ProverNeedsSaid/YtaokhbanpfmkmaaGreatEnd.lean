/- ProverNeeds returns true for every number and every raw polynomial (its terms nil too), and writes nothing that was there: no condition. -/
import Derived.Test.YtaokhbanpfmkmaaGreatMain
import Derived.Test.YtaokhbanpfmkmaaGreatKg
namespace Go.Proofs.YtaokhbanpfmkmaaGreat
set_option linter.unusedVariables false

theorem proverNeeds_holds : Rows.ProverNeedsSaid :=
  OpenClaim.holds_of_wide 3 Tryz.f3 rfl rfl rfl rfl rfl rfl rfl ⟨rfl, rfl, rfl, rfl, rfl⟩ rfl rfl rfl rfl rfl (by kernel_rfl) Tryz.func3 closed
    (of_decide_eq_true (by kernel_rfl)) (by unfold Func.isWrapper; first | (rw [if_pos (by decide +kernel)]; kernel_rfl) | (rw [if_neg (by decide +kernel)]; exact ⟨rfl, rfl⟩))
    (fun os started H enc _ => lifted os started H enc)

#print axioms proverNeeds_holds
end Go.Proofs.YtaokhbanpfmkmaaGreat
