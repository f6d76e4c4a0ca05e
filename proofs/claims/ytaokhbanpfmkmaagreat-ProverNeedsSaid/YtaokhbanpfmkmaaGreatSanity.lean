/- The function 'sanity' of the law answers true and leaves what lies in memory as it was. -/
import Derived.Test.YtaokhbanpfmkmaaGreatS1
import Derived.Test.YtaokhbanpfmkmaaGreatS2
import Derived.Test.YtaokhbanpfmkmaaGreatS3
import Derived.Test.YtaokhbanpfmkmaaGreatS4
import Derived.Test.YtaokhbanpfmkmaaGreatS5
import Derived.Test.YtaokhbanpfmkmaaGreatS6
import Derived.KernelRfl
namespace Go.Proofs.YtaokhbanpfmkmaaGreat
set_option linter.unusedVariables false
noncomputable def mtab : Ev.Tab := Ev.tabLit 1298079166393864048653723947237376 [kent1, kent2, kent3, kent4, kent5, kent6] ktab
theorem mtab_ok : Ev.TabOk Tryz.prog mtab := Ev.tabLit_ok (Ev.litsCons (Ev.runE_ok mixed ktabE7_ok) kent1_eq (Ev.litsCons (Ev.runE_ok mixed ktabE8_ok) kent2_eq (Ev.litsCons (Ev.runE_ok mixed ktabE7_ok) kent3_eq (Ev.litsCons (Ev.runE_ok mixed ktabE8_ok) kent4_eq (Ev.litsCons (Ev.runE_ok mixed ktabE7_ok) kent5_eq (Ev.litsCons (Ev.runE_ok mixed ktabE7_ok) kent6_eq (Ev.litsNil))))))) ktab_ok
theorem sanity_run : Ev.saysTrue ((Ev.ev Tryz.prog mtab 100000).call 4 [] Ev.hp0) = true := by kernel_rfl

theorem sanity_calls (w : World) : Calls Tryz.prog 4 #[] w fun e w' => e = .returned (.bool true) ∧ (∀ b, b < w.heap.size → w'.heap[b]? = w.heap[b]?) ∧ w.heap.size ≤ w'.heap.size ∧ w'.os = w.os ∧ w'.tape = w.tape ∧ w'.output = w.output :=
  Ev.true_of_ev mixed mtab_ok (by rfl) sanity_run w
end Go.Proofs.YtaokhbanpfmkmaaGreat
