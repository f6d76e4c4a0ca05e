/- The function 'sanity' of the law answers true and leaves what lies in memory as it was. -/
import Derived.Test.YtgkfjelbenbnnaaGreatChecked
import Derived.Test.YtgkfjelbenbnnaaGreatEvU
import Derived.KernelRfl
namespace Go.Proofs.YtgkfjelbenbnnaaGreat

theorem sanity_run : Ev.saysTrue ((Ev.ev Tryz.prog 100000).call 4 [] Ev.hp0) = true := by kernel_rfl
theorem mixed : Tryz.prog.follows .mixedOrders = true := by kernel_rfl

theorem sanity_calls (w : World) : Calls Tryz.prog 4 #[] w fun e w' => e = .returned (.bool true) ∧ (∀ b, b < w.heap.size → w'.heap[b]? = w.heap[b]?) ∧ w.heap.size ≤ w'.heap.size ∧ w'.os = w.os ∧ w'.tape = w.tape ∧ w'.output = w.output :=
  Ev.true_of_ev mixed sanity_run w

end Go.Proofs.YtgkfjelbenbnnaaGreat
