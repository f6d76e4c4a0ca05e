/- Closed facts of the row: no library function of the program is one at which it stops. -/
import Derived.Test.YtaokhbanpfmkmaaGreatRows
import Derived.JoinedOf
import Derived.KernelRfl
namespace Go.Proofs.YtaokhbanpfmkmaaGreat
set_option linter.unusedVariables false
set_option linter.unusedSimpArgs false

theorem stops_nil : Tryz.prog.stops = [] := by kernel_rfl
theorem row_none {P : Program} (h : P.stops = []) : ∀ fn ∈ P.funcs.toList, Stop.rowOf fn = none := by
  intro fn hfn
  cases hr : Stop.rowOf fn with
  | none => rfl
  | some r =>
    have : r.name ∈ P.stops := by
      unfold Program.stops
      rw [List.mem_eraseDups]
      exact List.mem_filterMap.2 ⟨fn, hfn, by rw [hr]; rfl⟩
    rw [h] at this; cases this
theorem knobs_nil {P : Program} (h : P.stops = []) : P.stopKnobs = [] := by
  unfold Program.stopKnobs
  have : P.funcs.toList.filterMap Stop.rowOf = [] := List.filterMap_eq_nil_iff.2 (row_none h)
  rw [this]; rfl
theorem heard {P : Program} (h : P.stops = []) : P.stopsHeard = true := by
  unfold Program.stopsHeard
  rw [Array.all_eq_true_iff_forall_mem]
  intro fn hfn
  rw [row_none h fn (Array.mem_toList_iff.2 hfn)]; rfl
theorem ke : (Tryz.prog.stops == []) = true := by rw [stops_nil]; rfl
theorem kf : (Tryz.prog.stopKnobs == []) = true := by rw [knobs_nil stops_nil]; rfl
theorem kg : Tryz.prog.stopsHeard = true := heard stops_nil
theorem lo1 : Tryz.prog.globals.all (fun g => decide (g.type < Tryz.prog.types.size)) = true := by kernel_rfl
theorem lo2 : Tryz.prog.funcs.all (fun f => f.params.all fun t => decide (t < Tryz.prog.types.size)) = true := by kernel_rfl
end Go.Proofs.YtaokhbanpfmkmaaGreat
