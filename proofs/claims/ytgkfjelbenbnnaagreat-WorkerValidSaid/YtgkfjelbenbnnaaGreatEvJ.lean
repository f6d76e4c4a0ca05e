import Derived.Test.YtgkfjelbenbnnaaGreatEvI
namespace Go.Ev
set_option linter.unusedVariables false
set_option linter.unusedSimpArgs false
variable {U : Ids}

/-! Length, clear, conversions, operators. -/

section
variable {P : Program} {lo : Nat} {μ : Mu} {h : Hp} {w : World}

theorem run_getMap {r : Nat} {es : Array MapEntry} {c : Nat} (hb : w.heap[r]? = some (.map es c)) : (getObj r).run P w = .ok (.map es c) w := by
  simp [getObj, Sem.run, hb]
theorem run_setMap {r : Nat} {es : Array MapEntry} {c : Nat} (o : Obj) (hb : w.heap[r]? = some (.map es c)) : (setObj r o).run P w = .ok () { w with heap := w.heap.setIfInBounds r o } := by
  simp [setObj, Sem.run, hb]
theorem run_getIter {r : Nat} {m : Option Nat} {a : Nat} {b : Array Nat} {c : Nat} (hb : w.heap[r]? = some (.mapIter m a b c)) : (getObj r).run P w = .ok (.mapIter m a b c) w := by
  simp [getObj, Sem.run, hb]
theorem run_setIter {r : Nat} {m : Option Nat} {a : Nat} {b : Array Nat} {c : Nat} (o : Obj) (hb : w.heap[r]? = some (.mapIter m a b c)) : (setObj r o).run P w = .ok () { w with heap := w.heap.setIfInBounds r o } := by
  simp [setObj, Sem.run, hb]

theorem nilChk_ok {x r : Value} (hx : Stable (Vis U h) x) (he : nilChk x = some r) : r = x ∧ ((∃ a, ren μ x = .pointer (some a)) ∨ ∃ g a b, ren μ x = .func (.func g) a b) := by
  unfold nilChk at he
  split at he <;> cases he
  · exact ⟨rfl, .inl ⟨_, ren_ptrA μ _⟩⟩
  · rename_i g a b
    obtain ⟨a⟩ := a; obtain ⟨b⟩ := b
    exact ⟨rfl, .inr ⟨_, _, _, ren_func μ _ _ _⟩⟩

theorem isSliceD_some {d : TypeDesc} (hd : isSliceD d = true) : ∃ e, d = .slice e := by
  cases d <;> simp [isSliceD] at hd
  exact ⟨_, rfl⟩

theorem map_at {r : Nat} {es : List MapEntry} {c : Nat} (s : Sat P lo μ h.look w) (hr : ob (h.look r) mapOf = some (es, c)) :
    h.look r = some (.map es c) ∧ w.heap[(μ r).blk]? = some (.map (es.map (renE μ)).toArray c) := by
  obtain ⟨b, h1, h2⟩ := ob_eq_some.1 hr
  cases b with
  | row => simp [mapOf] at h2
  | iter => simp [mapOf] at h2
  | map es' c' =>
    simp only [mapOf, Option.some.injEq, Prod.mk.injEq] at h2
    obtain ⟨rfl, rfl⟩ := h2
    exact ⟨h1, s.blk _ _ h1⟩

theorem len_ok {argTypes : Array TypeId} {ty t : TypeId} {d : TypeDesc} {x r : Value} (s : Sat P lo μ h.look w) (ht : argTypes[0]? = some t) (hd : P.underlying t = some d) (he : evLenD h d x = some r) (rest : List Value) :
    (Builtin.len_ argTypes ty ⟨ren μ x :: rest⟩).run P w = .ok (ren μ r) w ∧ Stable (Vis U h) r := by
  unfold evLenD at he
  unfold Builtin.len_
  simp only [ht, List.getElem?_toArray, List.getElem?_cons_zero, Sem.run_bind, run_underlying hd, Result.andThen_ok]
  rw [ite'_eq] at he
  by_cases hs : isSliceD d = true
  · rw [if_pos hs] at he
    obtain ⟨e, rfl⟩ := isSliceD_some hs
    obtain ⟨y, h1, h2⟩ := om_eq_some.1 he
    obtain ⟨b, n, c⟩ := y
    rw [sliceOf_some] at h1
    simp only at h1
    subst h1 h2
    refine ⟨?_, stable_closed rfl⟩
    cases b <;> simp [goInt, lenSl, intV]
  · rw [if_neg hs] at he
    unfold lenRest at he
    split at he
    · cases he
      refine ⟨?_, stable_closed rfl⟩
      simp [goInt, intV]
    · rename_i r'
      obtain ⟨ec, h1, h2⟩ := om_eq_some.1 he
      obtain ⟨es, c⟩ := ec
      subst h2
      refine ⟨?_, stable_closed rfl⟩
      obtain ⟨_, h3⟩ := map_at s h1
      simp [run_getMap h3, goInt, intV]
    · cases he
      refine ⟨?_, stable_closed rfl⟩
      simp [goInt, intV]
    · cases he
      refine ⟨?_, stable_closed rfl⟩
      simp [goInt, intV]
    · cases he

theorem clear_ok {argTypes : Array TypeId} {ty t : TypeId} {d : TypeDesc} {x : Value} {h' : Hp} (ok : HpOk U h) (s : Sat P lo μ h.look w) (ht : argTypes[0]? = some t) (hd : P.underlying t = some d) (hx : Stable (Vis U h) x)
    (he : evClearD P h d x = some h') (rest : List Value) :
    ∃ w', (Builtin.clear_ argTypes ty ⟨ren μ x :: rest⟩).run P w = .ok undef w' ∧ Go2 P U lo μ μ h h' w w' := by
  unfold evClearD at he
  unfold Builtin.clear_
  simp only [ht, List.getElem?_toArray, List.getElem?_cons_zero, Sem.run_bind, run_underlying hd, Result.andThen_ok]
  split at he
  · rename_i e b n c
    rw [ite'_eq] at he
    by_cases hn : n = 0
    · subst hn
      rw [if_pos (beq_eq.2 rfl)] at he
      cases he
      refine ⟨w, ?_, .refl ok s⟩
      cases b <;> simp [undef]
    · rw [if_neg (by rw [beq_eq]; exact hn)] at he
      obtain ⟨a, h1, h2⟩ := ob_eq_some.1 he
      subst h1
      obtain ⟨z, h3, h4⟩ := ob_eq_some.1 h2
      obtain ⟨zv, h5, h6, h7, h8⟩ := run_zeroCells h3 w
      obtain ⟨w', h9, h10⟩ := wr_ok ok s h4 (fun v hv => by
        have := rep_stable h7 n v hv
        cases v <;> first | rfl | simp [closed] at this) (fun v hv => stable_closed (rep_stable h7 n v hv))
      refine ⟨w', ?_, h10⟩
      rw [rep_ren h7] at h9
      have hz : (Builtin.zeroCells zv.cells n).toList = rep z n := by
        unfold Builtin.zeroCells
        rw [← h6]
        exact zero_range rfl
      obtain ⟨m, rfl⟩ : ∃ m, n = m + 1 := ⟨n - 1, by omega⟩
      rw [ren_slice1]
      simp [h5, hz, h9, undef]
  · cases he

end
end Go.Ev
