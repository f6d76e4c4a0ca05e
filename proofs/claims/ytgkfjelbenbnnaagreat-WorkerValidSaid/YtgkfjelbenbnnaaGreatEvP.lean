import Derived.Test.YtgkfjelbenbnnaaGreatEvO
namespace Go.Ev
set_option linter.unusedVariables false
set_option linter.unusedSimpArgs false

/-! A region whose order is open: the evaluator's trace. -/

structure Entry (P : Program) (call : CallK) (ops : Array Oper) (F : Nat → Fr) (H Hh H' : Nat → Hp) (R : Nat → Rec) (i : Nat) : Prop where
  op : ∃ o, ops[i]? = some o ∧ hidFor (kindOf (F i) o.op) (H i).next (rangesOf ((incAt (allBits ops.toList []) i).map R) (H i).hid) = some (Hh i).hid ∧
    evOne P call ops o (F i) (Hh i) = .ok .normal (F (i + 1)) (H' i) ∧ R i = ⟨(H i).next, (H' i).next, Nat.ble (H i).next (H' i).mw, (kindOf (F i) o.op).1, (kindOf (F i) o.op).2⟩
  hh : Hh i = ⟨(H i).m, (H i).next, BIG, (Hh i).hid⟩
  nx : H (i + 1) = ⟨(H' i).m, (H' i).next, ite' (Nat.ble (H i).next (H' i).mw) (H i).mw (minN (H i).mw (H' i).mw), (H i).hid⟩
  cp : ∀ j ∈ incAt (allBits ops.toList []) i, compat (R j) (R i) = true

theorem Entry.congr {P : Program} {call : CallK} {ops : Array Oper} {F F2 : Nat → Fr} {H Hh H' H2 Hh2 H'2 : Nat → Hp} {R : Nat → Rec} {i : Nat} (e : Entry P call ops F H Hh H' R i)
    (h1 : F2 i = F i) (h2 : F2 (i + 1) = F (i + 1)) (h3 : H2 i = H i) (h4 : H2 (i + 1) = H (i + 1)) (h5 : Hh2 i = Hh i) (h6 : H'2 i = H' i) : Entry P call ops F2 H2 Hh2 H'2 R i :=
  ⟨by rw [h1, h2, h3, h5, h6]; exact e.op, by rw [h3, h5]; exact e.hh, by rw [h3, h4, h6]; exact e.nx, e.cp⟩

theorem recsOf_eq {recs : List Rec} {R : Nat → Rec} (hr : ∀ i r, recs[i]? = some r → R i = r) : ∀ (js : List Nat), (∀ j ∈ js, j < recs.length) → recsOf recs js = js.map R := by
  intro js
  induction js with
  | nil => intro _; rfl
  | cons j js ih =>
    intro hj
    show consO (nth recs j) (recsOf recs js) = _
    rw [ih fun x hx => hj x (.tail _ hx), nth_eq]
    have hl := hj j (.head _)
    rw [List.getElem?_eq_getElem hl, List.map_cons, hr j _ (List.getElem?_eq_getElem hl)]
    rfl

theorem trace_of {P : Program} {call : CallK} {ops : Array Oper} : ∀ (l : List Oper) (k : Nat) (recs : List Rec) (f : Fr) (h : Hp) (e : Ex) (f' : Fr) (h' : Hp),
    evDraw P call ops l ((incs ops).drop k) recs f h = .ok e f' h' → ops.toList.drop k = l → recs.length = k →
    e = .normal ∧ ∃ (F : Nat → Fr) (H Hh H' : Nat → Hp) (R : Nat → Rec), F k = f ∧ H k = h ∧ F (k + l.length) = f' ∧ H (k + l.length) = h' ∧ (∀ i r, recs[i]? = some r → R i = r) ∧
      ∀ i, k ≤ i → i < k + l.length → Entry P call ops F H Hh H' R i := by
  intro l
  induction l with
  | nil =>
    intro k recs f h e f' h' he _ _
    cases he
    exact ⟨rfl, fun _ => f, fun _ => h, fun _ => h, fun _ => h, fun i => (recs[i]?).getD ⟨0, 0, true, 0, 0⟩, rfl, rfl, rfl, rfl, fun i r hi => by simp [hi], fun i h1 h2 => by simp at h2; omega⟩
  | cons o l ih =>
    intro k recs f h e f' h' he hl hk
    obtain ⟨m, next, mw, hid⟩ := h
    have ho : ops[k]? = some o := by
      have : (ops.toList.drop k)[0]? = some o := by rw [hl]; rfl
      rw [List.getElem?_drop] at this
      simpa using this
    have hkn : k < ops.size := by
      rcases Nat.lt_or_ge k ops.size with h | h
      · exact h
      · rw [Array.getElem?_eq_none h] at ho; cases ho
    have hl' : ops.toList.drop (k + 1) = l := by
      rw [← List.drop_drop, hl]; rfl
    have hinc : (incs ops).drop k = incAt (allBits ops.toList []) k :: (incs ops).drop (k + 1) := by
      have hlen : k < (incs ops).length := by unfold incs; simpa using hkn
      have hget : (incs ops)[k]? = some (incAt (allBits ops.toList []) k) := by
        unfold incs
        rw [List.getElem?_map, List.getElem?_range hkn]; rfl
      rw [List.drop_eq_getElem_cons hlen]
      congr 1
      exact Option.some.inj (by rw [← List.getElem?_eq_getElem hlen, hget])
    replace he : Option.rec (motive := fun _ => Res) .fail (fun hid' => onlyNormal (evOne P call ops o f ⟨m, next, BIG, hid'⟩)
        (drawNext (recsOf recs (headL ((incs ops).drop k))) next mw hid (kindOf f o.op) recs (evDraw P call ops l (List.tail ((incs ops).drop k)))))
        (hidFor (kindOf f o.op) next (rangesOf (recsOf recs (headL ((incs ops).drop k))) hid)) = .ok e f' h' := he
    rw [hinc] at he
    simp only [headL, List.tail_cons] at he
    cases hh : hidFor (kindOf f o.op) next (rangesOf (recsOf recs (incAt (allBits ops.toList []) k)) hid) with
    | none => rw [hh] at he; cases he
    | some hid' =>
      rw [hh] at he
      simp only at he
      cases hr : evOne P call ops o f ⟨m, next, BIG, hid'⟩ with
      | fail => rw [hr] at he; cases he
      | ok e1 f1 h1 =>
        rw [hr] at he
        cases e1 with
        | exit => cases he
        | ret => cases he
        | panic => cases he
        | normal =>
          obtain ⟨m1, next1, mw1, hid1⟩ := h1
          replace he : ite' (allL (fun a => compat a ⟨next, next1, Nat.ble next mw1, (kindOf f o.op).1, (kindOf f o.op).2⟩) (recsOf recs (incAt (allBits ops.toList []) k)))
            (evDraw P call ops l ((incs ops).drop (k + 1)) (appL recs [⟨next, next1, Nat.ble next mw1, (kindOf f o.op).1, (kindOf f o.op).2⟩]) f1
              ⟨m1, next1, ite' (Nat.ble next mw1) mw (minN mw mw1), hid⟩) .fail = .ok e f' h' := he
          rw [ite'_eq] at he
          split at he
          · rename_i hc
            rw [appL_eq] at he
            obtain ⟨h2, F, H, Hh, H', R, h3, h4, h5, h6, h7, h8⟩ := ih (k + 1) _ f1 _ e f' h' he hl' (by simp [hk])
            have hRk : R k = ⟨next, next1, Nat.ble next mw1, (kindOf f o.op).1, (kindOf f o.op).2⟩ := h7 k _ (by rw [← hk]; simp)
            have hRl : ∀ i r, recs[i]? = some r → R i = r := by
              intro i r hi
              refine h7 i r ?_
              have : i < recs.length := by
                rcases Nat.lt_or_ge i recs.length with h | h
                · exact h
                · rw [List.getElem?_eq_none h] at hi; cases hi
              rw [List.getElem?_append_left this]; exact hi
            have hmine : recsOf recs (incAt (allBits ops.toList []) k) = (incAt (allBits ops.toList []) k).map R :=
              recsOf_eq hRl _ fun j hj => by rw [hk]; exact (mem_incAt.1 hj).1
            rw [hmine] at hh hc
            refine ⟨h2, fun i => if i = k then f else F i, fun i => if i = k then ⟨m, next, mw, hid⟩ else H i, fun i => if i = k then ⟨m, next, BIG, hid'⟩ else Hh i, fun i => if i = k then ⟨m1, next1, mw1, hid1⟩ else H' i, R, ?_, ?_, ?_, ?_, hRl, ?_⟩
            · simp
            · simp
            · simp only [List.length_cons]
              rw [if_neg (by omega), ← h5]; congr 1; omega
            · simp only [List.length_cons]
              rw [if_neg (by omega), ← h6]; congr 1; omega
            · intro i h9 h10
              by_cases hik : i = k
              · subst hik
                refine ⟨⟨o, ho, ?_, ?_, ?_⟩, ?_, ?_, ?_⟩
                · simpa using hh
                · simp only [if_true, if_neg (show ¬ i + 1 = i from by omega), h3]; exact hr
                · simp only [if_true]; exact hRk
                · simp
                · simp only [if_true, if_neg (show ¬ i + 1 = i from by omega), h4]
                · intro j hj
                  rw [allL_eq, List.all_eq_true] at hc
                  rw [hRk]
                  exact hc _ (List.mem_map.2 ⟨j, hj, rfl⟩)
              · refine (h8 i (by omega) (by simp only [List.length_cons] at h10; omega)).congr ?_ ?_ ?_ ?_ ?_ ?_
                · exact if_neg hik
                · exact if_neg (by omega)
                · exact if_neg hik
                · exact if_neg (by omega)
                · exact if_neg hik
                · exact if_neg hik
          · cases he

end Go.Ev
