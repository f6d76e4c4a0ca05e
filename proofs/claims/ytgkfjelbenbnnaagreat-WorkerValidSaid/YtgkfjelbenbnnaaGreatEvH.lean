import Derived.Test.YtgkfjelbenbnnaaGreatEvG
namespace Go.Ev
set_option linter.unusedVariables false
set_option linter.unusedSimpArgs false
variable {U : Ids}
section
variable {P : Program} {lo : Nat} {μ : Mu} {h : Hp} {w : World}

theorem toList_get {c : Array Value} {l : List Value} (h : c.toList = l) (i : Nat) : c[i]? = l[i]? := by rw [← h]; simp

/-- The old cells of a slice that is appended to. -/
theorem run_old {sz len cap n : Nat} {base : Option Addr} {old : List Value} {w : World} (s : Sat P lo μ h.look w) (hn : n = len * sz) (he : baseCells h n base = some old) :
    (Builtin.firstCells sz len (.slice (base.map (renA μ)) len cap)).run P w = .ok ⟨old.map (ren μ)⟩ w := by
  subst hn
  cases base with
  | none =>
    simp only [baseCells] at he
    obtain ⟨_, h2⟩ := ite'_eq_some.1 he
    cases h2; rfl
  | some a =>
    simp only [baseCells] at he
    rw [ite'_eq] at he
    simp only [Option.map_some, Builtin.firstCells]
    split at he
    · rename_i h0
      rw [beq_eq] at h0
      cases he
      rw [h0]; rfl
    · exact run_rd s he

theorem st_old {n : Nat} {base : Option Addr} {old : List Value} (ok : HpOk U h) (he : baseCells h n base = some old) : (∀ v ∈ old, Stable (Vis U h) v) ∧ old.length = n := by
  cases base with
  | none =>
    simp only [baseCells] at he
    obtain ⟨h1, h2⟩ := ite'_eq_some.1 he
    cases h2
    rw [beq_eq] at h1
    exact ⟨(by intro v hv; cases hv), h1.symm⟩
  | some a =>
    simp only [baseCells] at he
    rw [ite'_eq] at he
    split at he
    · rename_i h0
      rw [beq_eq] at h0
      cases he
      exact ⟨(by intro v hv; cases hv), h0.symm⟩
    · obtain ⟨_, _, _, _, h4⟩ := rd_some he
      exact ⟨st_rd ok he, h4⟩

theorem appendV_slice {e : TypeId} {sz : Nat} {x sv : Value} {q : Value × Hp} (he : appendV h e sz x sv = some q) : ∃ base len cap, sv = .slice base len cap := by
  cases sv <;> simp [appendV] at he
  exact ⟨_, _, _, rfl⟩

theorem sat_drawn {k : Nat} (s : Sat P lo μ h.look w) : Sat P lo μ h.look { w with drawn := k } :=
  ⟨s.low, fun id b hl => by have := s.blk id b hl; cases b <;> exact this, s.inj, s.lo⟩

theorem append_ok {argTypes : List TypeId} {ty : TypeId} {sv x r : Value} {h' : Hp} (ok : HpOk U h) (s : Sat P lo μ h.look w) (hlo : lo ≤ w.heap.size) (hs : Stable (Vis U h) sv)
    (he : evAppend P h argTypes sv x = some (r, h')) :
    ∃ μ' w', Go2 P U lo μ μ' h h' w w' ∧ (Builtin.append_ argTypes.toArray ty #[ren μ sv, ren μ x]).run P w = .ok (ren μ' r) w' ∧ Stable (Vis U h') r := by
  unfold evAppend at he
  obtain ⟨t, a1, he⟩ := ob_eq_some.1 he
  obtain ⟨⟨e, sz⟩, a2, he⟩ := ob_eq_some.1 he
  obtain ⟨u, a3, he⟩ := ob_eq_some.1 he
  obtain ⟨d, a4, he⟩ := ob_eq_some.1 he
  obtain ⟨a5, he⟩ := ite'_eq_some.1 he
  obtain ⟨b1, b2, b3, b, z, b4, b5, b6⟩ := elB_some a2
  simp only at b1 b2 b3 b4 b6 he
  rw [nth_eq] at a1 a3
  obtain ⟨base, len, cap, rfl⟩ := appendV_slice he
  simp only [appendV] at he
  obtain ⟨n, c1, he⟩ := ob_eq_some.1 he
  obtain ⟨c2, he⟩ := ite'_eq_some.1 he
  obtain ⟨new, c3, he⟩ := ob_eq_some.1 he
  obtain ⟨c4, he⟩ := ite'_eq_some.1 he
  obtain ⟨c5, he⟩ := ite'_eq_some.1 he
  rw [ble_eq] at c2
  rw [beq_eq, lenL_eq] at c4
  rw [allL_eq, List.all_eq_true] at c5
  simp only [nAdd, nMul] at c2 c3 c4 he
  obtain ⟨d1, d2⟩ := src_ok (P := P) s c1 c3
  have hnew := src_st ok c3
  have hcap := capKnown_le μ base cap
  have hOPEN : OPEN = 18446744073709551616 := rfl
  rw [ren_slice]
  unfold appendTo at he
  rw [ite'_eq] at he
  by_cases hfit : len + n ≤ capKnown cap
  · -- in place
    rw [if_pos (ble_eq.2 hfit), ite'_eq] at he
    have hrun := run_append_in (P := P) (w := w) (ty := ty) (base := base.map (renA μ)) (cap := realCap μ base cap) (len := len) a1 b1 b2 a3 a4 a5 d1 d2 (by omega)
    by_cases hz : len + n = len
    · rw [if_pos (beq_eq.2 hz)] at he
      simp only [Option.some.injEq, Prod.mk.injEq] at he
      obtain ⟨rfl, rfl⟩ := he
      have hn0 : n = 0 := by omega
      have hnil : new = [] := by
        apply List.eq_nil_of_length_eq_zero; rw [c4, hn0]; simp
      refine ⟨μ, w, .refl ok s, ?_, ?_⟩
      · rw [hrun, ren_slice]
        subst hnil
        cases base with
        | none => rfl
        | some a => simp [storeCells]
      · cases base with
        | none => exact stable_of_const fun μ => by simp
        | some a => exact stable_slice (stable_slice_inv hs)
    · rw [if_neg (by rw [beq_eq]; exact hz)] at he
      obtain ⟨a, rfl, he⟩ := ob_eq_some.1 he
      obtain ⟨h2, g1, g2⟩ := om_eq_some.1 he
      simp only [nMul] at g1
      simp only [Prod.mk.injEq] at g2
      obtain ⟨rfl, rfl⟩ := g2
      obtain ⟨w', r1, r2⟩ := wr_ok ok s g1 c5 hnew
      refine ⟨μ, w', r2, ?_, stable_slice (r2.step.vis _ (stable_slice_inv hs))⟩
      rw [hrun]
      simp only [Option.map_some]
      rw [← renA_wf, r1]
      simp [ren_slice]
  · rw [if_neg (by rw [ble_eq]; exact hfit), ite'_eq] at he
    have hst : ∀ old, (∀ v ∈ old, Stable (Vis U h) v) → ∀ v ∈ appL old new, Stable (Vis U h) v := by
      intro old ho v hv
      rw [appL_eq, List.mem_append] at hv
      exact hv.elim (ho v) (hnew v)
    have d2k : ∀ k, (Builtin.firstCells sz n (ren μ x)).run P { w with drawn := k } = .ok ⟨new.map (ren μ)⟩ { w with drawn := k } := fun k => (src_ok (P := P) (sat_drawn (k := k) s) c1 c3).2
    -- the memory behind a growth into a new row
    have fresh : ∀ (old : List Value) (h1 : Hp) (_ : h1.next = h.next) (ok1 : HpOk U h1) (_ : ∀ id, Vis U h id → Vis U h1 id) (s1 : Sat P lo μ h1.look w) (_ : ∀ v ∈ old, Stable (Vis U h) v) (_ : old.length = len * sz) (_ : ¬ len + n ≤ realCap μ base cap)
        (_ : ∀ k, (Builtin.firstCells sz len (.slice (base.map (renA μ)) len (realCap μ base cap))).run P { w with drawn := k } = .ok ⟨old.map (ren μ)⟩ { w with drawn := k }),
        ∃ μ' w', Go2 P U lo μ μ' h1 (h1.add (.row (appL old new) e true)) w w' ∧
          (Builtin.append_ argTypes.toArray ty #[.slice (base.map (renA μ)) len (realCap μ base cap), ren μ x]).run P w = .ok (ren μ' (.slice (some ⟨h.next, 0, none⟩) (len + n) (OPEN + (len + n)))) w' := by
      intro old h1 hnx ok1 hv1 s1 ho hol hg hf
      obtain ⟨y, rest, q1, q2⟩ := run_append_out (P := P) (w := w) (ty := ty) (base := base.map (renA μ)) (cap := realCap μ base cap) (len := len) a1 b1 b2 a3 a4 a5 d1 d2k hg b4 b5 b6 c2 hf
      refine ⟨muNew μ h1 w y, { w with drawn := w.drawn + 1, heap := w.heap.push (.cells (⟨old.map (ren μ)⟩ ++ ⟨new.map (ren μ)⟩ ++ rest) e (0, 0)) }, newOpen_ok (x := y) (c := ⟨old.map (ren μ)⟩ ++ ⟨new.map (ren μ)⟩ ++ rest) ok1 s1 hlo (fun v hv => (hst old ho v hv).mono hv1) b2 (by omega) ?_ ?_ rfl rfl rfl rfl, ?_⟩
      · intro i v hv
        rw [appL_eq] at hv
        have hi : i < (old ++ new).length := by
          rcases Nat.lt_or_ge i (old ++ new).length with hh | hh
          · exact hh
          · rw [List.getElem?_eq_none hh] at hv; cases hv
        have e1 : ((⟨old.map (ren μ)⟩ ++ ⟨new.map (ren μ)⟩ ++ rest : Array Value)).toList = (old ++ new).map (ren μ) ++ rest.toList := by simp
        rw [toList_get e1, List.getElem?_append_left (by simpa using hi), List.getElem?_map, hv]
        rfl
      · rw [appL_eq]; simp [q1, hol, c4]
      · rw [q2, ren_slice1, renCap_open (Nat.le_add_right _ _)]
        unfold renA muNew
        rw [← hnx]
        simp only [upMu_same]
        rw [Nat.add_sub_cancel_left]
    by_cases eo : OPEN ≤ cap
    · -- an open end
      rw [if_pos (ble_eq.2 eo)] at he
      obtain ⟨a, hba, he2⟩ := ob_eq_some.1 he
      clear he
      subst hba
      have he := he2
      clear he2
      obtain ⟨blk, g1, he⟩ := ob_eq_some.1 he
      cases blk with
      | map es c => simp [growAt] at he
      | iter a b c d => simp [growAt] at he
      | row cs e' o =>
      cases o with
      | false => simp [growAt] at he
      | true =>
      simp only [growAt] at he
      obtain ⟨g2, he1⟩ := ite'_eq_some.1 he
      obtain ⟨g3, he2⟩ := ite'_eq_some.1 he1
      obtain ⟨old, g4, he3⟩ := om_eq_some.1 he2
      clear he he1 he2
      rw [beq_eq] at g2
      subst g2
      rw [beq_eq, lenL_eq] at g3
      rw [dropL_eq] at g4
      obtain ⟨g5, g6⟩ := takeN_some.1 g4
      simp only [nAdd, nMul] at g3 g5 g6
      simp only [grow, Prod.mk.injEq] at he3
      obtain ⟨rfl, rfl⟩ := he3
      rw [put_next]
      have hv := ok.vis g1
      have hrow : Ev.rowAt h a = some cs := by unfold Ev.rowAt; rw [g1]; rfl
      have hall := ok.st _ _ g1
      have ho : ∀ v ∈ old, Stable (Vis U h) v := by
        intro v hv'; rw [g6] at hv'; exact hall v (List.mem_of_mem_drop (List.mem_of_mem_take hv'))
      have hol : old.length = len * sz := by rw [g6, List.length_take]; omega
      obtain ⟨c, r1, r2, r3, r4⟩ := s.blk _ _ g1
      rw [if_pos rfl] at r4
      obtain ⟨sz', r5, r6, r7⟩ := r4
      have hsz : sz' = sz := by rw [b2] at r5; exact (Option.some.inj r5).symm
      subst hsz
      have hreal : realCap μ (some a) cap = capKnown cap + (μ a.block).ext := by
        show renCap μ a cap = _
        rw [renCap_open eo, capKnown_open eo]
      by_cases hin : len + n ≤ realCap μ (some a) cap
      · -- it grows in place
        have hrun := run_append_in (P := P) (w := w) (ty := ty) (base := some (renA μ a)) (cap := realCap μ (some a) cap) (len := len) a1 b1 b2 a3 a4 a5 d1 d2 hin
        have hlen : len * sz' ≤ capKnown cap * sz' := by
          have : (cs.drop a.off).length = capKnown cap * sz' := by rw [List.length_drop]; omega
          omega
        have hfits : (μ a.block).base + a.off + len * sz' + n * sz' ≤ c.size := by
          have h1 : (len + n) * sz' ≤ (capKnown cap + (μ a.block).ext) * sz' := Nat.mul_le_mul_right _ (by omega)
          rw [Nat.add_mul, Nat.add_mul] at h1
          omega
        have hst' := run_storeCells_at P (μ a.block).blk ((μ a.block).base + a.off + len * sz') e (new.map (ren μ)) 0 c w r1 (by simp [c4]; omega) (by
          intro v hv'
          obtain ⟨y, hy, rfl⟩ := List.mem_map.1 hv'
          exact plain_ren μ (c5 y hy))
        have hadd : (renA μ a).add (len * sz') = ⟨(μ a.block).blk, (μ a.block).base + a.off + len * sz', none⟩ := by
          rw [← renA_wf]; unfold renA wf; simp [Nat.add_assoc]
        obtain ⟨f1, f2, f3, f4, _⟩ := setRow_facts (w := w) (g := (μ a.block).blk) (c := c) (e := e) (c' := (c.toList.take ((μ a.block).base + a.off + len * sz' + 0) ++ new.map (ren μ) ++ c.toList.drop ((μ a.block).base + a.off + len * sz' + 0 + (new.map (ren μ)).length)).toArray) r1
        have hcl : c.toList.length = c.size := by simp
        refine ⟨_, _, swap_ok (base := (μ a.block).base + a.off) (ext := realCap μ (some a) cap - (len + n)) (sz := sz') ok s g1 (hst old ho) b2 r6 (setRow_heap w _ c _ e (0, 0) r1) ?_ ?_ f1 (fun k hk => setRow_other w _ k _ hk) f2 f3 f4, ?_, ?_⟩
        · intro i v hv'
          rw [appL_eq] at hv'
          rw [List.getElem?_toArray, List.append_assoc, append_map_get (f := id) (by simp [c4]; omega)]
          simp only [List.length_map, Nat.add_zero]
          by_cases h1 : i < len * sz'
          · rw [if_pos (by omega)]
            rw [List.getElem?_append_left (by omega)] at hv'
            have := r2 (a.off + i) v (rd_get (n := len * sz') g6 hv')
            rw [Array.getElem?_toList, ← Nat.add_assoc] at *
            exact this
          · rw [List.getElem?_append_right (by omega), hol] at hv'
            have hi : i - len * sz' < new.length := by
              rcases Nat.lt_or_ge (i - len * sz') new.length with hh | hh
              · exact hh
              · rw [List.getElem?_eq_none hh] at hv'; cases hv'
            rw [if_neg (by omega), if_pos (by omega), List.getElem?_map, show (μ a.block).base + a.off + i - ((μ a.block).base + a.off + len * sz') = i - len * sz' from by omega, hv']
            rfl
        · rw [appL_eq]
          have e1 : (realCap μ (some a) cap - (len + n)) * sz' = realCap μ (some a) cap * sz' - (len + n) * sz' := Nat.sub_mul _ _ _
          have e2 : (len + n) * sz' ≤ realCap μ (some a) cap * sz' := Nat.mul_le_mul_right _ hin
          have e3 : (len + n) * sz' = len * sz' + n * sz' := Nat.add_mul _ _ _
          have e4 : realCap μ (some a) cap * sz' = capKnown cap * sz' + (μ a.block).ext * sz' := by rw [hreal, Nat.add_mul]
          simp only [List.size_toArray, List.length_append, List.length_take, List.length_drop, List.length_map, hol, c4]
          omega
        · rw [show (some a).map (renA μ) = some (renA μ a) from rfl, hrun]
          simp only [hadd]
          rw [hst']
          simp only [Result.andThen_ok]
          rw [nAdd, ren_slice1, renCap_open (Nat.le_add_right _ _)]
          unfold renA
          simp only [upMu_same, Nat.add_zero]
          rw [Nat.add_sub_cancel_left, show len + n + (realCap μ (some a) cap - (len + n)) = realCap μ (some a) cap from by omega]
        · refine stable_slice ?_
          have h2 := (step_put ok (ok.lt g1) (look_vis g1).1 (b := none) (by intro b hb; cases hb)).ok
          have := vis_new h2 (.row (appL old new) e true)
          rwa [put_next] at this
      · -- a new row
        have g7 := go2_put (P := P) (lo := lo) (μ := μ) (w' := w) (b := none) ok s g1 (by intro b hb; cases hb) rfl (fun _ _ => rfl) rfl rfl rfl (by intro b hb; cases hb)
        have hfirst : ∀ k, (Builtin.firstCells sz' len (.slice ((some a).map (renA μ)) len (realCap μ (some a) cap))).run P { w with drawn := k } = .ok ⟨old.map (ren μ)⟩ { w with drawn := k } := by
          intro k
          have : rd h a (len * sz') = some old := by unfold rd; rw [hrow]; simp only [ob_some, dropL_eq]; exact g4
          simp only [Option.map_some, Builtin.firstCells]
          exact run_rd (sat_drawn s) this
        obtain ⟨μ', w', k1, k2⟩ := fresh old (h.put a.block none) (put_next _ _ _) g7.ok (fun id hi => (vis_put _ _ _).2 hi) g7.sat ho hol hin hfirst
        refine ⟨μ', w', g7.trans k1, k2, ?_⟩
        refine stable_slice ?_
        have := vis_new g7.ok (.row (appL old new) e true)
        rwa [put_next] at this
    · rw [if_neg (by rw [ble_eq]; exact eo)] at he
      obtain ⟨old, g1, g2⟩ := om_eq_some.1 he
      simp only [grow, Prod.mk.injEq] at g2
      obtain ⟨rfl, rfl⟩ := g2
      have hreal : realCap μ base cap = capKnown cap := by
        cases base with
        | none => exact (capKnown_exact eo).symm
        | some a => exact (renCap_exact eo).trans (capKnown_exact eo).symm
      obtain ⟨ho, hol⟩ := st_old ok g1
      obtain ⟨μ', w', k1, k2⟩ := fresh old h rfl ok (fun _ hi => hi) s ho hol (by omega) (fun k => run_old (sat_drawn s) rfl g1)
      exact ⟨μ', w', k1, k2, stable_slice (vis_new ok _)⟩

end
end Go.Ev
