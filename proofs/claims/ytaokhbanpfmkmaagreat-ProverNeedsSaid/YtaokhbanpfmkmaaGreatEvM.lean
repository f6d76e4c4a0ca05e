/- A verified evaluator: a part of it. -/
import Derived.Test.YtaokhbanpfmkmaaGreatEvL
namespace Go.Ev
set_option linter.unusedVariables false
set_option linter.unusedSimpArgs false
variable {U : Ids}

/-! One operation. -/

section
variable {P : Program} [NG P] {lo : Nat} {μ : Mu} {h : Hp} {w : World} {f : Fr} {ρ : Operand → Value}

omit [NG P] in
theorem bodyOf_lt {g : FuncId} (hb : bodyOf P g = true) : g < YB := by
  unfold bodyOf at hb
  rw [ite'_eq] at hb
  split at hb
  · rename_i h; rw [blt_eq] at h; exact h
  · cases hb
theorem NG.of {P : Program} (h : ngB P.funcs.toList = true) : NG P := ⟨fun g fn hf => by
  unfold ngB at h
  rw [allL_eq, List.all_eq_true] at h
  have := h fn (by rw [← Array.getElem?_toList] at hf; exact List.mem_of_getElem? hf)
  simpa using this⟩
theorem bodyOf_some {g : FuncId} (hb : bodyOf P g = true) : ∃ fn c, P.funcs[g]? = some fn ∧ fn.body = some c ∧ (fn.name == "runtime.NumGoroutine") = false := by
  have hlt := bodyOf_lt hb
  unfold bodyOf at hb
  rw [ite'_eq, if_pos (blt_eq.2 hlt)] at hb
  cases hf : P.funcs[g]? with
  | none => rw [hf] at hb; cases hb
  | some fn =>
    rw [hf] at hb
    have hb : runsF fn = true := hb
    unfold runsF at hb
    cases hc : fn.body with
    | none => rw [hc] at hb; cases hb
    | some c => exact ⟨fn, c, rfl, hc, NG.ng g fn hf⟩

theorem run_callFunc {g : FuncId} {args : Array Value} (hb : bodyOf P g = true) : (callFunc g args).run P w = .ok (.enter g args) w := by
  obtain ⟨fn, c, h1, h2, h3⟩ := bodyOf_some hb
  have h4 : ¬ fn.name = "runtime.NumGoroutine" := by simpa using h3
  unfold callFunc
  simp [h1, h2, h4]

theorem enter_ok {c : Call} {x : Operand} {ty : TypeId} (hc : c.callee = .value x) (hx : ρ x = ren μ (f.eval x)) (hs : Stable (Vis U h) (f.eval x)) (ha : ∀ x ∈ c.args, ρ x = ren μ (f.eval x))
    (hst : ∀ x ∈ c.args, Stable (Vis U h) (f.eval x)) : OrOk P U lo μ h w ((do let d ← resolve ρ c ty; invoke d.target d.args : Sem Next).run P w) (enterV P h (argsOf f c.args) (f.eval x)) := by
  unfold enterV
  split
  · rename_i l hv
    rw [hv] at hs hx
    refine ⟨rfl, fun v hm => args_st hst v hm, ?_⟩
    unfold resolve
    rw [hc]
    simp only [hx, ren_yield, Deferred.ofValue, Sem.run_bind, Sem.run_pure, Result.andThen_ok, invoke, args_ren ha]
    simp
  · rename_i g first captured hv
    rw [ite'_eq]
    split
    · rename_i hb
      obtain ⟨first⟩ := first; obtain ⟨captured⟩ := captured
      rw [hv] at hs hx
      obtain ⟨s1, s2⟩ := stable_func.1 hs
      refine ⟨rfl, hb, ?_, ?_⟩
      · intro v hm
        rw [appL_eq, appL_eq] at hm
        rcases List.mem_append.1 hm with hm | hm
        · exact s1 v hm
        · rcases List.mem_append.1 hm with hm | hm
          · exact args_st hst v hm
          · exact s2 v hm
      · unfold resolve
        rw [hc]
        simp only [hx, ren_func, Deferred.ofValue, Sem.run_bind, Sem.run_pure, Result.andThen_ok, invoke, args_ren ha]
        rw [run_callFunc hb]
        simp [appL_eq]
    · trivial
  · trivial

omit [NG P] in
theorem defer_ok {c : Call} {x : Operand} {ty : TypeId} (hc : c.callee = .value x) (hx : ρ x = ren μ (f.eval x)) (hs : Stable (Vis U h) (f.eval x)) (ha : ∀ x ∈ c.args, ρ x = ren μ (f.eval x))
    (hst : ∀ x ∈ c.args, Stable (Vis U h) (f.eval x)) : OrOk P U lo μ h w ((do pure (.defer (← resolve ρ c ty)) : Sem Next).run P w) (deferV h (argsOf f c.args) (f.eval x)) := by
  unfold deferV
  split
  · rename_i g first captured hv
    obtain ⟨first⟩ := first; obtain ⟨captured⟩ := captured
    rw [hv] at hs hx
    obtain ⟨s1, s2⟩ := stable_func.1 hs
    refine ⟨rfl, g, captured, appL first (argsOf f c.args), rfl, s2, ?_, ?_⟩
    · intro v hm
      rw [appL_eq] at hm
      rcases List.mem_append.1 hm with hm | hm
      · exact s1 v hm
      · exact args_st hst v hm
    · unfold resolve
      rw [hc]
      simp only [hx, ren_func, Deferred.ofValue, Sem.run_bind, Sem.run_pure, Result.andThen_ok, args_ren ha]
      simp [appL_eq]
  · trivial

omit [NG P] in
theorem panic_ok {x : Value} (hs : Stable (Vis U h) x) : OrOk P U lo μ h w ((do pure (.value (← Instr.panic (ren μ x))) : Sem Next).run P w) (panV h x) := by
  unfold panV
  split
  · refine ⟨rfl, hs, ?_⟩
    rw [ren_iface]
    rfl
  · trivial

omit [NG P] in
theorem nil_check_ok {x : Value} (ok : HpOk U h) (s : Sat P lo μ h.look w) (hs : Stable (Vis U h) x) (dst : Option Tmp) (ty : TypeId) (pos : String) (after : Array Edge) (g : Option (Nat × Bool)) (y : Operand) (hy : ρ y = ren μ x) :
    OrOk P U lo μ h w ((execOp ρ ⟨dst, .nilCheck y, ty, pos, after, g⟩).run P w) (.of h (nilChk x)) := by
  refine orOk_of ok s fun v hv => ?_
  obtain ⟨rfl, h1⟩ := nilChk_ok (μ := μ) hs hv
  refine ⟨?_, hs⟩
  rcases h1 with ⟨a, ha⟩ | ⟨g, a, b, ha⟩
  · simp only [execOp, hy, ha]; rfl
  · simp only [execOp, hy, ha]; rfl

omit [NG P] in
theorem v_run {s : Sem Value} {v : Value} {w' : World} (hr : s.run P w = .ok v w') : (do pure (Next.value (← s)) : Sem Next).run P w = .ok (.value v) w' := by
  rw [Sem.run_bind, hr]; rfl
omit [NG P] in
theorem u_run {s : Sem Unit} {w' : World} (hr : s.run P w = .ok () w') : (do s; pure Next.skip : Sem Next).run P w = .ok .skip w' := by
  rw [Sem.run_bind, hr]; rfl

theorem parts_ren {ps : Array (Nat × Operand)} (ha : ∀ p ∈ ps.toList, ρ p.2 = ren μ (f.eval p.2)) :
    (ps.map fun (i, x) => (i, ρ x)) = ((mapL (fun p => (p.1, f.eval p.2)) ps.toList).map fun p => (p.1, ren μ p.2)).toArray := by
  rw [mapL_eq]
  obtain ⟨l⟩ := ps
  simp only [List.map_toArray, List.map_map]
  congr 1
  refine List.map_congr_left fun p hp => ?_
  obtain ⟨i, x⟩ := p
  simp only [Function.comp]
  rw [ha (i, x) hp]
theorem parts_st {ps : Array (Nat × Operand)} (ha : ∀ p ∈ ps.toList, Stable (Vis U h) (f.eval p.2)) : ∀ p ∈ mapL (fun p => (p.1, f.eval p.2)) ps.toList, Stable (Vis U h) p.2 := by
  rw [mapL_eq]
  intro p hp
  obtain ⟨q, hq, rfl⟩ := List.mem_map.1 hp
  exact ha q hq
theorem opt_ren {x : Option Operand} (ha : ∀ y, x = some y → ρ y = ren μ (f.eval y)) : x.map ρ = (om x f.eval).map (ren μ) := by
  cases x with
  | none => rfl
  | some y => simp [ha y rfl]

omit [NG P] in
theorem callB_ok {b : Builtin} {c : Call} {ty : TypeId} (ok : HpOk U h) (s : Sat P lo μ h.look w) (hlo : lo ≤ w.heap.size) (hc : c.callee = .builtin b) (ha : ∀ x ∈ c.args, ρ x = ren μ (f.eval x))
    (hst : ∀ x ∈ c.args, Stable (Vis U h) (f.eval x)) : OrOk P U lo μ h w ((do let d ← resolve ρ c ty; invoke d.target d.args : Sem Next).run P w) (evB P h f c ty b) := by
  have hrun : (do let d ← resolve ρ c ty; invoke d.target d.args : Sem Next) = builtin b c.argTypes ty (c.args.map fun | .const _ => true | _ => false) (c.args.map ρ) := by
    unfold resolve
    rw [hc]
    rfl
  have hargs := args_ren (l := c.args) ha
  have first : ∀ x, nth c.args.toList 0 = some x → ∃ rest, c.args.map ρ = ⟨ren μ (f.eval x) :: rest⟩ ∧ Stable (Vis U h) (f.eval x) := by
    intro x hx
    rw [nth_eq] at hx
    have hm : x ∈ c.args := by simpa using List.mem_of_getElem? hx
    rw [hargs]
    unfold argsOf
    rw [mapL_eq]
    cases hl : c.args.toList with
    | nil => rw [hl] at hx; cases hx
    | cons y l =>
      rw [hl] at hx
      cases hx
      exact ⟨(l.map f.eval).map (ren μ), rfl, hst _ hm⟩
  cases b <;> try trivial
  case len =>
    refine orOk_of ok s fun v hv => ?_
    obtain ⟨t, h1, h2⟩ := ob_eq_some.1 hv
    obtain ⟨d, h3, h4⟩ := ob_eq_some.1 h2
    obtain ⟨x, h5, h6⟩ := ob_eq_some.1 h4
    obtain ⟨rest, h7, h8⟩ := first x h5
    rw [nth_eq] at h1
    obtain ⟨h9, h10⟩ := len_ok (μ := μ) (ty := ty) (argTypes := c.argTypes) s (by simpa using h1) h3 h6 rest
    rw [hrun, h7]
    exact ⟨v_run h9, h10⟩
  case append =>
    refine orOk_ofVH fun v h' hv => ?_
    obtain ⟨h0, h1⟩ := ite'_eq_some.1 hv
    obtain ⟨sv, h2, h3⟩ := ob_eq_some.1 h1
    obtain ⟨x, h4, h5⟩ := ob_eq_some.1 h3
    rw [beq_eq, lenL_eq] at h0
    rw [nth_eq] at h2 h4
    have hm1 : sv ∈ c.args := by simpa using List.mem_of_getElem? h2
    have hm2 : x ∈ c.args := by simpa using List.mem_of_getElem? h4
    obtain ⟨μ', w', g1, g2, g3⟩ := append_ok (ty := ty) ok s hlo (hst _ hm1) h5
    refine ⟨μ', w', ?_, g1, g3⟩
    have hl : c.args.map ρ = #[ren μ (f.eval sv), ren μ (f.eval x)] := by
      rw [hargs]
      unfold argsOf
      rw [mapL_eq]
      generalize c.args.toList = l at h0 h2 h4
      match l, h0 with
      | [a, b], _ =>
        cases h2; cases h4; rfl
    rw [hrun, hl]
    exact v_run (by simpa using g2)
  case clear =>
    refine orOk_ofHv fun h' hv => ?_
    obtain ⟨t, h1, h2⟩ := ob_eq_some.1 hv
    obtain ⟨d, h3, h4⟩ := ob_eq_some.1 h2
    obtain ⟨x, h5, h6⟩ := ob_eq_some.1 h4
    obtain ⟨rest, h7, h8⟩ := first x h5
    rw [nth_eq] at h1
    obtain ⟨w', h9, h10⟩ := clear_ok (μ := μ) (ty := ty) (argTypes := c.argTypes) ok s (by simpa using h1) h3 h8 h6 rest
    rw [hrun, h7]
    exact ⟨μ, w', v_run h9, h10⟩
  case min =>
    refine orOk_of ok s fun v hv => ?_
    exact builtin_ok hc ha hv
  case max =>
    refine orOk_of ok s fun v hv => ?_
    exact builtin_ok hc ha hv

theorem op_ok {o : Oper} (ok : HpOk U h) (s : Sat P lo μ h.look w) (hlo : lo ≤ w.heap.size) (ha : ∀ x ∈ o.op.operands, ρ x = ren μ (f.eval x)) (hst : ∀ x ∈ o.op.operands, Stable (Vis U h) (f.eval x)) :
    OrOk P U lo μ h w ((execOp ρ o).run P w) (evOp o.op P h f o) := by
  unfold evOp
  cases hok : okOp o.op with
  | false => trivial
  | true =>
  simp only [ite'_true]
  obtain ⟨dst, op, type, pos, after, guard⟩ := o
  cases op <;> try trivial
  case move x =>
    have hx := ha x (by simp [Op.operands])
    refine orOk_val ok s (hst x (by simp [Op.operands])) ?_
    show _ = Result.ok (Next.value (ren μ (f.eval x))) w
    rw [← hx]; rfl
  case assign x =>
    have hx := ha x (by simp [Op.operands])
    refine orOk_val ok s (hst x (by simp [Op.operands])) ?_
    show _ = Result.ok (Next.value (ren μ (f.eval x))) w
    rw [← hx]; rfl
  case pick c a b =>
    refine orOk_of ok s fun v hv => ?_
    simp only [execOp, ha c (by simp [Op.operands]), ha a (by simp [Op.operands]), ha b (by simp [Op.operands])]
    exact pick_ok (hst a (by simp [Op.operands])) (hst b (by simp [Op.operands])) hv
  case alloc e =>
    refine orOk_ofVH fun v h' hv => ?_
    obtain ⟨z, h1, h2⟩ := om_eq_some.1 hv
    cases h2
    obtain ⟨μ', w', g1, g2, g3⟩ := alloc_ok ok s hlo h1
    exact ⟨μ', w', v_run g2, g1, g3⟩
  case box e x =>
    obtain ⟨μ', w', g1, g2, g3⟩ := box_ok (e := e) ok s hlo (hst x (by simp [Op.operands]))
    refine ⟨μ', w', g1, g3, .inl ?_⟩
    simp only [execOp, ha x (by simp [Op.operands])]
    exact v_run g2
  case build t ps =>
    refine orOk_of ok s fun v hv => ?_
    have h1 : ∀ p ∈ ps.toList, p.2 ∈ (Op.build t ps).operands := fun p hp => by simp [Op.operands]; exact ⟨p.1, by simpa using hp⟩
    obtain ⟨g1, g2⟩ := build_ok (μ := μ) (w := w) (parts_st fun p hp => hst _ (h1 p hp)) hv
    refine ⟨?_, g2⟩
    simp only [execOp]
    rw [parts_ren fun p hp => ha _ (h1 p hp)]
    exact v_run g1
  case buildSlice t n ps =>
    refine orOk_ofVH fun v h' hv => ?_
    have h1 : ∀ p ∈ ps.toList, p.2 ∈ (Op.buildSlice t n ps).operands := fun p hp => by simp [Op.operands]; exact ⟨p.1, by simpa using hp⟩
    obtain ⟨μ', w', g1, g2, g3⟩ := buildSlice_ok (μ := μ) (w := w) ok s hlo (parts_st fun p hp => hst _ (h1 p hp)) hv
    refine ⟨μ', w', ?_, g1, g3⟩
    simp only [execOp]
    rw [parts_ren fun p hp => ha _ (h1 p hp)]
    exact v_run g2
  case load t a =>
    refine orOk_of ok s fun v hv => ?_
    obtain ⟨g1, g2⟩ := load_ok ok s hv
    refine ⟨?_, g2⟩
    simp only [execOp, ha a (by simp [Op.operands])]
    exact v_run g1
  case store t a x =>
    refine orOk_ofH fun h' hv => ?_
    obtain ⟨w', g1, g2⟩ := store_ok ok s (hst x (by simp [Op.operands])) hv
    refine ⟨μ, w', ?_, g2⟩
    simp only [execOp, ha a (by simp [Op.operands]), ha x (by simp [Op.operands])]
    exact u_run g1
  case nilCheck x => exact nil_check_ok ok s (hst x (by simp [Op.operands])) _ _ _ _ _ x (ha x (by simp [Op.operands]))
  case binOp op t x y u =>
    refine orOk_of ok s fun v hv => ?_
    obtain ⟨g1, g2⟩ := bin_ok (μ := μ) (w := w) (h := h) hv
    refine ⟨?_, g2⟩
    simp only [execOp, ha x (by simp [Op.operands]), ha y (by simp [Op.operands])]
    exact v_run g1
  case unOp op t x =>
    refine orOk_of ok s fun v hv => ?_
    exact closedRun_ok (by intro cs b; simp) ha hv
  case convert a b x =>
    refine orOk_of ok s fun v hv => ?_
    obtain ⟨g1, g2⟩ := conv_ok s hv
    refine ⟨?_, g2⟩
    simp only [execOp, ha x (by simp [Op.operands])]
    exact v_run g1
  case makeInterface t x =>
    refine orOk_of ok s fun v hv => ?_
    obtain ⟨g1, g2⟩ := iface_ok (μ := μ) (w := w) (hst x (by simp [Op.operands])) hv
    refine ⟨?_, g2⟩
    simp only [execOp, ha x (by simp [Op.operands])]
    exact v_run g1
  case makeFunc fn a b =>
    refine orOk_of ok s fun v hv => ?_
    have m1 : ∀ x ∈ a, x ∈ (Op.makeFunc fn a b).operands := fun x hx => by simp [Op.operands, hx]
    have m2 : ∀ x ∈ b, x ∈ (Op.makeFunc fn a b).operands := fun x hx => by simp [Op.operands, hx]
    obtain ⟨g1, g2⟩ := makeFunc_ok (μ := μ) (w := w) (P := P) (args_st fun x hx => hst x (m1 x hx)) (args_st fun x hx => hst x (m2 x hx)) hv
    refine ⟨?_, g2⟩
    simp only [execOp]
    rw [args_ren fun x hx => ha x (m1 x hx), args_ren fun x hx => ha x (m2 x hx)]
    exact v_run g1
  case makeMap t r =>
    refine orOk_ofVH fun v h' hv => ?_
    obtain ⟨μ', w', g1, g2, g3⟩ := makeMap_ok ok s hlo hv
    refine ⟨μ', w', ?_, g2, g3⟩
    simp only [execOp]
    rw [opt_ren fun y hy => ha y (by subst hy; simp [Op.operands])]
    exact v_run g1
  case makeSlice t l c =>
    refine orOk_ofVH fun v h' hv => ?_
    obtain ⟨μ', w', g1, g2, g3⟩ := makeSlice_ok ok s hlo hv
    refine ⟨μ', w', ?_, g1, g3⟩
    simp only [execOp, ha l (by simp [Op.operands]), ha c (by simp [Op.operands])]
    exact v_run g2
  case slice t x l hi m =>
    show OrOk P U lo μ h w _ (ite' (isStr (f.eval x)) _ _)
    rw [ite'_eq]
    split
    · refine orOk_of ok s fun v hv => ?_
      exact closedRun_ok (by intro cs b; simp) ha hv
    · refine orOk_ofVH fun v h' hv => ?_
      obtain ⟨μ', g1, g2, g3⟩ := slice_ok ok s (hst x (by simp [Op.operands])) hv
      refine ⟨μ', w, ?_, g1, g3⟩
      simp only [execOp, ha x (by simp [Op.operands])]
      rw [opt_ren (x := l) fun y hy => ha y (by subst hy; simp [Op.operands]), opt_ren (x := hi) fun y hy => ha y (by subst hy; simp [Op.operands]), opt_ren (x := m) fun y hy => ha y (by subst hy; simp [Op.operands])]
      exact v_run g2
  case fieldAddr t x i =>
    refine orOk_of ok s fun v hv => ?_
    obtain ⟨g1, g2⟩ := fieldAddr_ok (μ := μ) (w := w) (hst x (by simp [Op.operands])) hv
    refine ⟨?_, g2⟩
    simp only [execOp, ha x (by simp [Op.operands])]
    exact v_run g1
  case field t x i =>
    refine orOk_of ok s fun v hv => ?_
    obtain ⟨g1, g2⟩ := field_ok (μ := μ) (w := w) (hst x (by simp [Op.operands])) hv
    refine ⟨?_, g2⟩
    simp only [execOp, ha x (by simp [Op.operands])]
    exact v_run g1
  case indexAddr t x i =>
    refine orOk_of ok s fun v hv => ?_
    obtain ⟨g1, g2⟩ := indexAddr_ok (μ := μ) (w := w) (hst x (by simp [Op.operands])) hv
    refine ⟨?_, g2⟩
    simp only [execOp, ha x (by simp [Op.operands]), ha i (by simp [Op.operands])]
    exact v_run g1
  case index t x i =>
    show OrOk P U lo μ h w _ (ite' (isStr (f.eval x)) _ _)
    rw [ite'_eq]
    split
    · refine orOk_of ok s fun v hv => ?_
      exact closedRun_ok (by intro cs b; simp) ha hv
    · refine orOk_of ok s fun v hv => ?_
      obtain ⟨cs, h1, h2⟩ := ob_eq_some.1 hv
      rw [aggOf_some] at h1
      have hx := hst x (by simp [Op.operands])
      rw [h1] at hx
      obtain ⟨g1, g2⟩ := indexAgg_ok (μ := μ) (w := w) (stable_agg.1 hx) h2
      refine ⟨?_, g2⟩
      simp only [execOp, ha x (by simp [Op.operands]), ha i (by simp [Op.operands])]
      rw [h1]
      exact v_run g1
  case lookup t x k b =>
    refine orOk_of ok s fun v hv => ?_
    obtain ⟨g1, g2⟩ := lookup_ok ok s hv
    refine ⟨?_, g2⟩
    simp only [execOp, ha x (by simp [Op.operands]), ha k (by simp [Op.operands])]
    exact v_run g1
  case mapUpdate t m k v =>
    refine orOk_ofH fun h' hv => ?_
    obtain ⟨w', g1, g2⟩ := update_ok ok s (hst k (by simp [Op.operands])) (hst v (by simp [Op.operands])) hv
    refine ⟨μ, w', ?_, g2⟩
    simp only [execOp, ha m (by simp [Op.operands]), ha k (by simp [Op.operands]), ha v (by simp [Op.operands])]
    exact u_run g1
  case insert t m k v =>
    refine orOk_ofH fun h' hv => ?_
    obtain ⟨w', g1, g2⟩ := update_ok ok s (hst k (by simp [Op.operands])) (hst v (by simp [Op.operands])) hv
    refine ⟨μ, w', ?_, g2⟩
    simp only [execOp, ha m (by simp [Op.operands]), ha k (by simp [Op.operands]), ha v (by simp [Op.operands])]
    exact u_run g1
  case range t x =>
    refine orOk_ofVH fun v h' hv => ?_
    obtain ⟨μ', w', g1, g2, g3⟩ := range_ok ok s hlo (hst x (by simp [Op.operands])) hv
    refine ⟨μ', w', ?_, g2, g3⟩
    simp only [execOp, ha x (by simp [Op.operands])]
    exact v_run g1
  case next x b =>
    cases b with
    | true => trivial
    | false =>
      refine orOk_ofVH fun v h' hv => ?_
      obtain ⟨w', g1, g2, g3⟩ := next_ok (ty := type) ok s hv
      refine ⟨μ, w', ?_, g2, g3⟩
      simp only [execOp, ha x (by simp [Op.operands])]
      exact v_run g1
  case entry x =>
    refine orOk_of ok s fun v hv => ?_
    obtain ⟨g1, g2⟩ := entry_ok ok s hv
    refine ⟨?_, g2⟩
    simp only [execOp, ha x (by simp [Op.operands])]
    exact v_run g1
  case typeAssert x xt t b =>
    refine orOk_of ok s fun v hv => ?_
    obtain ⟨g1, g2⟩ := typeAssert_ok (μ := μ) (w := w) (xt := xt) (hst x (by simp [Op.operands])) hv
    refine ⟨?_, g2⟩
    simp only [execOp, ha x (by simp [Op.operands])]
    exact v_run g1
  case extract x i =>
    refine orOk_of ok s fun v hv => ?_
    obtain ⟨g1, g2⟩ := extract_ok (μ := μ) (w := w) (P := P) (hst x (by simp [Op.operands])) hv
    refine ⟨?_, g2⟩
    simp only [execOp, ha x (by simp [Op.operands])]
    exact v_run g1
  case panic x =>
    simp only [execOp, ha x (by simp [Op.operands])]
    exact panic_ok (hst x (by simp [Op.operands]))
  case call c =>
    obtain ⟨callee, args, argTypes⟩ := c
    cases callee with
    | value x =>
      exact enter_ok rfl (ha x (by simp [Op.operands, Call.operands])) (hst x (by simp [Op.operands, Call.operands])) (fun y hy => ha y (by simp [Op.operands, Call.operands, hy])) (fun y hy => hst y (by simp [Op.operands, Call.operands, hy]))
    | invoke r n => trivial
    | builtin b => exact callB_ok ok s hlo rfl (fun y hy => ha y (by simpa [Op.operands, Call.operands] using hy)) (fun y hy => hst y (by simpa [Op.operands, Call.operands] using hy))
  case defer c =>
    obtain ⟨callee, args, argTypes⟩ := c
    cases callee with
    | value x =>
      exact defer_ok rfl (ha x (by simp [Op.operands, Call.operands])) (hst x (by simp [Op.operands, Call.operands])) (fun y hy => ha y (by simp [Op.operands, Call.operands, hy])) (fun y hy => hst y (by simp [Op.operands, Call.operands, hy]))
    | invoke r n => trivial
    | builtin b => trivial

end
end Go.Ev
