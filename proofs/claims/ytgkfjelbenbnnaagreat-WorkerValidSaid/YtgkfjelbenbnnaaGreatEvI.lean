import Derived.Test.YtgkfjelbenbnnaaGreatEvH
namespace Go.Ev
set_option linter.unusedVariables false
set_option linter.unusedSimpArgs false
variable {U : Ids}

/-! The operations that do not change memory. -/

theorem pureRun_ok {α : Type} {P : Program} {s : Sem α} {a : α} (h : pureRun P s = some a) (w : World) : s.run P w = .ok a w := by
  induction s with
  | pure b => simp only [pureRun, Option.some.injEq] at h; subst h; rfl
  | program k ih => exact ih P h
  | mark m k ih => exact ih h
  | _ => simp [pureRun] at h

theorem valueOf_some {n : Next} {v : Value} (h : valueOf n = some v) : n = .value v := by
  cases n <;> simp [valueOf] at h
  rw [h]

/-- What a run comes to and what the evaluator says. -/
def OrOk (P : Program) (U : Ids) (lo : Nat) (μ : Mu) (h : Hp) (w : World) (r : Result Next) : OR → Prop
  | .val v h' => ∃ μ' w', Go2 P U lo μ μ' h h' w w' ∧ Stable (Vis U h') v ∧ (r = .ok (.value (ren μ' v)) w' ∨ (v = undef ∧ r = .ok .skip w'))
  | .enter g args h' => h' = h ∧ bodyOf P g = true ∧ (∀ v ∈ args, Stable (Vis U h) v) ∧ r = .ok (.enter g (args.map (ren μ)).toArray) w
  | .defer d h' => h' = h ∧ ∃ g cap args, d = { target := .fn (.func g) ⟨cap⟩, args := ⟨args⟩ } ∧ (∀ v ∈ cap, Stable (Vis U h) v) ∧ (∀ v ∈ args, Stable (Vis U h) v) ∧
      r = .ok (.defer { target := .fn (.func g) ⟨cap.map (ren μ)⟩, args := ⟨args.map (ren μ)⟩ }) w
  | .pan v h' => h' = h ∧ Stable (Vis U h) v ∧ r = .halt (.panic (ren μ v)) w
  | .fail => True

section
variable {P : Program} {lo : Nat} {μ : Mu} {h : Hp} {w : World}

/-- A value without a step. -/
theorem orOk_val {v : Value} {r : Result Next} (ok : HpOk U h) (s : Sat P lo μ h.look w) (hv : Stable (Vis U h) v) (hr : r = .ok (.value (ren μ v)) w) : OrOk P U lo μ h w r (.val v h) :=
  ⟨μ, w, .refl ok s, hv, .inl hr⟩
theorem orOk_of {x : Option Value} {r : Result Next} (ok : HpOk U h) (s : Sat P lo μ h.look w) (hx : ∀ v, x = some v → r = .ok (.value (ren μ v)) w ∧ Stable (Vis U h) v) : OrOk P U lo μ h w r (.of h x) := by
  cases x with
  | none => trivial
  | some v => exact orOk_val ok s (hx v rfl).2 (hx v rfl).1
theorem orOk_ofVH {x : Option (Value × Hp)} {r : Result Next} (hx : ∀ v h', x = some (v, h') → ∃ μ' w', r = .ok (.value (ren μ' v)) w' ∧ Go2 P U lo μ μ' h h' w w' ∧ Stable (Vis U h') v) : OrOk P U lo μ h w r (.ofVH x) := by
  cases x with
  | none => trivial
  | some p =>
    obtain ⟨μ', w', h1, h2, h3⟩ := hx p.1 p.2 rfl
    exact ⟨μ', w', h2, h3, .inl h1⟩
theorem orOk_ofH {x : Option Hp} {r : Result Next} (hx : ∀ h', x = some h' → ∃ μ' w', r = .ok .skip w' ∧ Go2 P U lo μ μ' h h' w w') : OrOk P U lo μ h w r (.ofH x) := by
  cases x with
  | none => trivial
  | some h' =>
    obtain ⟨μ', w', h1, h2⟩ := hx h' rfl
    refine ⟨μ', w', h2, ?_, .inr ⟨rfl, h1⟩⟩
    exact stable_of_const (ren_undef ·)
theorem orOk_ofHv {x : Option Hp} {r : Result Next} (hx : ∀ h', x = some h' → ∃ μ' w', r = .ok (.value undef) w' ∧ Go2 P U lo μ μ' h h' w w') : OrOk P U lo μ h w r (.ofH x) := by
  cases x with
  | none => trivial
  | some h' =>
    obtain ⟨μ', w', h1, h2⟩ := hx h' rfl
    refine ⟨μ', w', h2, stable_of_const (ren_undef ·), .inl ?_⟩
    rw [ren_undef]; exact h1

theorem pick_ok {c a b r : Value} (ha : Stable (Vis U h) a) (hb : Stable (Vis U h) b) (he : pickV c a b = some r) :
    (do pure (Next.value (if ← asBool (ren μ c) then ren μ a else ren μ b)) : Sem Next).run P w = .ok (.value (ren μ r)) w ∧ Stable (Vis U h) r := by
  unfold pickV at he
  obtain ⟨t, h1, h2⟩ := ob_eq_some.1 he
  rw [boolOf_some] at h1
  cases h2
  subst h1
  cases t
  · exact ⟨rfl, hb⟩
  · exact ⟨rfl, ha⟩

theorem iface_ok {t : TypeId} {v r : Value} (hv : Stable (Vis U h) v) (he : (ob (P.underlying t) fun d => ite' (ifaceOk d) (some (Value.iface t v)) none) = some r) :
    (Instr.makeInterface t (ren μ v)).run P w = .ok (ren μ r) w ∧ Stable (Vis U h) r := by
  obtain ⟨d, h1, h2⟩ := ob_eq_some.1 he
  obtain ⟨h3, h4⟩ := ite'_eq_some.1 h2
  cases h4
  refine ⟨?_, stable_iface.2 hv⟩
  unfold Instr.makeInterface
  rw [Sem.run_bind, run_underlying h1, ren_iface]
  cases d <;> first | rfl | simp [ifaceOk] at h3

theorem makeFunc_ok {fn : Fn} {a b : List Value} {r : Value} (ha : ∀ v ∈ a, Stable (Vis U h) v) (hb : ∀ v ∈ b, Stable (Vis U h) v) (he : makeFn a b fn = some r) :
    (Instr.makeFunc fn ⟨a.map (ren μ)⟩ ⟨b.map (ren μ)⟩).run P w = .ok (ren μ r) w ∧ Stable (Vis U h) r := by
  cases fn <;> simp only [makeFn, Option.some.injEq] at he <;> try cases he
  refine ⟨?_, stable_func.2 ⟨ha, hb⟩⟩
  rw [ren_func]; rfl

theorem extract_ok {x r : Value} {i : Nat} (hx : Stable (Vis U h) x) (he : (ob (tupleOf? x) fun vs => nth vs i) = some r) :
    (Instr.extract (ren μ x) i).run P w = .ok (ren μ r) w ∧ Stable (Vis U h) r := by
  obtain ⟨vs, h1, h2⟩ := ob_eq_some.1 he
  rw [tupleOf_some] at h1
  subst h1
  rw [nth_eq] at h2
  refine ⟨?_, stable_tuple.1 hx r (List.mem_of_getElem? h2)⟩
  rw [ren_tuple]
  simp [Instr.extract, h2]

theorem typeAssert_ok {t xt : TypeId} {ok' : Bool} {x r : Value} (hx : Stable (Vis U h) x) (he : (ob (P.underlying t) fun d => ite' (ifaceOk d) (assertV P t ok' x) none) = some r) :
    (Instr.typeAssert (ren μ x) xt t ok').run P w = .ok (ren μ r) w ∧ Stable (Vis U h) r := by
  obtain ⟨d, h1, h2⟩ := ob_eq_some.1 he
  obtain ⟨h3, h4⟩ := ite'_eq_some.1 h2
  have hfail : ∀ {r : Value}, ite' ok' (om (zeroV P t) fun z => Value.tuple #[z, .bool false]) none = some r → ok' = true ∧ ∃ z, (zeroValue t).run P w = .ok z w ∧ ren μ r = .tuple #[z, .bool false] ∧ Stable (Vis U h) r := by
    intro r hr
    obtain ⟨h5, h6⟩ := ite'_eq_some.1 hr
    obtain ⟨z, h7, h8⟩ := om_eq_some.1 h6
    obtain ⟨h9, h10⟩ := run_zeroV h7 w
    subst h8
    refine ⟨h5, z, h9, ?_, ?_⟩
    · rw [ren_tuple]; simp [ren_closedA h10]
    · refine stable_tuple.2 fun v hv => ?_
      simp at hv
      rcases hv with rfl | rfl
      · exact stable_closedA h10
      · exact stable_closed rfl
  unfold Instr.typeAssert
  rw [Sem.run_bind, run_underlying h1]
  cases x <;> simp only [assertV] at h4 <;> try cases h4
  · rename_i u v
    rw [ite'_eq] at h4
    by_cases hut : u = t
    · rw [if_pos (beq_eq.2 hut)] at h4
      simp only [withOk, Option.some.injEq] at h4
      subst h4
      have hv := stable_iface.1 hx
      rw [ren_iface]
      cases ok'
      · refine ⟨?_, hv⟩
        cases d <;> first | (simp [hut]; done) | simp [ifaceOk] at h3
      · refine ⟨?_, ?_⟩
        · simp only [ite'_true]
          rw [ren_tuple]
          cases d <;> first | (simp [hut]; done) | simp [ifaceOk] at h3
        · refine stable_tuple.2 fun x hx => ?_
          simp at hx
          rcases hx with rfl | rfl
          · exact hv
          · exact stable_closed rfl
    · rw [if_neg (by rw [beq_eq]; exact hut)] at h4
      obtain ⟨rfl, z, h5, h6, h7⟩ := hfail h4
      refine ⟨?_, h7⟩
      rw [h6, ren_iface]
      cases d <;> first | (simp [hut, h5]; done) | simp [ifaceOk] at h3
  · obtain ⟨rfl, z, h5, h6, h7⟩ := hfail h4
    refine ⟨?_, h7⟩
    rw [h6, ren_nilIface]
    cases d <;> first | (simp [h5]; done) | simp [ifaceOk] at h3

end
end Go.Ev
