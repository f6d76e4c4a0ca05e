/- A verified evaluator: a part of it. -/
import Derived.Test.YtaokhbanpfmkmaaGreatEvG
namespace Go.Ev
set_option linter.unusedVariables false
set_option linter.unusedSimpArgs false
variable {U : Ids}

/-! The operations that do not change memory. -/

theorem pureRun_ok {α : Type} {P : Program} {s : Sem α} {a : α} (h : pureRun P s = some a) (w : World) : s.run P w = .ok a w := by
  induction s with
  | pure b => simp only [pureRun, Option.some.injEq] at h; subst h; rfl
  | program k ih => exact ih P h
  | mark m k ih => exact ih h
  | _ => simp [pureRun] at h

theorem valueOf_some {n : Next} {v : Value} (h : valueOf n = some v) : n = .value v := by
  cases n <;> simp [valueOf] at h
  rw [h]

/-- What a run comes to and what the evaluator says. -/
def OrOk (P : Program) (U : Ids) (lo : Nat) (μ : Mu) (h : Hp) (w : World) (r : Result Next) : OR → Prop
  | .val v h' => ∃ μ' w', Go2 P U lo μ μ' h h' w w' ∧ Stable (Vis U h') v ∧ (r = .ok (.value (ren μ' v)) w' ∨ (v = undef ∧ r = .ok .skip w'))
  | .enter g args h' => h' = h ∧ bodyOf P g = true ∧ (∀ v ∈ args, Stable (Vis U h) v) ∧ r = .ok (.enter g (args.map (ren μ)).toArray) w
  | .round l args h' => h' = h ∧ (∀ v ∈ args, Stable (Vis U h) v) ∧ r = (Instr.yield (μ l).blk (args.map (ren μ)).toArray).run P w
  | .defer d h' => h' = h ∧ ∃ g cap args, d = { target := .fn (.func g) ⟨cap⟩, args := ⟨args⟩ } ∧ (∀ v ∈ cap, Stable (Vis U h) v) ∧ (∀ v ∈ args, Stable (Vis U h) v) ∧
      r = .ok (.defer { target := .fn (.func g) ⟨cap.map (ren μ)⟩, args := ⟨args.map (ren μ)⟩ }) w
  | .pan v h' => h' = h ∧ Stable (Vis U h) v ∧ r = .halt (.panic (ren μ v)) w
  | .fail => True

section
variable {P : Program} {lo : Nat} {μ : Mu} {h : Hp} {w : World}

/-- A value without a step. -/
theorem orOk_val {v : Value} {r : Result Next} (ok : HpOk U h) (s : Sat P lo μ h.look w) (hv : Stable (Vis U h) v) (hr : r = .ok (.value (ren μ v)) w) : OrOk P U lo μ h w r (.val v h) :=
  ⟨μ, w, .refl ok s, hv, .inl hr⟩
theorem orOk_of {x : Option Value} {r : Result Next} (ok : HpOk U h) (s : Sat P lo μ h.look w) (hx : ∀ v, x = some v → r = .ok (.value (ren μ v)) w ∧ Stable (Vis U h) v) : OrOk P U lo μ h w r (.of h x) := by
  cases x with
  | none => trivial
  | some v => exact orOk_val ok s (hx v rfl).2 (hx v rfl).1
theorem orOk_ofVH {x : Option (Value × Hp)} {r : Result Next} (hx : ∀ v h', x = some (v, h') → ∃ μ' w', r = .ok (.value (ren μ' v)) w' ∧ Go2 P U lo μ μ' h h' w w' ∧ Stable (Vis U h') v) : OrOk P U lo μ h w r (.ofVH x) := by
  cases x with
  | none => trivial
  | some p =>
    obtain ⟨μ', w', h1, h2, h3⟩ := hx p.1 p.2 rfl
    exact ⟨μ', w', h2, h3, .inl h1⟩
theorem orOk_ofH {x : Option Hp} {r : Result Next} (hx : ∀ h', x = some h' → ∃ μ' w', r = .ok .skip w' ∧ Go2 P U lo μ μ' h h' w w') : OrOk P U lo μ h w r (.ofH x) := by
  cases x with
  | none => trivial
  | some h' =>
    obtain ⟨μ', w', h1, h2⟩ := hx h' rfl
    refine ⟨μ', w', h2, ?_, .inr ⟨rfl, h1⟩⟩
    exact stable_of_const (ren_undef ·)
theorem orOk_ofHv {x : Option Hp} {r : Result Next} (hx : ∀ h', x = some h' → ∃ μ' w', r = .ok (.value undef) w' ∧ Go2 P U lo μ μ' h h' w w') : OrOk P U lo μ h w r (.ofH x) := by
  cases x with
  | none => trivial
  | some h' =>
    obtain ⟨μ', w', h1, h2⟩ := hx h' rfl
    refine ⟨μ', w', h2, stable_of_const (ren_undef ·), .inl ?_⟩
    rw [ren_undef]; exact h1

theorem pick_ok {c a b r : Value} (ha : Stable (Vis U h) a) (hb : Stable (Vis U h) b) (he : pickV c a b = some r) :
    (do pure (Next.value (if ← asBool (ren μ c) then ren μ a else ren μ b)) : Sem Next).run P w = .ok (.value (ren μ r)) w ∧ Stable (Vis U h) r := by
  unfold pickV at he
  obtain ⟨t, h1, h2⟩ := ob_eq_some.1 he
  rw [boolOf_some] at h1
  cases h2
  subst h1
  cases t
  · exact ⟨rfl, hb⟩
  · exact ⟨rfl, ha⟩

theorem iface_ok {t : TypeId} {v r : Value} (hv : Stable (Vis U h) v) (he : (ob (P.underlying t) fun d => ite' (ifaceOk d) (some (Value.iface t v)) none) = some r) :
    (Instr.makeInterface t (ren μ v)).run P w = .ok (ren μ r) w ∧ Stable (Vis U h) r := by
  obtain ⟨d, h1, h2⟩ := ob_eq_some.1 he
  obtain ⟨h3, h4⟩ := ite'_eq_some.1 h2
  cases h4
  refine ⟨?_, stable_iface.2 hv⟩
  unfold Instr.makeInterface
  rw [Sem.run_bind, run_underlying h1, ren_iface]
  cases d <;> first | rfl | simp [ifaceOk] at h3

theorem makeFunc_ok {fn : Fn} {a b : List Value} {r : Value} (ha : ∀ v ∈ a, Stable (Vis U h) v) (hb : ∀ v ∈ b, Stable (Vis U h) v) (he : makeFn a b fn = some r) :
    (Instr.makeFunc fn ⟨a.map (ren μ)⟩ ⟨b.map (ren μ)⟩).run P w = .ok (ren μ r) w ∧ Stable (Vis U h) r := by
  cases fn <;> simp only [makeFn, Option.some.injEq] at he <;> try cases he
  refine ⟨?_, stable_func.2 ⟨ha, hb⟩⟩
  rw [ren_func]; rfl

theorem extract_ok {x r : Value} {i : Nat} (hx : Stable (Vis U h) x) (he : (ob (tupleOf? x) fun vs => nth vs i) = some r) :
    (Instr.extract (ren μ x) i).run P w = .ok (ren μ r) w ∧ Stable (Vis U h) r := by
  obtain ⟨vs, h1, h2⟩ := ob_eq_some.1 he
  rw [tupleOf_some] at h1
  subst h1
  rw [nth_eq] at h2
  refine ⟨?_, stable_tuple.1 hx r (List.mem_of_getElem? h2)⟩
  rw [ren_tuple]
  simp [Instr.extract, h2]

theorem typeAssert_ok {t xt : TypeId} {ok' : Bool} {x r : Value} (hx : Stable (Vis U h) x) (he : (ob (P.underlying t) fun d => ite' (ifaceOk d) (assertV P t ok' x) none) = some r) :
    (Instr.typeAssert (ren μ x) xt t ok').run P w = .ok (ren μ r) w ∧ Stable (Vis U h) r := by
  obtain ⟨d, h1, h2⟩ := ob_eq_some.1 he
  obtain ⟨h3, h4⟩ := ite'_eq_some.1 h2
  have hfail : ∀ {r : Value}, ite' ok' (om (zeroV P t) fun z => Value.tuple #[z, .bool false]) none = some r → ok' = true ∧ ∃ z, (zeroValue t).run P w = .ok z w ∧ ren μ r = .tuple #[z, .bool false] ∧ Stable (Vis U h) r := by
    intro r hr
    obtain ⟨h5, h6⟩ := ite'_eq_some.1 hr
    obtain ⟨z, h7, h8⟩ := om_eq_some.1 h6
    obtain ⟨h9, h10⟩ := run_zeroV h7 w
    subst h8
    refine ⟨h5, z, h9, ?_, ?_⟩
    · rw [ren_tuple]; simp [ren_closedA h10]
    · refine stable_tuple.2 fun v hv => ?_
      simp at hv
      rcases hv with rfl | rfl
      · exact stable_closedA h10
      · exact stable_closed rfl
  unfold Instr.typeAssert
  rw [Sem.run_bind, run_underlying h1]
  cases x <;> simp only [assertV] at h4 <;> try cases h4
  · rename_i u v
    rw [ite'_eq] at h4
    by_cases hut : u = t
    · rw [if_pos (beq_eq.2 hut)] at h4
      simp only [withOk, Option.some.injEq] at h4
      subst h4
      have hv := stable_iface.1 hx
      rw [ren_iface]
      cases ok'
      · refine ⟨?_, hv⟩
        cases d <;> first | (simp [hut]; done) | simp [ifaceOk] at h3
      · refine ⟨?_, ?_⟩
        · simp only [ite'_true]
          rw [ren_tuple]
          cases d <;> first | (simp [hut]; done) | simp [ifaceOk] at h3
        · refine stable_tuple.2 fun x hx => ?_
          simp at hx
          rcases hx with rfl | rfl
          · exact hv
          · exact stable_closed rfl
    · rw [if_neg (by rw [beq_eq]; exact hut)] at h4
      obtain ⟨rfl, z, h5, h6, h7⟩ := hfail h4
      refine ⟨?_, h7⟩
      rw [h6, ren_iface]
      cases d <;> first | (simp [hut, h5]; done) | simp [ifaceOk] at h3
  · obtain ⟨rfl, z, h5, h6, h7⟩ := hfail h4
    refine ⟨?_, h7⟩
    rw [h6, ren_nilIface]
    cases d <;> first | (simp [h5]; done) | simp [ifaceOk] at h3

end
end Go.Ev

namespace Go.Ev
set_option linter.unusedVariables false
set_option linter.unusedSimpArgs false
variable {U : Ids}

/-! Length, clear, conversions, operators. -/

section
variable {P : Program} {lo : Nat} {μ : Mu} {h : Hp} {w : World}

theorem run_getMap {r : Nat} {es : Array MapEntry} {c : Nat} (hb : w.heap[r]? = some (.map es c)) : (getObj r).run P w = .ok (.map es c) w := by
  simp [getObj, Sem.run, hb]
theorem run_setMap {r : Nat} {es : Array MapEntry} {c : Nat} (o : Obj) (hb : w.heap[r]? = some (.map es c)) : (setObj r o).run P w = .ok () { w with heap := w.heap.setIfInBounds r o } := by
  simp [setObj, Sem.run, hb]
theorem run_getIter {r : Nat} {m : Option Nat} {a : Nat} {b : Array Nat} {c : Nat} (hb : w.heap[r]? = some (.mapIter m a b c)) : (getObj r).run P w = .ok (.mapIter m a b c) w := by
  simp [getObj, Sem.run, hb]
theorem run_setIter {r : Nat} {m : Option Nat} {a : Nat} {b : Array Nat} {c : Nat} (o : Obj) (hb : w.heap[r]? = some (.mapIter m a b c)) : (setObj r o).run P w = .ok () { w with heap := w.heap.setIfInBounds r o } := by
  simp [setObj, Sem.run, hb]

theorem nilChk_ok {x r : Value} (hx : Stable (Vis U h) x) (he : nilChk x = some r) : r = x ∧ ((∃ a, ren μ x = .pointer (some a)) ∨ ∃ g a b, ren μ x = .func (.func g) a b) := by
  unfold nilChk at he
  split at he <;> cases he
  · exact ⟨rfl, .inl ⟨_, ren_ptrA μ _⟩⟩
  · rename_i g a b
    obtain ⟨a⟩ := a; obtain ⟨b⟩ := b
    exact ⟨rfl, .inr ⟨_, _, _, ren_func μ _ _ _⟩⟩

theorem isSliceD_some {d : TypeDesc} (hd : isSliceD d = true) : ∃ e, d = .slice e := by
  cases d <;> simp [isSliceD] at hd
  exact ⟨_, rfl⟩

theorem map_at {r : Nat} {es : List MapEntry} {c : Nat} (s : Sat P lo μ h.look w) (hr : ob (h.look r) mapOf = some (es, c)) :
    h.look r = some (.map es c) ∧ w.heap[(μ r).blk]? = some (.map (es.map (renE μ)).toArray c) := by
  obtain ⟨b, h1, h2⟩ := ob_eq_some.1 hr
  cases b with
  | row => simp [mapOf] at h2
  | iter => simp [mapOf] at h2
  | loop => simp [mapOf] at h2
  | defb => simp [mapOf] at h2
  | map es' c' =>
    simp only [mapOf, Option.some.injEq, Prod.mk.injEq] at h2
    obtain ⟨rfl, rfl⟩ := h2
    exact ⟨h1, s.blk _ _ h1⟩

theorem len_ok {argTypes : Array TypeId} {ty t : TypeId} {d : TypeDesc} {x r : Value} (s : Sat P lo μ h.look w) (ht : argTypes[0]? = some t) (hd : P.underlying t = some d) (he : evLenD h d x = some r) (rest : List Value) :
    (Builtin.len_ argTypes ty ⟨ren μ x :: rest⟩).run P w = .ok (ren μ r) w ∧ Stable (Vis U h) r := by
  unfold evLenD at he
  unfold Builtin.len_
  simp only [ht, List.getElem?_toArray, List.getElem?_cons_zero, Sem.run_bind, run_underlying hd, Result.andThen_ok]
  rw [ite'_eq] at he
  by_cases hs : isSliceD d = true
  · rw [if_pos hs] at he
    obtain ⟨e, rfl⟩ := isSliceD_some hs
    obtain ⟨y, h1, h2⟩ := om_eq_some.1 he
    obtain ⟨b, n, c⟩ := y
    rw [sliceOf_some] at h1
    simp only at h1
    subst h1 h2
    refine ⟨?_, stable_closed rfl⟩
    cases b <;> simp [goInt, lenSl, intV]
  · rw [if_neg hs] at he
    unfold lenRest at he
    split at he
    · cases he
      refine ⟨?_, stable_closed rfl⟩
      simp [goInt, intV]
    · rename_i r'
      obtain ⟨ec, h1, h2⟩ := om_eq_some.1 he
      obtain ⟨es, c⟩ := ec
      subst h2
      refine ⟨?_, stable_closed rfl⟩
      obtain ⟨_, h3⟩ := map_at s h1
      simp [run_getMap h3, goInt, intV]
    · cases he
      refine ⟨?_, stable_closed rfl⟩
      simp [goInt, intV]
    · cases he
      refine ⟨?_, stable_closed rfl⟩
      simp [goInt, intV]
    · cases he

theorem clear_ok {argTypes : Array TypeId} {ty t : TypeId} {d : TypeDesc} {x : Value} {h' : Hp} (ok : HpOk U h) (s : Sat P lo μ h.look w) (ht : argTypes[0]? = some t) (hd : P.underlying t = some d) (hx : Stable (Vis U h) x)
    (he : evClearD P h d x = some h') (rest : List Value) :
    ∃ w', (Builtin.clear_ argTypes ty ⟨ren μ x :: rest⟩).run P w = .ok undef w' ∧ Go2 P U lo μ μ h h' w w' := by
  unfold evClearD at he
  unfold Builtin.clear_
  simp only [ht, List.getElem?_toArray, List.getElem?_cons_zero, Sem.run_bind, run_underlying hd, Result.andThen_ok]
  split at he
  · rename_i e b n c
    rw [ite'_eq] at he
    by_cases hn : n = 0
    · subst hn
      rw [if_pos (beq_eq.2 rfl)] at he
      cases he
      refine ⟨w, ?_, .refl ok s⟩
      cases b <;> simp [undef]
    · rw [if_neg (by rw [beq_eq]; exact hn)] at he
      obtain ⟨a, h1, h2⟩ := ob_eq_some.1 he
      subst h1
      obtain ⟨z, h3, h4⟩ := ob_eq_some.1 h2
      obtain ⟨zv, h5, h6, h7, h8⟩ := run_zeroCells h3 w
      obtain ⟨w', h9, h10⟩ := wr_ok ok s h4 (fun v hv => by
        have := rep_stable h7 n v hv
        cases v <;> first | rfl | simp [closed] at this) (fun v hv => stable_closed (rep_stable h7 n v hv))
      refine ⟨w', ?_, h10⟩
      rw [rep_ren h7] at h9
      have hz : (Builtin.zeroCells zv.cells n).toList = rep z n := by
        unfold Builtin.zeroCells
        rw [← h6]
        exact zero_range rfl
      obtain ⟨m, rfl⟩ : ∃ m, n = m + 1 := ⟨n - 1, by omega⟩
      rw [ren_slice1]
      simp [h5, hz, h9, undef]
  · cases he

end
end Go.Ev

namespace Go.Ev
set_option linter.unusedVariables false
set_option linter.unusedSimpArgs false
variable {U : Ids}

/-! Operators. -/

theorem wrap_u (k : IntKind) (hk : k.signed = false) (n : Nat) : k.wrap (.ofNat n) = .ofNat (n % 2 ^ k.bits) := by
  unfold IntKind.wrap
  rw [hk]
  simp
theorem wrap_i64 (n : Nat) (h : n ≤ 9223372036854775807) : IntKind.i64.wrap (.ofNat n) = .ofNat n := by
  unfold IntKind.wrap
  simp only [show IntKind.i64.bits = 64 from rfl, show IntKind.i64.signed = true from rfl]
  have : (Int.ofNat n) % (2 ^ 64 : Int) = Int.ofNat n := Int.emod_eq_of_lt (Int.natCast_nonneg n) (by simp; omega)
  rw [this, if_neg]
  simp; omega
theorem wrapN_eq (k : IntKind) (n : Nat) : wrapN k n = k.wrap (.ofNat n) := by
  cases k
  case i64 =>
    show ite' (Nat.ble n 9223372036854775807) (Int.ofNat n) _ = _
    rw [ite'_eq]
    split
    · rename_i hc; rw [wrap_i64 n (ble_eq.1 hc)]
    · rfl
  case u8 => exact (wrap_u .u8 rfl n).symm
  case u32 => exact (wrap_u .u32 rfl n).symm
  case u64 => exact (wrap_u .u64 rfl n).symm
  all_goals rfl
theorem wrapI_eq (k : IntKind) (n : Int) : wrapI k n = k.wrap n := by
  cases n with
  | ofNat n => exact wrapN_eq k n
  | negSucc n => rfl

theorem natsB_eq {f : Nat → Nat → Bool} {g : Int → Int → Bool} (h : ∀ a b, f a b = g (.ofNat a) (.ofNat b)) (a b : Int) : natsB f g a b = g a b := by
  cases a <;> cases b <;> first | exact h _ _ | rfl

theorem kindNo_inj {j k : IntKind} (h : kindNo j = kindNo k) : j = k := by
  cases j <;> cases k <;> first | rfl | (simp [kindNo] at h)
theorem sameKind_eq {j k : IntKind} (h : sameKind j k = true) : j = k := kindNo_inj (beq_eq.1 h)

section
variable {P : Program} {lo : Nat} {μ : Mu} {h : Hp} {w : World}

theorem eqGuard_int {op : BinOp} {t : TypeId} {x y : Operand} {j k : IntKind} {a b : Int} : (eqGuard op t x y (.int j a) (.int k b)).run P w = .ok () w := by
  unfold eqGuard
  cases op <;> rfl

theorem quick_ok {op : BinOp} {t : TypeId} {ox oy : Operand} {x y r : Value} (he : quick op x y = some r) :
    (do eqGuard op t ox oy (ren μ x) (ren μ y); binOp op t (ren μ x) (ren μ y) : Sem Value).run P w = .ok (ren μ r) w ∧ Stable (Vis U h) r := by
  unfold quick at he
  obtain ⟨⟨j, a⟩, h1, h2⟩ := ob_eq_some.1 he
  obtain ⟨⟨k, b⟩, h3, h4⟩ := ob_eq_some.1 h2
  rw [intOf_some] at h1 h3
  simp only at h1 h3 h4
  subst h1 h3
  obtain ⟨h5, h6⟩ := ite'_eq_some.1 h4
  have := sameKind_eq h5
  subst this
  rw [ren_int, ren_int, Sem.run_bind, eqGuard_int, Result.andThen_ok]
  cases op <;> simp only [quickInt, iNo, iAdd, iSub, iMul, iEql, iNeq, iLss, iLeq, iGtr, iGeq, bV] at h6 <;> cases h6 <;> refine ⟨?_, stable_closed rfl⟩
  · rw [wrapI_eq, ren_int]; simp [binOp, Op.intArith]; try rfl
  · rw [wrapI_eq, ren_int]; simp [binOp, Op.intArith]; try rfl
  · rw [wrapI_eq, ren_int]; simp [binOp, Op.intArith]; try rfl
  · rw [natsB_eq (fun a b => ?_)]
    · rw [ren_bool]; simp [binOp, Op.intCmp]
    · rw [Bool.eq_iff_iff, beq_eq]; simp <;> omega
  · rw [natsB_eq (fun a b => ?_)]
    · rw [ren_bool]; simp [binOp, Op.intCmp]
    · rw [Bool.eq_iff_iff, Bool.not_eq_true', beq_ne]; simp <;> omega
  · rw [natsB_eq (fun a b => ?_)]
    · rw [ren_bool]; simp [binOp, Op.intCmp]
    · rw [Bool.eq_iff_iff, blt_eq]; simp
  · rw [natsB_eq (fun a b => ?_)]
    · rw [ren_bool]; simp [binOp, Op.intCmp]
    · rw [Bool.eq_iff_iff, ble_eq]; simp
  · rw [natsB_eq (fun a b => ?_)]
    · rw [ren_bool]; simp [binOp, Op.intCmp]
    · rw [Bool.eq_iff_iff, blt_eq]; simp
  · rw [natsB_eq (fun a b => ?_)]
    · rw [ren_bool]; simp [binOp, Op.intCmp]
    · rw [Bool.eq_iff_iff, ble_eq]; simp

theorem slow_ok {f : Fr} {op : BinOp} {t : TypeId} {ox oy : Operand} {r : Value} (he : slowBin P f op t ox oy = some r) :
    (do eqGuard op t ox oy (ren μ (f.eval ox)) (ren μ (f.eval oy)); binOp op t (ren μ (f.eval ox)) (ren μ (f.eval oy)) : Sem Value).run P w = .ok (ren μ r) w ∧ Stable (Vis U h) r := by
  unfold slowBin at he
  obtain ⟨h1, h2⟩ := ite'_eq_some.1 he
  obtain ⟨h3, h4⟩ := ite'_eq_some.1 h2
  obtain ⟨v, h5, h6⟩ := ob_eq_some.1 h4
  obtain ⟨h7, h8⟩ := ite'_eq_some.1 h6
  cases h8
  rw [ren_closedA h1, ren_closedA h3, ren_closed h7]
  exact ⟨pureRun_ok h5 w, stable_closed h7⟩

theorem run_equal_nil {t : TypeId} {d : TypeDesc} {x y : Value} {b : Bool} (hd : P.underlying t = some d) (he : nilEq d x y = some b) : (Op.equal t (ren μ x) (ren μ y)).run P w = .ok b w := by
  unfold Op.equal
  rw [show Op.maxDepth = 9999 + 1 from rfl]
  unfold Op.equalIn
  rw [Sem.run_bind, run_underlying hd, Result.andThen_ok]
  unfold nilEq at he
  split at he <;> cases he
  · rename_i b n c
    cases b <;> rfl
  · rename_i b n c n' c' _
    cases b <;> rfl
  · rename_i b
    cases b <;> rfl
  · rename_i b _
    cases b <;> rfl
  · rename_i f a b; obtain ⟨a⟩ := a; obtain ⟨b⟩ := b; rfl
  · rename_i f a b; obtain ⟨a⟩ := a; obtain ⟨b⟩ := b; rfl
  · rfl
  · rfl
  · rename_i b
    cases b <;> rfl
  · rename_i b _
    cases b <;> rfl

theorem nil_ok {op : BinOp} {t : TypeId} {ox oy : Operand} {x y r : Value} (he : nilBin P op t x y = some r) :
    (do eqGuard op t ox oy (ren μ x) (ren μ y); binOp op t (ren μ x) (ren μ y) : Sem Value).run P w = .ok (ren μ r) w ∧ Stable (Vis U h) r := by
  have guard : ∀ {d b}, nilEq d x y = some b → (eqGuard op t ox oy (ren μ x) (ren μ y)).run P w = .ok () w := by
    intro d b hb
    unfold nilEq at hb
    split at hb <;> cases hb <;> unfold eqGuard
    · rename_i b n c; cases b <;> cases op <;> rfl
    · rename_i b n c n' c' _; cases b <;> cases op <;> rfl
    · rename_i b; cases b <;> cases op <;> rfl
    · rename_i b _; cases b <;> cases op <;> rfl
    · rename_i f a b; obtain ⟨a⟩ := a; obtain ⟨b⟩ := b; cases op <;> rfl
    · rename_i f a b; obtain ⟨a⟩ := a; obtain ⟨b⟩ := b; cases op <;> rfl
    · cases op <;> rfl
    · cases op <;> rfl
    · rename_i b; cases b <;> cases op <;> rfl
    · rename_i b _; cases b <;> cases op <;> rfl
  have bin : ∀ {d b}, nilEq d x y = some b → binOp .eql t (ren μ x) (ren μ y) = (do pure (.bool (← Op.equal t (ren μ x) (ren μ y)))) ∧ binOp .neq t (ren μ x) (ren μ y) = (do pure (.bool (!(← Op.equal t (ren μ x) (ren μ y))))) := by
    intro d b hb
    unfold nilEq at hb
    split at hb <;> cases hb
    · rename_i b n c; cases b <;> exact ⟨rfl, rfl⟩
    · rename_i b n c n' c' _; cases b <;> exact ⟨rfl, rfl⟩
    · rename_i b; cases b <;> exact ⟨rfl, rfl⟩
    · rename_i b _; cases b <;> exact ⟨rfl, rfl⟩
    · rename_i f a b; obtain ⟨a⟩ := a; obtain ⟨b⟩ := b; exact ⟨rfl, rfl⟩
    · rename_i f a b; obtain ⟨a⟩ := a; obtain ⟨b⟩ := b; exact ⟨rfl, rfl⟩
    · exact ⟨rfl, rfl⟩
    · exact ⟨rfl, rfl⟩
    · rename_i b; cases b <;> exact ⟨rfl, rfl⟩
    · rename_i b _; cases b <;> exact ⟨rfl, rfl⟩
  cases op <;> simp only [nilBin] at he <;> try cases he
  · obtain ⟨d, h1, h2⟩ := ob_eq_some.1 he
    obtain ⟨b, h3, h4⟩ := om_eq_some.1 h2
    subst h4
    refine ⟨?_, stable_closed rfl⟩
    rw [Sem.run_bind, guard h3, Result.andThen_ok, (bin h3).1]
    simp [run_equal_nil h1 h3, bV]
  · obtain ⟨d, h1, h2⟩ := ob_eq_some.1 he
    obtain ⟨b, h3, h4⟩ := om_eq_some.1 h2
    subst h4
    refine ⟨?_, stable_closed rfl⟩
    rw [Sem.run_bind, guard h3, Result.andThen_ok, (bin h3).2]
    simp [run_equal_nil h1 h3, bV]

theorem orElse_some {α : Type} {x y : Option α} {r : α} (he : orElse x y = some r) : x = some r ∨ y = some r := by
  cases x with
  | none => exact .inr he
  | some a => exact .inl he

theorem bin_ok {f : Fr} {op : BinOp} {t : TypeId} {ox oy : Operand} {r : Value} (he : evBin P f op t ox oy = some r) :
    (do eqGuard op t ox oy (ren μ (f.eval ox)) (ren μ (f.eval oy)); binOp op t (ren μ (f.eval ox)) (ren μ (f.eval oy)) : Sem Value).run P w = .ok (ren μ r) w ∧ Stable (Vis U h) r := by
  unfold evBin at he
  rcases orElse_some he with h1 | h1
  · exact quick_ok h1
  · rcases orElse_some h1 with h2 | h2
    · exact slow_ok h2
    · exact nil_ok h2

theorem bytes_loop {g : Value → ByteArray → Sem (ForInStep ByteArray)} (hg : ∀ n s, g (.int .u8 n) s = pure (ForInStep.yield (s.push (UInt8.ofNat n.toNat))))
    (l : List Value) (bs : List UInt8) (hb : bytesOf l = some bs) (s0 : ByteArray) : (forIn l s0 g).run P w = .ok ⟨s0.data ++ bs.toArray⟩ w := by
  induction l generalizing bs s0 with
  | nil => cases hb; simp
  | cons v l ih =>
    unfold bytesOf at hb
    split at hb
    · rename_i e; cases e
    · rename_i n r e
      cases e
      obtain ⟨bs', h1, h2⟩ := om_eq_some.1 hb
      subst h2
      rw [List.forIn_cons, hg]
      simp only [Sem.run_bind, Sem.run_pure, Result.andThen_ok]
      rw [ih bs' h1]
      congr 1
      cases s0
      simp [ByteArray.push]
    · cases hb

theorem bytes_ren {l : List Value} {bs : List UInt8} (hb : bytesOf l = some bs) : l.map (ren μ) = l := by
  induction l generalizing bs with
  | nil => rfl
  | cons v l ih =>
    unfold bytesOf at hb
    split at hb
    · rename_i e; cases e
    · rename_i n r e
      cases e
      obtain ⟨bs', h1, h2⟩ := om_eq_some.1 hb
      rw [List.map_cons, ih h1, ren_int]
    · cases hb

theorem run_bytes {a : Option Addr} {n c : Nat} {l : List Value} {bs : List UInt8} (s : Sat P lo μ h.look w) (hl : baseCells h n a = some l) (hb : bytesOf l = some bs) :
    (Conv.bytesToString (ren μ (.slice a n c))).run P w = .ok (.string ⟨bs.toArray⟩) w := by
  have hr := bytes_ren (μ := μ) hb
  cases a with
  | none =>
    unfold baseCells at hl
    obtain ⟨h1, h2⟩ := ite'_eq_some.1 hl
    cases h2
    cases hb
    rfl
  | some a =>
    have hrun : (loadCells (renA μ a) n).run P w = .ok l.toArray w := by
      have hl : ite' (Nat.beq n 0) (some []) (rd h a n) = some l := hl
      rw [ite'_eq] at hl
      by_cases hn : n = 0
      · rw [if_pos (beq_eq.2 hn)] at hl
        cases hl
        subst hn
        exact run_loadCells_list (P := P) w (renA μ a) [] (by simp)
      · rw [if_neg (by rw [beq_eq]; exact hn)] at hl
        have := run_rd s hl
        rwa [hr] at this
    rw [ren_slice1]
    unfold Conv.bytesToString
    simp only [Sem.run_bind, hrun, Result.andThen_ok, List.forIn_toArray]
    rw [bytes_loop (fun _ _ => rfl) l bs hb ByteArray.empty]
    simp

theorem isU8_some {d : TypeDesc} (hd : isU8 d = true) : d = .int .u8 := by
  unfold isU8 at hd
  split at hd
  · rfl
  · cases hd

theorem conv_ok {a b : TypeId} {x r : Value} (s : Sat P lo μ h.look w) (he : evConv P h a b x = some r) : (convert a b (ren μ x)).run P w = .ok (ren μ r) w ∧ Stable (Vis U h) r := by
  unfold evConv at he
  obtain ⟨dd, h1, h2⟩ := ob_eq_some.1 he
  obtain ⟨sd, h3, h4⟩ := ob_eq_some.1 h2
  unfold convert
  rw [Sem.run_bind, run_underlying h3, Result.andThen_ok, Sem.run_bind, run_underlying h1, Result.andThen_ok]
  rcases orElse_some h4 with h5 | h5
  · unfold intTo at h5
    obtain ⟨⟨k, n⟩, h6, h7⟩ := ob_eq_some.1 h5
    rw [intOf_some] at h6
    simp only at h6
    subst h6
    cases dd <;> simp only [itNo, itInt] at h7 <;> cases h7
    refine ⟨?_, stable_closed rfl⟩
    rw [wrapI_eq, ren_int, ren_int]
    rfl
  · unfold evConvD at h5
    split at h5
    · rename_i e a n c
      obtain ⟨ed, h6, h7⟩ := ob_eq_some.1 h5
      obtain ⟨h8, h9⟩ := ite'_eq_some.1 h7
      have := isU8_some h8
      subst this
      obtain ⟨l, h10, h11⟩ := ob_eq_some.1 h9
      obtain ⟨bs, h12, h13⟩ := om_eq_some.1 h11
      subst h13
      refine ⟨?_, stable_closed rfl⟩
      have hb := run_bytes (c := c) s h10 h12
      rw [ren_string]
      rw [ren_slice] at hb ⊢
      simp only [Sem.run_bind, run_underlying h6, Result.andThen_ok]
      exact hb
    · cases h5

theorem args_ren {f : Fr} {ρ : Operand → Value} {l : Array Operand} (ha : ∀ x ∈ l, ρ x = ren μ (f.eval x)) : l.map ρ = ((argsOf f l).map (ren μ)).toArray := by
  unfold argsOf
  rw [mapL_eq]
  obtain ⟨l⟩ := l
  simp only [List.map_toArray, List.map_map]
  congr 1
  exact List.map_congr_left fun x hx => ha x (by simpa using hx)
theorem args_st {f : Fr} {l : Array Operand} (ha : ∀ x ∈ l, Stable (Vis U h) (f.eval x)) : ∀ v ∈ argsOf f l, Stable (Vis U h) v := by
  unfold argsOf
  rw [mapL_eq]
  intro v hv
  obtain ⟨x, hx, rfl⟩ := List.mem_map.1 hv
  exact ha x (by simpa using hx)
theorem args_mem {f : Fr} {l : Array Operand} {p : Value → Bool} (ha : allL p (argsOf f l) = true) : ∀ x ∈ l, p (f.eval x) = true := by
  unfold argsOf at ha
  rw [allL_eq, mapL_eq, List.all_eq_true] at ha
  intro x hx
  exact ha _ (List.mem_map.2 ⟨x, by simpa using hx, rfl⟩)

theorem closedRun_ok {f : Fr} {o : Oper} {ρ : Operand → Value} {r : Value} (hs : ∀ cs b, o.op ≠ .select cs b) (ha : ∀ x ∈ o.op.operands, ρ x = ren μ (f.eval x)) (he : closedRun P f o = some r) :
    (execOp ρ o).run P w = .ok (.value (ren μ r)) w ∧ Stable (Vis U h) r := by
  unfold closedRun at he
  obtain ⟨h1, h2⟩ := ite'_eq_some.1 he
  obtain ⟨v, h3, h4⟩ := ob_eq_some.1 h2
  obtain ⟨n, h5, h6⟩ := ob_eq_some.1 h3
  obtain ⟨h7, h8⟩ := ite'_eq_some.1 h4
  cases h8
  have hn := valueOf_some h6
  subst hn
  rw [execOp_congr o hs (ρ' := f.eval) fun x hx => by rw [ha x hx, ren_closed (args_mem h1 x hx)], ren_closed h7]
  exact ⟨pureRun_ok h5 w, stable_closed h7⟩

theorem builtin_ok {f : Fr} {b : Builtin} {c : Call} {ty : TypeId} {ρ : Operand → Value} {r : Value} (hc : c.callee = .builtin b) (ha : ∀ x ∈ c.args, ρ x = ren μ (f.eval x)) (he : evBuiltin P b c ty (argsOf f c.args) = some r) :
    (do let d ← resolve ρ c ty; invoke d.target d.args : Sem Next).run P w = .ok (.value (ren μ r)) w ∧ Stable (Vis U h) r := by
  unfold evBuiltin at he
  obtain ⟨h1, h2⟩ := ite'_eq_some.1 he
  obtain ⟨v, h3, h4⟩ := ob_eq_some.1 h2
  obtain ⟨n, h5, h6⟩ := ob_eq_some.1 h3
  obtain ⟨h7, h8⟩ := ite'_eq_some.1 h4
  cases h8
  have hn := valueOf_some h6
  subst hn
  rw [ren_closedA h7]
  refine ⟨?_, stable_closedA h7⟩
  unfold resolve
  rw [hc]
  simp only [Sem.run_bind, Sem.run_pure, Result.andThen_ok, invoke, args_ren ha]
  rw [ren_closedL h1]
  exact pureRun_ok h5 w

end
end Go.Ev
