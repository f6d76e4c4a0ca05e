/- A verified evaluator: a part of it. -/
import Derived.Test.YtaokhbanpfmkmaaGreatEvI
namespace Go.Ev
set_option linter.unusedVariables false
set_option linter.unusedSimpArgs false
variable {U : Ids}

/-! Maps. -/

theorem isUnit_some {x : Option Unit} (h : isUnit x = true) : x = some () := by
  cases x with
  | none => cases h
  | some u => rfl

section
variable {P : Program} {lo : Nat} {μ : Mu} {h : Hp} {w : World}

theorem run_keyOk {kt : TypeId} {kd : TypeDesc} {k : Value} {e : Bool} (hd : P.underlying kt = some kd) (hk : keyOk P kt e k kd = true) (w : World) : (Instr.checkKey e 10000 kt k).run P w = .ok () w := by
  unfold keyOk at hk
  have hd' := run_underlying (w := w) hd
  split at hk
  · rw [show (10000 : Nat) = 9999 + 1 from rfl]
    unfold Instr.checkKey
    rw [Sem.run_bind, hd', Result.andThen_ok]
    simp
  · rw [show (10000 : Nat) = 9999 + 1 from rfl]
    unfold Instr.checkKey
    rw [Sem.run_bind, hd', Result.andThen_ok]
    simp
  · rw [show (10000 : Nat) = 9999 + 1 from rfl]
    unfold Instr.checkKey
    rw [Sem.run_bind, hd', Result.andThen_ok]
    simp
  · exact pureRun_ok (isUnit_some hk) w

theorem run_sameNow {kt : TypeId} {kd : TypeDesc} {k key : Value} {b : Bool} (hd : P.underlying kt = some kd) (hs : Instr.sameNow kd k key = some b) (w : World) : (Op.equal kt k key).run P w = .ok b w := by
  unfold Op.equal
  rw [show Op.maxDepth = 9999 + 1 from rfl]
  unfold Op.equalIn
  rw [Sem.run_bind, run_underlying hd, Result.andThen_ok]
  unfold Instr.sameNow at hs
  split at hs
  · split at hs
    · rename_i hk
      cases hs
      simp [hk]
    · cases hs
  · cases hs; rfl
  · cases hs; rfl
  · cases hs

theorem run_eqK {kt : TypeId} {kd : TypeDesc} {k key : Value} {b : Bool} (hd : P.underlying kt = some kd) (he : eqK P kt kd k key = some b) (w : World) : (Op.equal kt k key).run P w = .ok b w := by
  unfold eqK at he
  rcases orElse_some he with h1 | h1
  · exact run_sameNow hd h1 w
  · exact pureRun_ok h1 w

theorem run_asking {kt : TypeId} {kd : TypeDesc} {k : Value} {es : List MapEntry} {i : Nat} {r : Option (Nat × Value)} (hd : P.underlying kt = some kd) (he : findK P kt kd k es i = some r) (w : World) :
    (Instr.findAsking kt k (es.map (renE μ)) i).run P w = .ok (r.map fun p => (p.1, ren μ p.2)) w := by
  induction es generalizing i with
  | nil => cases he; rfl
  | cons e es ih =>
    unfold findK at he
    obtain ⟨h1, h2⟩ := ite'_eq_some.1 he
    obtain ⟨b, h3, h4⟩ := ob_eq_some.1 h2
    rw [List.map_cons]
    unfold Instr.findAsking
    have hkey : (renE μ e).key = e.key := ren_closedA h1 μ
    rw [Sem.run_bind, hkey, run_eqK hd h3 w, Result.andThen_ok]
    cases b
    · exact ih h4
    · cases h4; rfl

theorem run_now {kt : TypeId} {kd : TypeDesc} {k : Value} (hd : P.underlying kt = some kd) (w : World) : ∀ (es : List MapEntry) (i : Nat) (r : Option (Nat × Value)), Instr.findNow kd k es i = some r →
    (Instr.findAsking kt k es i).run P w = .ok r w := by
  intro es
  induction es with
  | nil => intro i r he; cases he; rfl
  | cons e es ih =>
    intro i r he
    unfold Instr.findNow at he
    unfold Instr.findAsking
    split at he
    · rename_i hs
      cases he
      rw [Sem.run_bind, run_sameNow hd hs w, Result.andThen_ok]
      rfl
    · rename_i hs
      rw [Sem.run_bind, run_sameNow hd hs w, Result.andThen_ok]
      exact ih _ _ he
    · cases he

theorem run_findK {kt : TypeId} {kd : TypeDesc} {k : Value} {es : List MapEntry} {r : Option (Nat × Value)} (hd : P.underlying kt = some kd) (he : findK P kt kd k es 0 = some r) (w : World) :
    (Instr.findKey kt k (es.map (renE μ))).run P w = .ok (r.map fun p => (p.1, ren μ p.2)) w := by
  have h1 := run_asking (μ := μ) hd he w
  unfold Instr.findKey
  rw [Sem.run_bind, run_underlying hd, Result.andThen_ok]
  cases hn : Instr.findNow kd k (es.map (renE μ)) 0 with
  | none => exact h1
  | some r' =>
    have h2 := run_now hd w _ _ _ hn
    rw [h1] at h2
    cases h2
    rfl

theorem findK_at {kt : TypeId} {kd : TypeDesc} {k : Value} : ∀ {es : List MapEntry} {i : Nat} {p : Nat × Value}, findK P kt kd k es i = some (some p) → ∃ j e, p.1 = i + j ∧ es[j]? = some e ∧ p.2 = e.val ∧ closedA e.key = true := by
  intro es
  induction es with
  | nil => intro i p he; cases he
  | cons e es ih =>
    intro i p he
    unfold findK at he
    obtain ⟨h1, h2⟩ := ite'_eq_some.1 he
    obtain ⟨b, h3, h4⟩ := ob_eq_some.1 h2
    cases b
    · obtain ⟨j, e', h5, h6, h7, h8⟩ := ih h4
      exact ⟨j + 1, e', by omega, by simpa using h6, h7, h8⟩
    · cases h4
      exact ⟨0, e, rfl, rfl, rfl, h1⟩

theorem mapTypes_some {d : TypeDesc} {ke : TypeId × TypeId} (hd : mapTypes d = some ke) : d = .map ke.1 ke.2 := by
  cases d <;> simp [mapTypes] at hd
  subst hd; rfl

theorem isNil_eq {α : Type} (l : List α) : isNil l = l.isEmpty := by cases l <;> rfl

theorem withOk_ren (ok : Bool) (v : Value) (b : Bool) : ren μ (withOk ok v b) = if ok then .tuple #[ren μ v, .bool b] else ren μ v := by
  cases ok
  · rfl
  · show ren μ (.tuple ⟨[v, .bool b]⟩) = _
    rw [ren_tuple]; simp
theorem withOk_st {S : Ids} {ok : Bool} {v : Value} {b : Bool} (hv : Stable S v) : Stable S (withOk ok v b) := by
  cases ok
  · exact hv
  · refine stable_tuple.2 fun x hx => ?_
    simp at hx
    rcases hx with rfl | rfl
    · exact hv
    · exact stable_closed rfl

theorem lookup_ok {t : TypeId} {x k r : Value} {ok' : Bool} (ok : HpOk U h) (s : Sat P lo μ h.look w) (he : evLookup P h t x k ok' = some r) :
    (Instr.lookup t (ren μ x) (ren μ k) ok').run P w = .ok (ren μ r) w ∧ Stable (Vis U h) r := by
  unfold evLookup at he
  obtain ⟨d, h1, he1⟩ := ob_eq_some.1 he
  obtain ⟨⟨kt, et⟩, h2, he2⟩ := ob_eq_some.1 he1
  have := mapTypes_some h2
  subst this
  obtain ⟨es, h3, he3⟩ := ob_eq_some.1 he2
  obtain ⟨kd, h4, he4⟩ := ob_eq_some.1 he3
  obtain ⟨h5, he5⟩ := ite'_eq_some.1 he4
  obtain ⟨h6, he6⟩ := ite'_eq_some.1 he5
  obtain ⟨q, h7, h8⟩ := ob_eq_some.1 he6
  clear he he1 he2 he3 he4 he5 he6
  simp only at h1 h4 h6 h7 h8
  rw [ren_closedA h5]
  rw [isNil_eq] at h6
  have hk : ∀ w, (Instr.checkKey es.isEmpty 10000 kt k).run P w = .ok () w := fun w => run_keyOk h4 h6 w
  have hf : ∀ w, (Instr.findKey kt k (es.map (renE μ))).run P w = .ok (q.map fun p => (p.1, ren μ p.2)) w := fun w => run_findK h4 h7 w
  have hr : ∀ w, ((match q.map fun p => (p.1, ren μ p.2) with
      | some (_, v) => pure (if ok' = true then Value.tuple #[v, .bool true] else v)
      | none => do
        let z ← zeroValue et
        pure (if ok' = true then Value.tuple #[z, .bool false] else z)) : Sem Value).run P w = .ok (ren μ r) w := by
    intro w
    cases q with
    | none =>
      simp only [found] at h8
      obtain ⟨z, h9, h10⟩ := om_eq_some.1 h8
      obtain ⟨h11, h12⟩ := run_zeroV h9 w
      subst h10
      rw [withOk_ren, ren_closedA h12]
      cases ok' <;> simp [h11]
    | some p =>
      simp only [found, Option.some.injEq] at h8
      subst h8
      rw [withOk_ren]
      cases ok' <;> simp
  have hst : (∀ e ∈ es, StableE (Vis U h) e) → Stable (Vis U h) r := by
    intro hg3
    cases q with
    | none =>
      simp only [found] at h8
      obtain ⟨z, h9, h10⟩ := om_eq_some.1 h8
      obtain ⟨h11, h12⟩ := run_zeroV h9 w
      subst h10
      exact withOk_st (stable_closedA h12)
    | some p =>
      simp only [found, Option.some.injEq] at h8
      subst h8
      obtain ⟨j, e, h9, h10, h11, h12⟩ := findK_at h7
      rw [h11]
      exact withOk_st (hg3 e (List.mem_of_getElem? h10)).2
  unfold Instr.lookup
  rw [Sem.run_bind, run_underlying h1, Result.andThen_ok]
  unfold mapAt at h3
  split at h3
  · cases h3
    refine ⟨?_, hst (by simp)⟩
    have hk' := hk w
    have hf' := hf w
    have hr' := hr w
    simp only [List.isEmpty_nil, List.map_nil] at hk' hf'
    simp only [ren_map0, Sem.run_bind, Sem.run_pure, Result.andThen_ok]
    rw [show (#[] : Array MapEntry).isEmpty = true from rfl, hk', Result.andThen_ok, hf', Result.andThen_ok]
    cases q <;> simpa using hr'
  · rename_i r'
    obtain ⟨ec, h9, h10⟩ := om_eq_some.1 h3
    obtain ⟨es', c⟩ := ec
    simp only at h10
    subst h10
    obtain ⟨h11, h12⟩ := map_at s h9
    refine ⟨?_, hst (ok.st _ _ h11)⟩
    have hk' := hk w
    have hf' := hf w
    have hr' := hr w
    have hemp : (es'.map (renE μ)).toArray.isEmpty = es'.isEmpty := by cases es' <;> rfl
    simp only [ren_map1, Sem.run_bind, Sem.run_pure, Result.andThen_ok, run_getMap h12]
    rw [hemp, hk', Result.andThen_ok, hf', Result.andThen_ok]
    cases q <;> simpa using hr'
  · cases h3

theorem modL_eq (k v : Value) : ∀ (es : List MapEntry) (i : Nat), modL k v i es = es.modify i fun e => { e with key := k, val := v } := by
  intro es
  induction es with
  | nil => intro i; cases i <;> rfl
  | cons e es ih =>
    intro i
    unfold modL
    cases i with
    | zero => simp [show Nat.beq 0 0 = true from rfl]
    | succ i => simp [show Nat.beq (i + 1) 0 = false from rfl, ih]

theorem mapNo_some {m : Value} {r : Nat} (hm : mapNo m = some r) : m = .map (some r) := by
  unfold mapNo at hm
  split at hm <;> cases hm
  rfl

theorem update_ok {t : TypeId} {m k v : Value} {h' : Hp} (ok : HpOk U h) (s : Sat P lo μ h.look w) (hk : Stable (Vis U h) k) (hv : Stable (Vis U h) v) (he : evMapUpdate P h t m k v = some h') :
    ∃ w', (Instr.mapUpdate t (ren μ m) (ren μ k) (ren μ v)).run P w = .ok () w' ∧ Go2 P U lo μ μ h h' w w' := by
  unfold evMapUpdate at he
  obtain ⟨d, h1, he1⟩ := ob_eq_some.1 he
  obtain ⟨⟨kt, et⟩, h2, he2⟩ := ob_eq_some.1 he1
  have := mapTypes_some h2
  subst this
  obtain ⟨kd, h3, he3⟩ := ob_eq_some.1 he2
  obtain ⟨r, h4, he4⟩ := ob_eq_some.1 he3
  obtain ⟨b, h5, he5⟩ := ob_eq_some.1 he4
  obtain ⟨⟨es, c⟩, h6, he6⟩ := ob_eq_some.1 he5
  obtain ⟨h7, he7⟩ := ite'_eq_some.1 he6
  obtain ⟨h8, he8⟩ := ite'_eq_some.1 he7
  obtain ⟨q, h9, h10⟩ := ob_eq_some.1 he8
  clear he he1 he2 he3 he4 he5 he6 he7 he8
  simp only at h1 h3 h8 h9 h10
  have hm := mapNo_some h4
  subst hm
  have hat : ob (h.look r) mapOf = some (es, c) := by rw [h5]; exact h6
  obtain ⟨h11, h12⟩ := map_at s hat
  have hst := ok.st _ _ h11
  unfold Instr.mapUpdate
  rw [ren_map1, ren_closedA h7]
  simp only [Sem.run_bind, run_underlying h1, Result.andThen_ok, run_getMap h12, run_keyOk h3 h8 w]
  rw [run_findK h3 h9 w, Result.andThen_ok]
  cases q with
  | none =>
    simp only [updMap, Option.some.injEq] at h10
    subst h10
    simp only [Option.map_none, run_setMap _ h12]
    refine ⟨_, rfl, ?_⟩
    refine go2_put ok s h11 ?_ (by simp) (fun k hk => by simp [Array.getElem?_setIfInBounds, hk.symm]) rfl rfl rfl ?_
    · intro b' hb'
      cases hb'
      intro e he
      rw [appL_eq] at he
      rcases List.mem_append.1 he with he | he
      · exact hst e he
      · simp at he; subst he; exact ⟨hk, hv⟩
    · intro b' hb'
      cases hb'
      show _ = _
      have hlt := (s.blk _ _ h11).lt
      rw [appL_eq]
      simp [Array.getElem?_setIfInBounds, hlt, renE, ren_closedA h7]
  | some p =>
    simp only [updMap] at h10
    obtain ⟨e, h13, h14⟩ := ob_eq_some.1 h10
    obtain ⟨h15, h16⟩ := ite'_eq_some.1 h14
    cases h16
    rw [nth_eq] at h13
    obtain ⟨j, e', h17, h18, h19, h20⟩ := findK_at h9
    simp only [Nat.zero_add] at h17
    rw [h17, h18] at h13
    cases h13
    have hkey : (((es.map (renE μ)).toArray[p.1]?).map (·.key)).getD k = e.key := by
      rw [h17]; simp [h18, renE, ren_closedA h20]
    simp only [Option.map_some, hkey, Sem.run_bind, Instr.keyThatStays, h15, if_true, Sem.run_pure, Result.andThen_ok, run_setMap _ h12]
    refine ⟨_, rfl, ?_⟩
    refine go2_put ok s h11 ?_ (by simp) (fun k hk => by simp [Array.getElem?_setIfInBounds, hk.symm]) rfl rfl rfl ?_
    · intro b' hb'
      cases hb'
      intro x hx
      rw [modL_eq] at hx
      obtain ⟨i, hi⟩ := List.mem_iff_getElem?.1 hx
      rw [List.getElem?_modify] at hi
      cases hi0 : es[i]? with
      | none => rw [hi0] at hi; simp at hi
      | some y =>
        rw [hi0] at hi
        have hy := hst y (List.mem_of_getElem? hi0)
        simp at hi
        subst hi
        split
        · exact ⟨hk, hv⟩
        · exact hy
    · intro b' hb'
      cases hb'
      show _ = _
      have hlt := (s.blk _ _ h11).lt
      rw [modL_eq]
      simp only [Array.getElem?_setIfInBounds, hlt, if_true]
      congr 2
      apply Array.ext'
      simp only [Array.toList_modify]
      apply List.ext_getElem?
      intro i
      simp only [List.getElem?_modify, List.getElem?_map]
      cases es[i]? with
      | none => simp
      | some y =>
        by_cases hi : p.1 = i
        · simp [hi, renE, ren_closedA h7]
        · simp [hi, renE]

theorem makeMap_ok {t : TypeId} {x : Option Value} {r : Value} {h' : Hp} (ok : HpOk U h) (s : Sat P lo μ h.look w) (hlo : lo ≤ w.heap.size) (he : evMakeMap P h t x = some (r, h')) :
    ∃ μ' w', (Instr.makeMap t (x.map (ren μ))).run P w = .ok (ren μ' r) w' ∧ Go2 P U lo μ μ' h h' w w' ∧ Stable (Vis U h') r := by
  have key : ∃ μ' w', (do pure (.map (some (← newObj (.map #[] 0)))) : Sem Value).run P w = .ok (ren μ' (.map (some h.next))) w' ∧ Go2 P U lo μ μ' h (h.add (.map [] 0)) w w' ∧ Stable (Vis U (h.add (.map [] 0))) (.map (some h.next)) := by
    refine ⟨upMu μ h.next ⟨w.heap.size, 0, 0⟩, { w with heap := w.heap.push (.map #[] 0) }, ?_, ?_, ?_⟩
    · rw [ren_map1, upMu_same]; rfl
    · refine go2_add ok s hlo (by intro e he; cases he) rfl rfl rfl rfl ?_
      show _ = _
      rw [upMu_same]
      simp
    · exact stable_map (vis_new ok _)
  unfold evMakeMap at he
  cases x with
  | none =>
    cases he
    obtain ⟨μ', w', h1, h2, h3⟩ := key
    exact ⟨μ', w', by unfold Instr.makeMap; simpa using h1, h2, h3⟩
  | some v =>
    obtain ⟨d, h1, h2⟩ := ob_eq_some.1 he
    obtain ⟨h3, h4⟩ := ite'_eq_some.1 h2
    obtain ⟨kn, h5, h6⟩ := om_eq_some.1 h4
    cases h6
    rw [intOf_some] at h5
    subst h5
    obtain ⟨a, b, rfl⟩ : ∃ a b, d = .map a b := by
      unfold isMapD at h3
      split at h3
      · exact ⟨_, _, rfl⟩
      · cases h3
    obtain ⟨μ', w', g1, g2, g3⟩ := key
    refine ⟨μ', w', ?_, g2, g3⟩
    unfold Instr.makeMap
    simpa [run_underlying h1, asInt, asIntOf] using g1

/-! Ranges over maps. -/
theorem vis_add' (ok : HpOk U h) (b : Blk) {id : Nat} (hv : Vis U h id) : Vis U (h.add b) id := (vis_add ok b id).2 (.inl hv)

theorem range_ok {t : TypeId} {x r : Value} {h' : Hp} (ok : HpOk U h) (s : Sat P lo μ h.look w) (hlo : lo ≤ w.heap.size) (hx : Stable (Vis U h) x) (he : evRange P h t x = some (r, h')) :
    ∃ μ' w', (Instr.range t (ren μ x)).run P w = .ok (ren μ' r) w' ∧ Go2 P U lo μ μ' h h' w w' ∧ Stable (Vis U h') r := by
  have key : ∀ (m : Option Nat) (c : Nat), (∀ i, m = some i → Vis U h i) → ∃ μ' w', (do pure (.pointer (some ⟨← newObj (.mapIter (m.map fun r => (μ r).blk) c #[] c), 0, none⟩)) : Sem Value).run P w = .ok (ren μ' (ptr h.next 0)) w' ∧
      Go2 P U lo μ μ' h (h.add (.iter m c [] c)) w w' ∧ Stable (Vis U (h.add (.iter m c [] c))) (ptr h.next 0) := by
    intro m c hm
    refine ⟨upMu μ h.next ⟨w.heap.size, 0, 0⟩, { w with heap := w.heap.push (.mapIter (m.map fun r => (μ r).blk) c #[] c) }, ?_, ?_, ?_⟩
    · rw [ren_ptr, upMu_same]; rfl
    · refine go2_add ok s hlo (fun i hi => vis_add' ok _ (hm i hi)) rfl rfl rfl rfl ?_
      refine ⟨by rw [upMu_same], ?_⟩
      rw [upMu_same]
      cases m with
      | none => simp
      | some i => simp [upMu_ne (show i ≠ h.next from by have := (hm i rfl).1; omega)]
    · exact stable_ptr (vis_new ok _)
  unfold evRange at he
  obtain ⟨d, h1, h2⟩ := ob_eq_some.1 he
  unfold Instr.range
  rw [Sem.run_bind, run_underlying h1, Result.andThen_ok]
  unfold evRangeD at h2
  split at h2
  · cases h2
    obtain ⟨μ', w', g1, g2, g3⟩ := key none 0 (by intro i hi; cases hi)
    exact ⟨μ', w', by simpa using g1, g2, g3⟩
  · rename_i m
    obtain ⟨⟨es, c⟩, h3, h4⟩ := om_eq_some.1 h2
    cases h4
    obtain ⟨h5, h6⟩ := map_at s h3
    obtain ⟨μ', w', g1, g2, g3⟩ := key (some m) c (by intro i hi; cases hi; exact stable_map_inv hx)
    refine ⟨μ', w', ?_, g2, g3⟩
    rw [ren_map1]
    simpa [run_getMap h6] using g1
  · cases h2

theorem iterNo_some {x : Value} {r : Nat} (hx : iterNo x = some r) : x = .pointer (some ⟨r, 0, none⟩) := by
  unfold iterNo at hx
  split at hx <;> cases hx
  rfl

theorem iter_at {r : Nat} {m : Option Nat} {a : Nat} {b : List Nat} {c : Nat} (s : Sat P lo μ h.look w) (hl : h.look r = some (.iter m a b c)) :
    ren μ (.pointer (some ⟨r, 0, none⟩)) = .pointer (some ⟨(μ r).blk, 0, none⟩) ∧ w.heap[(μ r).blk]? = some (.mapIter (m.map fun r => (μ r).blk) a b.toArray c) := by
  obtain ⟨h1, h2⟩ := s.blk _ _ hl
  refine ⟨?_, h2⟩
  rw [ren_ptrA]
  unfold renA
  simp [h1]

theorem over_ren (μ : Mu) : ren μ over = .tuple #[.bool false] := by
  show ren μ (.tuple ⟨[.bool false]⟩) = _
  rw [ren_tuple]; simp
theorem over_st {S : Ids} : Stable S over := stable_tuple.2 fun x hx => by simp at hx; subst hx; exact stable_closed rfl

theorem next_ok {x r : Value} {ty : TypeId} {h' : Hp} (ok : HpOk U h) (s : Sat P lo μ h.look w) (he : evNext h x = some (r, h')) :
    ∃ w', (Instr.next (ren μ x) false ty).run P w = .ok (ren μ r) w' ∧ Go2 P U lo μ μ h h' w w' ∧ Stable (Vis U h') r := by
  unfold evNext at he
  obtain ⟨i, h1, he1⟩ := ob_eq_some.1 he
  have := iterNo_some h1
  subst this
  obtain ⟨b, h2, h3⟩ := ob_eq_some.1 he1
  clear he he1
  unfold nextIt at h3
  split at h3
  · cases h3
    obtain ⟨h4, h5⟩ := iter_at s h2
    refine ⟨w, ?_, .refl ok s, over_st⟩
    rw [h4, over_ren]
    unfold Instr.next
    simp [run_getIter h5]
  · rename_i m since seen st
    obtain ⟨⟨es, c⟩, h4, h5⟩ := ob_eq_some.1 h3
    obtain ⟨h6, h7⟩ := ite'_eq_some.1 h5
    obtain ⟨h8, h9⟩ := ite'_eq_some.1 h7
    clear h3 h5 h7
    simp only at h6 h8 h9
    rw [beq_eq] at h6
    subst h6
    obtain ⟨g1, g2⟩ := iter_at s h2
    obtain ⟨g3, g4⟩ := map_at s h4
    have hst := ok.st _ _ g3
    have hcond : (!(seen.toArray.isEmpty) && !((es.map (renE μ)).toArray.isEmpty) && ((es.map (renE μ)).toArray.all fun e => decide (e.born ≥ c))) = false := by
      unfold stepsOn at h8
      rw [isNil_eq, isNil_eq] at h8
      simp only [Bool.or_eq_true] at h8
      rcases h8 with (h8 | h8) | h8
      · simp at h8; subst h8; simp
      · simp at h8; subst h8; simp
      · simp only [List.any_eq_true, blt_eq] at h8
        obtain ⟨e, he1, he2⟩ := h8
        have : ((es.map (renE μ)).toArray.all fun e => decide (e.born ≥ c)) = false := by
          rw [← Bool.not_eq_true]
          intro hall
          simp only [List.all_toArray, List.all_map, List.all_eq_true, Function.comp, decide_eq_true_eq] at hall
          have := hall e he1
          have hb : (renE μ e).born = e.born := rfl
          omega
        rw [this]; simp
    have hleft : ((es.map (renE μ)).toArray.filter fun e => !seen.toArray.contains e.born) = ((es.filter fun e => !(seen.contains e.born)).map (renE μ)).toArray := by
      rw [List.filter_toArray, List.filter_map]
      congr 2
      apply List.filter_congr
      intro e _
      by_cases hm : e.born ∈ seen <;> simp [renE, hm]
    rw [g1]
    unfold Instr.next
    simp only [Sem.run_bind, run_getIter g2, Option.map_some, Result.andThen_ok, run_getMap g4, hleft]
    rw [hcond]
    generalize hfl : (es.filter fun e => !(seen.contains e.born)) = left at h9
    have hmem : ∀ e ∈ left, e ∈ es := fun e he => by rw [← hfl] at he; exact (List.mem_filter.1 he).1
    unfold nextOf at h9
    split at h9
    · cases h9
      refine ⟨w, ?_, .refl ok s, over_st⟩
      rw [over_ren]
      simp [choose, Sem.run, Question.forced]
    · rename_i e
      obtain ⟨k1, k2⟩ := ite'_eq_some.1 h9
      rw [blt_eq] at k1
      cases k2
      have hnl : ¬ since ≤ (renE μ e).born := by show ¬ since ≤ e.born; omega
      have hlt : (renE μ e).born < since := k1
      have hlt' := (s.blk _ _ h2).lt
      refine ⟨{ w with heap := w.heap.setIfInBounds (μ i).blk (.mapIter (some (μ m).blk) since (seen.toArray.push e.born) c) }, ?_, ?_, ?_⟩
      · have hr : ren μ (.tuple #[.bool true, e.key, e.val]) = .tuple #[.bool true, ren μ e.key, ren μ e.val] := by
          show ren μ (.tuple ⟨[.bool true, e.key, e.val]⟩) = _
          rw [ren_tuple]; simp
        rw [hr]
        simp [choose, Sem.run, Question.forced, hlt, hnl, renE, run_setIter _ g2, show ¬ since ≤ e.born from by omega, show e.born < since from k1]
      · refine go2_put ok s h2 ?_ (by simp) (fun k hk => by simp [Array.getElem?_setIfInBounds, hk.symm]) rfl rfl rfl ?_
        · intro b' hb'
          cases hb'
          have hs2 := ok.st _ _ h2
          exact hs2
        · intro b' hb'
          cases hb'
          refine ⟨(s.blk _ _ h2).1, ?_⟩
          rw [appL_eq]
          simp [Array.getElem?_setIfInBounds, hlt']
      · refine stable_tuple.2 fun v hv => ?_
        have he := hst e (hmem e (by simp))
        simp at hv
        rcases hv with rfl | rfl | rfl
        · exact stable_closed rfl
        · exact he.1.mono fun id hi => (vis_put _ _ _).2 hi
        · exact he.2.mono fun id hi => (vis_put _ _ _).2 hi
    · cases h9
  · cases h3

theorem entry_ok {x r : Value} (ok : HpOk U h) (s : Sat P lo μ h.look w) (he : evEntry h x = some r) : (Instr.entry (ren μ x)).run P w = .ok (ren μ r) w ∧ Stable (Vis U h) r := by
  unfold evEntry at he
  obtain ⟨i, h1, he1⟩ := ob_eq_some.1 he
  have := iterNo_some h1
  subst this
  obtain ⟨b, h2, h3⟩ := ob_eq_some.1 he1
  clear he he1
  unfold entryOf at h3
  split at h3
  · rename_i m since seen st
    obtain ⟨sn, h4, h5⟩ := ob_eq_some.1 h3
    obtain ⟨⟨es, c⟩, h6, h7⟩ := ob_eq_some.1 h5
    obtain ⟨h8, h9⟩ := ite'_eq_some.1 h7
    rw [beq_eq] at h8
    simp only at h8
    subst h8
    obtain ⟨e, h10, h11⟩ := om_eq_some.1 h9
    subst h11
    simp only at h10
    obtain ⟨g1, g2⟩ := iter_at s h2
    obtain ⟨g3, g4⟩ := map_at s h6
    have hst := ok.st _ _ g3
    have he := hst e (List.mem_of_find?_eq_some h10)
    refine ⟨?_, ?_⟩
    · rw [g1]
      have hr : ren μ (.tuple #[e.key, e.val]) = .tuple #[ren μ e.key, ren μ e.val] := by
        show ren μ (.tuple ⟨[e.key, e.val]⟩) = _
        rw [ren_tuple]; simp
      rw [hr]
      have hb : seen.toArray.back? = some sn := by simpa using h4
      have hf : (es.map (renE μ)).toArray.find? (fun e => e.born == sn) = some (renE μ e) := by
        rw [List.find?_toArray, List.find?_map]
        have : ((fun e : MapEntry => e.born == sn) ∘ renE μ) = fun e => Nat.beq e.born sn := by
          funext x
          show (x.born == sn) = Nat.beq x.born sn
          rw [Bool.eq_iff_iff, beq_eq, beq_iff_eq]
        rw [this, h10]; rfl
      unfold Instr.entry
      simp only [Sem.run_bind, run_getIter g2, Option.map_some, Result.andThen_ok, hb, run_getMap g4, hf, bne_self_eq_false]
      rfl
    · refine stable_tuple.2 fun v hv => ?_
      simp at hv
      rcases hv with rfl | rfl
      · exact he.1
      · exact he.2
  · cases h3

end
end Go.Ev
