import Derived.Test.YtgkfjelbenbnnaaGreatEvS
import Derived.Deep.LoopGhost
import Derived.Recover
namespace Go.Ev
set_option linter.unusedVariables false
set_option linter.unusedSimpArgs false

/-! Code. -/

section
variable {P : Program} {U : Ids} {lo : Nat} {μ : Mu} {h : Hp} {w : World} {f : Fr} {a : Act}

theorem CodePost.trans {μ1 : Mu} {h1 : Hp} {w1 : World} {e : Ex} {f' : Fr} {h' : Hp} {ex : Exit} {a' : Act} {w' : World} (g : Go2 P U lo μ μ1 h h1 w w1) (p : CodePost P U lo μ1 h1 w1 e f' h' ex a' w') :
    CodePost P U lo μ h w e f' h' ex a' w' := by
  obtain ⟨μ', g', fr, x⟩ := p
  exact ⟨μ', g.trans g', fr, x⟩

theorem onNormal_some {r : Res} {k : Fr → Hp → Res} {e : Ex} {f' : Fr} {h' : Hp} (he : onNormal r k = .ok e f' h') : (∃ f1 h1, r = .ok .normal f1 h1 ∧ k f1 h1 = .ok e f' h') ∨ (r = .ok e f' h' ∧ e ≠ .normal) := by
  cases r with
  | fail => cases he
  | ok e1 f1 h1 =>
    cases e1 with
    | normal => exact .inl ⟨f1, h1, rfl, he⟩
    | exit i => cases he; exact .inr ⟨rfl, by simp⟩
    | ret => cases he; exact .inr ⟨rfl, by simp⟩
    | panic v => cases he; exact .inr ⟨rfl, by simp⟩

theorem then_of {next : Act → World → Prop} {Q : Exit → Act → World → Prop} {ex : Exit} {a' : Act} {w' : World} (h1 : ex = .normal → next a' w') (h2 : ex ≠ .normal → Q ex a' w') : Exit.then next Q ex a' w' := by
  cases ex <;> first | exact h1 rfl | exact h2 (by simp)

theorem exOk_normal {S : Ids} {μ : Mu} {e : Ex} {ex : Exit} (h : ExOk S μ e ex) : (e = .normal ↔ ex = .normal) := by
  cases e <;> cases ex <;> simp_all [ExOk]

/-- Two pieces, one behind the other. -/
theorem seq_ok {x y : Code} {code1 code2 : CodeK} (h1 : ∀ e f' h', code1 x f h = .ok e f' h' → x.wp P (CodePost P U lo μ h w e f' h') a w) (h2 : CodeOk P code2) (hlo : lo ≤ w.heap.size) {e : Ex} {f' : Fr} {h' : Hp}
    (he : onNormal (code1 x f h) (code2 y) = .ok e f' h') : x.wp P (Exit.then (y.wp P (CodePost P U lo μ h w e f' h')) (CodePost P U lo μ h w e f' h')) a w := by
  rcases onNormal_some he with ⟨f1, h1', g1, g2⟩ | ⟨g1, g2⟩
  · refine wp_mono (h1 _ _ _ g1) fun ex a' w' p => ?_
    obtain ⟨μ1, q1, q2, q3⟩ := p
    refine then_of (fun _ => ?_) (fun hx => absurd ((exOk_normal q3).1 rfl) hx)
    exact wp_mono (h2 y f1 h1' e f' h' g2 U lo μ1 w' a' q1.ok q1.sat (size_go q1 hlo) q2) fun ex a2 w2 p => p.trans q1
  · refine wp_mono (h1 _ _ _ g1) fun ex a' w' p => ?_
    obtain ⟨μ1, q1, q2, q3⟩ := p
    exact then_of (fun hx => absurd ((exOk_normal q3).2 hx) g2) (fun _ => ⟨μ1, q1, q2, q3⟩)

theorem outOf_some {id : Nat} {r : Res} {e : Ex} {f' : Fr} {h' : Hp} (he : outOf id r = .ok e f' h') : ∃ e1, r = .ok e1 f' h' ∧ ((e1 = .exit id ∧ e = .normal) ∨ (e1 ≠ .exit id ∧ e = e1)) := by
  cases r with
  | fail => cases he
  | ok e1 f1 h1 =>
    cases e1 with
    | normal => cases he; exact ⟨_, rfl, .inr ⟨by simp, rfl⟩⟩
    | exit i =>
      replace he : ite' (Nat.beq i id) (Res.ok .normal f1 h1) (.ok (.exit i) f1 h1) = .ok e f' h' := he
      rw [ite'_eq] at he
      split at he
      · rename_i hc
        rw [beq_eq] at hc
        subst hc
        cases he
        exact ⟨_, rfl, .inl ⟨rfl, rfl⟩⟩
      · rename_i hc
        rw [beq_eq] at hc
        cases he
        exact ⟨_, rfl, .inr ⟨by simpa using hc, rfl⟩⟩
    | ret => cases he; exact ⟨_, rfl, .inr ⟨by simp, rfl⟩⟩
    | panic v => cases he; exact ⟨_, rfl, .inr ⟨by simp, rfl⟩⟩

theorem bool_eval {c : Operand} {t : Bool} (ok : HpOk U h) (s : Sat P lo μ h.look w) (fr : FrOk U μ h f a) (hc : okOpnd c = true) (hb : boolOf? (f.eval c) = some t) : a.eval c = .bool t := by
  rw [boolOf_some] at hb
  rw [(eval_ok ok s fr hc).1, hb, ren_bool]

end

/-- All but the loops. -/
theorem code_ok {P : Program} (hm : P.follows .mixedOrders = true) {call : CallK} {code : CodeK} (hcall : CallOk P call) (hcode : CodeOk P code) {c : Code} {f : Fr} {h : Hp} {e : Ex} {f' : Fr} {h' : Hp}
    (he : evCode P call code c f h = .ok e f' h') (hl : ∀ b, c ≠ .loop b) {U : Ids} {lo : Nat} {μ : Mu} {w : World} {a : Act} (ok : HpOk U h) (s : Sat P lo μ h.look w) (hlo : lo ≤ w.heap.size) (fr : FrOk U μ h f a) :
    c.wp P (CodePost P U lo μ h w e f' h') a w := by
  cases c with
  | skip => cases he; exact wp_skip ⟨μ, .refl ok s, fr, trivial⟩
  | label l => cases he; exact wp_label ⟨μ, .refl ok s, fr, trivial⟩
  | exit id => cases he; exact wp_exit ⟨μ, .refl ok s, fr, rfl⟩
  | ret => cases he; exact wp_ret ⟨μ, .refl ok s, fr, trivial⟩
  | rangeFunc => cases he
  | scope => cases he
  | goto => cases he
  | refuse => cases he
  | loop b => exact absurd rfl (hl b)
  | region id ops draw =>
    cases draw with
    | true =>
      replace he : ite' (drawOk ops) (evDraw P call ops ops.toList (incs ops) [] f h) .fail = .ok e f' h' := he
      rw [ite'_eq] at he
      split at he
      · exact draw_ok hm hcall ‹_› he ok s hlo fr
      · cases he
    | false =>
      replace he : evList P call ops ops.toList f h = .ok e f' h' := he
      refine wp_region ?_
      have := list_ok (Q := CodePost P U lo μ h w e f' h') hcall ops.toList 0 f h e f' h' he rfl μ w a ok s hlo fr fun _ _ _ p => p
      rwa [show List.range' 0 ops.toList.length = List.range ops.size from by rw [List.range_eq_range']; simp] at this
  | seq x y =>
    replace he : onNormal (code x f h) (code y) = .ok e f' h' := he
    exact wp_seq (seq_ok (code1 := code) (fun e f' h' g => hcode x f h e f' h' g U lo μ w a ok s hlo fr) hcode hlo he)
  | cond c x y =>
    replace he : (ite' (okOpnd c) (cCond c x y) cNo) P call code f h = .ok e f' h' := he
    rw [ite'_eq] at he
    split at he
    · rename_i hc
      replace he : condV (f.eval c) (code x f h) (code y f h) = .ok e f' h' := he
      unfold condV at he
      cases hb : boolOf? (f.eval c) with
      | none => rw [hb] at he; cases he
      | some t =>
        rw [hb] at he
        refine wp_cond (bool_eval ok s fr hc hb) ?_
        cases t with
        | true => exact hcode x f h e f' h' he U lo μ w a ok s hlo fr
        | false => exact hcode y f h e f' h' he U lo μ w a ok s hlo fr
    · cases he
  | block id b =>
    replace he : outOf id (code b f h) = .ok e f' h' := he
    obtain ⟨e1, h1, h2⟩ := outOf_some he
    refine wp_block (wp_mono (hcode b f h e1 f' h' h1 U lo μ w a ok s hlo fr) fun ex a' w' p => ?_)
    obtain ⟨μ', q1, q2, q3⟩ := p
    rcases h2 with ⟨rfl, rfl⟩ | ⟨h2, rfl⟩
    · cases ex <;> simp only [ExOk] at q3
      subst q3
      simp only [Exit.inBlock, if_true]
      exact ⟨μ', q1, q2, trivial⟩
    · cases ex with
      | exit j =>
        simp only [Exit.inBlock]
        rw [if_neg]
        · exact ⟨μ', q1, q2, q3⟩
        · rintro rfl
          cases e <;> simp only [ExOk] at q3
          subst q3
          exact h2 rfl
      | normal => exact ⟨μ', q1, q2, q3⟩
      | ret => exact ⟨μ', q1, q2, q3⟩
      | panic ch => exact ⟨μ', q1, q2, q3⟩
      | goto l => exact ⟨μ', q1, q2, q3⟩
      | outgrown => exact ⟨μ', q1, q2, q3⟩

/-- A loop, by its rounds' fuel. -/
theorem loop_ok {P : Program} (n : Nat) (hcode : ∀ m, m ≤ n → CodeOk P (ev P m).code) {b : Code} {f : Fr} {h : Hp} {e : Ex} {f' : Fr} {h' : Hp}
    (he : (ev P (n + 1)).code (.loop b) f h = .ok e f' h') {U : Ids} {lo : Nat} {μ : Mu} {w : World} {a : Act} (ok : HpOk U h) (s : Sat P lo μ h.look w) (hlo : lo ≤ w.heap.size) (fr : FrOk U μ h f a) :
    (Code.loop b).wp P (CodePost P U lo μ h w e f' h') a w := by
  refine wp_loop_ghost (fun m a1 w1 => m ≤ n + 1 ∧ ∃ f1 h1 μ1, (ev P m).code (.loop b) f1 h1 = .ok e f' h' ∧ Go2 P U lo μ μ1 h h1 w w1 ∧ FrOk U μ1 h1 f1 a1) (n + 1) ⟨Nat.le_refl _, f, h, μ, he, .refl ok s, fr⟩ ?_
  rintro m a1 w1 ⟨hm, f1, h1, μ1, he1, g, fr1⟩
  cases m with
  | zero => cases he1
  | succ m =>
    replace he1 : onNormal ((ev P m).code b f1 h1) ((ev P m).code (.loop b)) = .ok e f' h' := he1
    have hb := hcode m (by omega)
    rcases onNormal_some he1 with ⟨f2, h2, g1, g2⟩ | ⟨g1, g2⟩
    · refine wp_mono (hb b f1 h1 _ _ _ g1 U lo μ1 w1 a1 g.ok g.sat (size_go g hlo) fr1) fun ex a' w' p => ?_
      obtain ⟨μ2, q1, q2, q3⟩ := p
      exact then_of (fun _ => ⟨m, Nat.lt_succ_self m, by omega, f2, h2, μ2, g2, g.trans q1, q2⟩) (fun hx => absurd ((exOk_normal q3).1 rfl) hx)
    · refine wp_mono (hb b f1 h1 _ _ _ g1 U lo μ1 w1 a1 g.ok g.sat (size_go g hlo) fr1) fun ex a' w' p => ?_
      have q3 := p
      obtain ⟨μ2, _, _, q3⟩ := q3
      exact then_of (fun hx => absurd ((exOk_normal q3).2 hx) g2) (fun _ => p.trans g)

/-! Functions. -/
section
variable {P : Program} {U : Ids} {lo : Nat} {μ : Mu} {h : Hp} {w : World} {f : Fr} {a : Act}

theorem argTree_get : ∀ (l : List Value) (i : Nat) (t : Tm), i + l.length ≤ 512 → ∀ j, j < 512 → getTm j (argTree l i t) = if i ≤ j ∧ j < i + l.length then l.getD (j - i) undef else getTm j t := by
  intro l
  induction l with
  | nil => intro i t _ j _; rw [if_neg (by simp only [List.length_nil]; omega)]; try rfl
  | cons v l ih =>
    intro i t hl j hj
    simp only [List.length_cons] at hl
    show getTm j (argTree l (i + 1) (putTm0 i ⟨v⟩ t)) = _
    rw [ih (i + 1) _ (by omega) j hj, getTm_put j i v t hj (by omega)]
    simp only [List.length_cons]
    by_cases h1 : j = i
    · subst h1
      rw [if_neg (by omega), if_pos rfl, if_pos (by omega)]
      simp
    · rw [if_neg h1]
      by_cases h2 : i + 1 ≤ j ∧ j < i + 1 + l.length
      · rw [if_pos h2, if_pos (by omega), show j - i = (j - (i + 1)) + 1 from by omega]
        simp
      · rw [if_neg h2, if_neg (by omega)]

/-- A function's frame at its start. -/
theorem frame_ok {fn : Func} {args : List Value} (hle : Nat.ble (maxN (lenL args) fn.ntmps) 512 = true) (hst : ∀ v ∈ args, Stable (Vis U h) v) :
    FrOk U μ h (frameOf fn args) { tmps := (args.map (ren μ)).toArray ++ Array.replicate (fn.ntmps - (args.map (ren μ)).toArray.size) undef, defers := [] } := by
  rw [ble_eq, maxN_eq, lenL_eq] at hle
  have hsz : (frameOf fn args).sz = max args.length fn.ntmps := by
    show maxN (lenL args) fn.ntmps = _
    rw [maxN_eq, lenL_eq]
  have htm : ∀ t, t < 512 → getTm t (frameOf fn args).tm = if t < args.length then args.getD t undef else undef := by
    intro t ht
    show getTm t (argTree args 0 tm0) = _
    rw [argTree_get args 0 tm0 (by omega) t ht, getTm_tm0]
    simp
  refine ⟨?_, by rw [hsz]; omega, ?_, ?_, rfl, ?_⟩
  · rw [hsz]; simp; omega
  · intro t ht
    rw [htm t ht, Array.getD_eq_getD_getElem?, Array.getElem?_append]
    simp only [List.size_toArray, List.length_map]
    by_cases h1 : t < args.length
    · rw [if_pos h1, if_pos h1]
      simp [h1]
    · rw [if_neg h1, if_neg h1, Array.getElem?_replicate, ren_undef]
      split <;> rfl
  · intro t ht
    rw [htm t ht]
    split
    · rename_i h1
      have : args.getD t undef = args[t] := by simp [h1]
      rw [this]
      exact hst _ (List.getElem_mem h1)
    · exact stable_of_const (ren_undef ·)
  · intro d hd; cases hd

/-- One result. -/
theorem result_ok {r : ResultVar} {v : Value} (ok : HpOk U h) (s : Sat P lo μ h.look w) (fr : FrOk U μ h f a) (he : evResult P f h r = some v) :
    (match r with
      | .tmp t => (pure (a.tmps.getD t undef) : Sem Value)
      | .cell p t => do loadVar t (← asAddr (a.tmps.getD p undef))).run P w = .ok (ren μ v) w ∧ Stable (Vis U h) v := by
  cases r with
  | tmp t =>
    obtain ⟨h1, h2⟩ := ite'_eq_some.1 (he : ite' (Nat.blt t 512) (some (getTm t f.tm)) none = some v)
    rw [blt_eq] at h1
    cases h2
    refine ⟨?_, fr.st t h1⟩
    simp only [fr.val t h1]
    rfl
  | cell p t =>
    obtain ⟨h1, h2⟩ := ite'_eq_some.1 (he : ite' (Nat.blt p 512) (evLoad P h t (getTm p f.tm)) none = some v)
    rw [blt_eq] at h1
    obtain ⟨g1, g2⟩ := load_ok ok s h2
    refine ⟨?_, g2⟩
    simp only [fr.val p h1]
    have : ∃ ad, getTm p f.tm = .pointer (some ad) := by
      unfold evLoad at h2
      obtain ⟨ad, h3, _⟩ := ob_eq_some.1 h2
      rw [addrOf_some] at h3
      exact ⟨ad, h3⟩
    obtain ⟨ad, had⟩ := this
    rw [had, ren_ptrA] at g1 ⊢
    simpa [Instr.loadAt, Instr.sureAddr, asAddr] using g1

theorem results_ok {fn : Func} {v : Value} (ok : HpOk U h) (s : Sat P lo μ h.look w) (fr : FrOk U μ h f a) (he : evResults P fn f h = some v) :
    (results fn a.tmps).run P w = .ok (ren μ v) w ∧ Stable (Vis U h) v := by
  unfold evResults at he
  obtain ⟨l, h1, h2⟩ := om_eq_some.1 he
  have key : ∀ (rs : List ResultVar) (l : List Value), evResultsL P f h rs = some l → (rs.mapM fun (r : ResultVar) => (match r with
      | .tmp t => (pure (a.tmps.getD t undef) : Sem Value)
      | .cell p t => do loadVar t (← asAddr (a.tmps.getD p undef)))).run P w = .ok (l.map (ren μ)) w ∧ ∀ v ∈ l, Stable (Vis U h) v := by
    intro rs
    induction rs with
    | nil => intro l hl; cases hl; exact ⟨rfl, by simp⟩
    | cons r rs ih =>
      intro l hl
      obtain ⟨x, h3, h4⟩ := ob_eq_some.1 (hl : ob (evResult P f h r) (fun v => om (evResultsL P f h rs) (v :: ·)) = some l)
      obtain ⟨xs, h5, h6⟩ := om_eq_some.1 h4
      subst h6
      obtain ⟨g1, g2⟩ := result_ok ok s fr h3
      obtain ⟨g3, g4⟩ := ih xs h5
      refine ⟨?_, ?_⟩
      · rw [List.mapM_cons, Sem.run_bind, g1, Result.andThen_ok, Sem.run_bind, g3, Result.andThen_ok]
        rfl
      · intro v hv
        rcases List.mem_cons.1 hv with rfl | hv
        · exact g2
        · exact g4 v hv
  obtain ⟨g1, g2⟩ := key _ _ h1
  have hres : (results fn a.tmps).run P w = .ok (if hs : (l.map (ren μ)).toArray.size = 1 then (l.map (ren μ)).toArray[0] else .tuple (l.map (ren μ)).toArray) w := by
    unfold results
    obtain ⟨rs, hrs⟩ : ∃ rs : List ResultVar, fn.results = ⟨rs⟩ := ⟨fn.results.toList, rfl⟩
    rw [hrs] at g1 ⊢
    rw [Sem.run_bind, List.mapM_toArray, Sem.run_map]
    erw [g1]
    rfl
  rw [hres]
  subst h2
  match l, g2 with
  | [], _ => exact ⟨by rw [show packL [] = .tuple ⟨[]⟩ from rfl, ren_tuple]; rfl, stable_of_const fun μ => by rw [show packL [] = .tuple ⟨[]⟩ from rfl, ren_tuple]; rfl⟩
  | [x], g2 => exact ⟨rfl, g2 x (.head _)⟩
  | x :: y :: l, g2 =>
    refine ⟨?_, stable_tuple.2 g2⟩
    rw [show packL (x :: y :: l) = .tuple ⟨x :: y :: l⟩ from rfl, ren_tuple]
    rw [dif_neg (by simp)]

end
end Go.Ev
