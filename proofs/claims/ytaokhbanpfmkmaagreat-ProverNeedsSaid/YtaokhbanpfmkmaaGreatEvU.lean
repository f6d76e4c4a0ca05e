/- A verified evaluator: a part of it. -/
import Derived.Test.YtaokhbanpfmkmaaGreatEvW
namespace Go.Ev
set_option linter.unusedVariables false
set_option linter.unusedSimpArgs false

/-! Deferred calls, recover; the evaluator's answers hold. -/

/-- What panics in the frame that makes the deferred calls. -/
def ModeOk (S : Ids) (μ : Mu) : Option Value → FrameMode → Prop
  | some v, u => Stable S v ∧ u = .panicking [{ v := ren μ v, recovered := false }]
  | none, u => u = .returning ∨ ∃ v, u = .panicking [{ v, recovered := true }]

section
variable {P : Program} [NG P] {U : Ids} {lo : Nat} {μ : Mu} {h : Hp} {w : World} {f : Fr} {a : Act}

omit [NG P] in
theorem ModeOk.go {μ' : Mu} {h' : Hp} {w' : World} {p : Option Value} {u : FrameMode} (g : Go2 P U lo μ μ' h h' w w') (m : ModeOk (Vis U h) μ p u) : ModeOk (Vis U h') μ' p u := by
  cases p with
  | none => exact m
  | some v =>
    obtain ⟨h1, h2⟩ := m
    exact ⟨g.stable h1, by rw [g.ren h1]; exact h2⟩

theorem mode_settle {S : Ids} {p : Option Value} {u : FrameMode} (m : ModeOk S μ p u) : settle u = (match p with | some v => .panicking [{ v := ren μ v, recovered := false }] | none => .returning) := by
  cases p with
  | some v => obtain ⟨_, rfl⟩ := m; rfl
  | none =>
    rcases m with rfl | ⟨v, rfl⟩
    · rfl
    · rfl

/-- A deferred function's code's end. -/
def PostR (P : Program) (U : Ids) (lo : Nat) (μ : Mu) (h : Hp) (w : World) (c0 : Frame) (cs : List Frame) (e : Ex) (p' : Option Value) (f' : Fr) (h' : Hp) : Exit → Act → List Frame → World → Prop :=
  fun ex a' cs' w' => ∃ μ' u', cs' = { c0 with mode := u' } :: cs ∧ Go2 P U lo μ μ' h h' w w' ∧ FrOk U μ' h' f' a' ∧ ExOk (Vis U h') μ' e ex ∧ ModeOk (Vis U h') μ' p' u'

omit [NG P] in
theorem PostR.trans {μ1 : Mu} {h1 : Hp} {w1 : World} {c0 : Frame} {cs : List Frame} {e : Ex} {p' : Option Value} {f' : Fr} {h' : Hp} {ex : Exit} {a' : Act} {cs' : List Frame} {w' : World} (g : Go2 P U lo μ μ1 h h1 w w1) {u : FrameMode}
    (p : PostR P U lo μ1 h1 w1 { c0 with mode := u } cs e p' f' h' ex a' cs' w') : PostR P U lo μ h w c0 cs e p' f' h' ex a' cs' w' := by
  obtain ⟨μ', u', q1, q2, q3, q4, q5⟩ := p
  exact ⟨μ', u', q1, g.trans q2, q3, q4, q5⟩

theorem isRecover_some {op : Op} (hr : isRecover op = true) : ∃ args ts, op = .call ⟨.builtin .recover, args, ts⟩ := by
  unfold isRecover at hr
  split at hr
  · exact ⟨_, _, rfl⟩
  · cases hr

omit [NG P] in
theorem run_recover {ρ : Operand → Value} {o : Oper} (hr : isRecover o.op = true) : (execOp ρ o).run P w = .ok .recover w := by
  obtain ⟨args, ts, h1⟩ := isRecover_some hr
  obtain ⟨dst, op, ty, pos, after, guard⟩ := o
  simp only at h1
  subst h1
  rfl

theorem recoverD_mode {c0 : Frame} {cs : List Frame} {p : Option Value} {u : FrameMode} {S : Ids} (m : ModeOk S μ p u) :
    (match p with
      | some v => recoverD ({ c0 with mode := u } :: cs) = some (ren μ v, { c0 with mode := .panicking [{ v := ren μ v, recovered := true }] } :: cs)
      | none => recoverD ({ c0 with mode := u } :: cs) = none) := by
  cases p with
  | some v => obtain ⟨_, rfl⟩ := m; rfl
  | none =>
    rcases m with rfl | ⟨v, rfl⟩
    · rfl
    · rfl

theorem onNormalR_some {r : ResR} {k : Option Value → Fr → Hp → ResR} {e : Ex} {p' : Option Value} {f' : Fr} {h' : Hp} (he : onNormalR r k = .ok e p' f' h') :
    (∃ p1 f1 h1, r = .ok .normal p1 f1 h1 ∧ k p1 f1 h1 = .ok e p' f' h') ∨ (r = .ok e p' f' h' ∧ e ≠ .normal) := by
  unfold onNormalR at he
  split at he
  · exact .inl ⟨_, _, _, rfl, he⟩
  · rename_i hn
    refine .inr ⟨he, ?_⟩
    rintro rfl
    exact hn _ _ _ he

theorem of_some {p : Option Value} {r : Res} {e : Ex} {p' : Option Value} {f' : Fr} {h' : Hp} (he : ResR.of p r = .ok e p' f' h') : r = .ok e f' h' ∧ p' = p := by
  cases r with
  | fail => cases he
  | ok => cases he; exact ⟨rfl, rfl⟩

theorem listR_ok {call : CallK} (hcall : CallOk P call) {ops : Array Oper} {c0 : Frame} {cs : List Frame} {Q : Exit → Act → List Frame → World → Prop} :
    ∀ (l : List Oper) (k : Nat) (p : Option Value) (f : Fr) (h : Hp) (e : Ex) (p' : Option Value) (f' : Fr) (h' : Hp), evListR P call ops l p f h = .ok e p' f' h' → ops.toList.drop k = l →
    ∀ (μ : Mu) (w : World) (a : Act) (u : FrameMode), HpOk U h → Sat P lo μ h.look w → lo ≤ w.heap.size → FrOk U μ h f a → ModeOk (Vis U h) μ p u →
    (∀ ex a' cs' w', PostR P U lo μ h w c0 cs e p' f' h' ex a' cs' w' → Q ex a' cs' w') → wpOpsS P ops Q (List.range' k l.length) a ({ c0 with mode := u } :: cs) w := by
  intro l
  induction l with
  | nil =>
    intro k p f h e p' f' h' he _ μ w a u ok s hlo fr m hq
    cases he
    exact hq _ _ _ _ ⟨μ, u, rfl, .refl ok s, fr, trivial, m⟩
  | cons o l ih =>
    intro k p f h e p' f' h' he hl μ w a u ok s hlo fr m hq
    have ho : ops[k]? = some o := by
      have : (ops.toList.drop k)[0]? = some o := by rw [hl]; rfl
      rw [List.getElem?_drop] at this
      simpa using this
    have hl' : ops.toList.drop (k + 1) = l := by
      rw [← List.drop_drop, hl]; rfl
    replace he : ite' (ite' (wantedF ops f o.guard) (isRecover o.op) false)
      (onNormalR (.of none (putTm f h o.dst (nilOr p))) (evListR P call ops l))
      (onNormalR (.of p (evOne P (noRound call) ops o f h)) (evListR P call ops l)) = .ok e p' f' h' := he
    rw [List.length_cons, List.range'_succ]
    unfold wpOpsS
    simp only [ho]
    rw [ite'_eq] at he
    split at he
    · -- recover
      rename_i hc
      obtain ⟨hw, hr⟩ : wantedF ops f o.guard = true ∧ isRecover o.op = true := by
        cases hw : wantedF ops f o.guard with
        | false => rw [hw] at hc; cases hc
        | true => rw [hw] at hc; exact ⟨rfl, hc⟩
      rw [wanted_ok fr, hw]
      simp only [if_true, run_recover hr]
      have hv : Stable (Vis U h) (nilOr p) := by
        cases p with
        | none => exact stable_closed rfl
        | some v => exact m.1
      have put : ∀ {e1 f1 h1}, putTm f h o.dst (nilOr p) = .ok e1 f1 h1 → e1 = .normal ∧ h1 = h ∧ FrOk U μ h f1 (a.put o.dst (ren μ (nilOr p))) := fun hp => by
        obtain ⟨k1, k2, k3, _⟩ := fr.put hv hp
        exact ⟨k1, k2, k3⟩
      rcases onNormalR_some he with ⟨p1, f1, h1, g1, g2⟩ | ⟨g1, g2⟩
      · obtain ⟨g3, rfl⟩ := of_some g1
        obtain ⟨_, rfl, k3⟩ := put g3
        have rec' := recoverD_mode (c0 := c0) (cs := cs) m
        cases p with
        | none =>
          simp only at rec'
          rw [rec']
          simp only
          rw [show ren μ (nilOr none) = .nilIface from ren_nilIface μ] at k3
          exact ih (k + 1) _ f1 _ e p' f' h' g2 hl' μ w _ u ok s hlo k3 m hq
        | some v =>
          simp only at rec'
          rw [rec']
          simp only
          exact ih (k + 1) _ f1 _ e p' f' h' g2 hl' μ w _ _ ok s hlo k3 (.inr ⟨_, rfl⟩) hq
      · obtain ⟨g3, rfl⟩ := of_some g1
        exact absurd (put g3).1 g2
    · have key : (∀ {Q2 : Exit → Act → World → Prop}, (∀ v a' w', Q2 (.panic v) a' w' → Q (.panic v) a' ({ c0 with mode := u } :: cs) w') → True) := fun _ => trivial
      have hstep : if Region.wanted o (yielded ops a.tmps) then o.wp P a w (fun a' w' => wpOpsS P ops Q (List.range' (k + 1) l.length) a' ({ c0 with mode := u } :: cs) w') (fun e a' w' => Q e a' ({ c0 with mode := u } :: cs) w')
          else wpOpsS P ops Q (List.range' (k + 1) l.length) (a.put o.dst undef) ({ c0 with mode := u } :: cs) w := by
        rcases onNormalR_some he with ⟨p1, f1, h1, g1, g2⟩ | ⟨g1, g2⟩
        · obtain ⟨g3, rfl⟩ := of_some g1
          refine one_ok0 (next := fun a' w' => wpOpsS P ops Q (List.range' (k + 1) l.length) a' ({ c0 with mode := u } :: cs) w') (Q := fun e a' w' => Q e a' ({ c0 with mode := u } :: cs) w') hcall g3 ok s hlo fr (fun _ μ' a' w' g fr' => ?_) (fun v hv => by cases hv)
          refine ih (k + 1) _ f1 h1 e p' f' h' g2 hl' μ' w' a' u g.ok g.sat (size_go g hlo) fr' (m.go g) fun ex a2 cs2 w2 q => hq _ _ _ _ ?_
          exact PostR.trans (u := c0.mode) g q
        · obtain ⟨g3, rfl⟩ := of_some g1
          refine one_ok0 (next := fun a' w' => wpOpsS P ops Q (List.range' (k + 1) l.length) a' ({ c0 with mode := u } :: cs) w') (Q := fun e a' w' => Q e a' ({ c0 with mode := u } :: cs) w') hcall g3 ok s hlo fr (fun hn => absurd hn g2) (fun v hv μ' w' g fr' st => ?_)
          subst hv
          exact hq _ _ _ _ ⟨μ', u, rfl, g, fr', ⟨st, rfl⟩, m.go g⟩
      split
      · rename_i hw
        rw [if_pos hw] at hstep
        unfold Oper.wp at hstep
        split
        · rename_i w' hr
          rw [hr] at hstep
          exact hstep.elim
        · exact hstep
      · rename_i hw
        rw [if_neg hw] at hstep
        exact hstep

theorem codeR_ok {call : CallK} {code : CodeK} (hcall : CallOk P call) (hcode : CodeOk P code) {c0 : Frame} {cs : List Frame} : ∀ (c : Code) (p : Option Value) (f : Fr) (h : Hp) (e : Ex) (p' : Option Value) (f' : Fr) (h' : Hp), evCodeR P call code c p f h = .ok e p' f' h' →
    ∀ (μ : Mu) (w : World) (a : Act) (u : FrameMode), HpOk U h → Sat P lo μ h.look w → lo ≤ w.heap.size → FrOk U μ h f a → ModeOk (Vis U h) μ p u →
    c.wpS P (PostR P U lo μ h w c0 cs e p' f' h') a ({ c0 with mode := u } :: cs) w := by
  have plain : ∀ (c : Code) (p : Option Value) (f : Fr) (h : Hp) (e : Ex) (p' : Option Value) (f' : Fr) (h' : Hp), ResR.of p (code c f h) = .ok e p' f' h' →
      ∀ (μ : Mu) (w : World) (a : Act) (u : FrameMode), HpOk U h → Sat P lo μ h.look w → lo ≤ w.heap.size → FrOk U μ h f a → ModeOk (Vis U h) μ p u →
      c.wpS P (PostR P U lo μ h w c0 cs e p' f' h') a ({ c0 with mode := u } :: cs) w := by
    intro c p f h e p' f' h' he μ w a u ok s hlo fr m
    obtain ⟨g1, rfl⟩ := of_some he
    refine wpS_of_wp (wp_mono (wpIn_wide.1 (hcode c f h e f' h' g1 Fence.wide 0 wl_wide (.inl rfl) U lo μ w a ok s hlo fr)) fun ex a' w' q => ?_)
    obtain ⟨μ', q1, q2, q3⟩ := q
    exact ⟨μ', u, rfl, q1, q2, q3, m.go q1⟩
  intro c
  induction c with
  | region id ops draw =>
    intro p f h e p' f' h' he μ w a u ok s hlo fr m
    cases draw with
    | true => exact plain _ p f h e p' f' h' he μ w a u ok s hlo fr m
    | false =>
      refine wpS_region ?_
      have := listR_ok (U := U) (lo := lo) (c0 := c0) (cs := cs) (Q := PostR P U lo μ h w c0 cs e p' f' h') hcall ops.toList 0 p f h e p' f' h' he rfl μ w a u ok s hlo fr m fun _ _ _ _ q => q
      rwa [show List.range' 0 ops.toList.length = List.range ops.size from by rw [List.range_eq_range']; simp] at this
  | seq x y ihx ihy =>
    intro p f h e p' f' h' he μ w a u ok s hlo fr m
    replace he : onNormalR (evCodeR P call code x p f h) (evCodeR P call code y) = .ok e p' f' h' := he
    refine wpS_seq ?_
    rcases onNormalR_some he with ⟨p1, f1, h1, g1, g2⟩ | ⟨g1, g2⟩
    · intro b k hb hr
      obtain ⟨ex, a', cs', w', q, arr⟩ := ihx p f h _ _ _ _ g1 μ w a u ok s hlo fr m b k hb hr
      refine ⟨ex, a', cs', w', ?_, arr⟩
      obtain ⟨μ1, u1, rfl, q2, q3, q4, q5⟩ := q
      cases ex <;> simp only [ExOk] at q4
      show y.wpS P _ a' _ w'
      intro b' k' hb' hr'
      obtain ⟨ex2, a2, cs2, w2, r1, r2⟩ := ihy p1 f1 h1 e p' f' h' g2 μ1 w' a' u1 q2.ok q2.sat (size_go q2 hlo) q3 q5 b' k' hb' hr'
      exact ⟨ex2, a2, cs2, w2, PostR.trans (u := c0.mode) q2 r1, r2⟩
    · intro b k hb hr
      obtain ⟨ex, a', cs', w', q, arr⟩ := ihx p f h _ _ _ _ g1 μ w a u ok s hlo fr m b k hb hr
      refine ⟨ex, a', cs', w', ?_, arr⟩
      have q0 := q
      obtain ⟨μ1, u1, _, q2, q3, q4, q5⟩ := q0
      cases ex with
      | normal => exact absurd ((exOk_normal q4).2 rfl) g2
      | _ => exact q
  | cond c x y ihx ihy =>
    intro p f h e p' f' h' he μ w a u ok s hlo fr m
    replace he : ite' (okOpnd c) (condR (f.eval c) (evCodeR P call code x p f h) (evCodeR P call code y p f h)) .fail = .ok e p' f' h' := he
    rw [ite'_eq] at he
    split at he
    · rename_i hc
      unfold condR at he
      cases hb : boolOf? (f.eval c) with
      | none => rw [hb] at he; cases he
      | some t =>
        rw [hb] at he
        refine wpS_cond (bool_eval ok s fr hc hb) ?_
        cases t with
        | true => exact ihx p f h e p' f' h' he μ w a u ok s hlo fr m
        | false => exact ihy p f h e p' f' h' he μ w a u ok s hlo fr m
    · cases he
  | _ => exact fun p f h e p' f' h' he μ w a u ok s hlo fr m => plain _ p f h e p' f' h' he μ w a u ok s hlo fr m

/-- A deferred call, with its frame's function. -/
def CallsDF (P : Program) (f : FuncId) (args : Array Value) (u : FrameMode) (w : World) (R : Ending → FrameMode → World → Prop) : Prop :=
  ∀ (c : Frame) (cs : List Frame), c.mode = u → ∃ e u' w' fr, (R e u' w' ∧ fr.fn = f) ∧
    Comes P (lone (Frame.enter P f args .deferred) (c :: cs) w) (lone fr ({ c with mode := u' } :: cs) w') e ∧ fr.kind = .deferred ∧ fr.going P w' e

omit [NG P] in
theorem callsDF_of_wpS {f : FuncId} {fn : Func} {c : Code} {args : Array Value} {u : FrameMode} {w : World} {R : Ending → FrameMode → World → Prop} (hf : P.funcs[f]? = some fn) (hb : fn.body = some c)
    (h : ∀ (c₀ : Frame) (cs : List Frame), c₀.mode = u → c.wpS P (bodyPostS P fn c₀ cs R) { tmps := args ++ Array.replicate (fn.ntmps - args.size) Go.undef, defers := [] } (c₀ :: cs) w) : CallsDF P f args u w R := by
  intro c₀ cs hu
  have he : Frame.enter P f args .deferred = ({ (default : Frame) with fn := f, kind := .deferred } : Frame).at { tmps := args ++ Array.replicate (fn.ntmps - args.size) Go.undef, defers := [] } [.code c] := by
    simp [Frame.enter, Frame.at, hf, hb]
  obtain ⟨e, a', cs', w', hq, harr⟩ := h c₀ cs hu { (default : Frame) with fn := f, kind := .deferred } [] rfl rfl
  rw [← he] at harr
  cases e with
  | normal =>
    obtain ⟨hd, u', rfl, v, hr, hR⟩ := hq
    exact ⟨.returned v, u', w', _, ⟨hR, rfl⟩, Steps.trans harr (.one step_end), rfl, rfl, hd, fn, hf, hr⟩
  | ret =>
    obtain ⟨hd, u', rfl, v, hr, hR⟩ := hq
    obtain ⟨todo, hs⟩ := harr
    exact ⟨.returned v, u', w', _, ⟨hR, rfl⟩, hs, rfl, rfl, hd, fn, hf, hr⟩
  | panic chain =>
    obtain ⟨hd, u', rfl, hR⟩ := hq
    obtain ⟨todo, hs⟩ := harr
    exact ⟨.panicked chain, u', w', _, ⟨hR, rfl⟩, hs, rfl, rfl, hd, fn, hf⟩
  | exit id => exact hq.elim
  | goto l => exact hq.elim
  | outgrown =>
    obtain ⟨u', hR⟩ := hq
    exact ⟨.outgrown, u', w', { (default : Frame) with fn := f, kind := .deferred }, ⟨hR, rfl⟩, harr.resolve_left (by simp), rfl, trivial⟩

omit [NG P] in
theorem callsDIn_wide {nn : Nat} {f : FuncId} {args : Array Value} {u : FrameMode} {w : World} {R : Ending → FrameMode → World → Prop} (h : CallsDF P f args u w R) : CallsDIn Fence.wide nn P f args u w R :=
  ⟨trivial, fun c cs hm _ => let ⟨e, u', w', fr, hR, hs, hk, hg⟩ := h c cs hm; ⟨e, u', w', fr, hR.1, comesIn_wide.2 hs, hk, hR.2, hg⟩⟩

omit [NG P] in
theorem CallsDF.mono {f : FuncId} {args : Array Value} {u : FrameMode} {w : World} {R R' : Ending → FrameMode → World → Prop} (h : CallsDF P f args u w R) (hr : ∀ e u' w', R e u' w' → R' e u' w') : CallsDF P f args u w R' := by
  intro c cs hm
  obtain ⟨e, u', w', fr, hR, rest⟩ := h c cs hm
  exact ⟨e, u', w', fr, ⟨hr _ _ _ hR.1, hR.2⟩, rest⟩

/-- A deferred call. -/
def DefOk (P : Program) (defd : DefK) : Prop := ∀ g args p h p' h', defd g args p h = some (p', h') → bodyOf P g = true ∧ ∀ (U : Ids) (lo : Nat) (μ : Mu) (w : World) (u : FrameMode),
  HpOk U h → Sat P lo μ h.look w → lo ≤ w.heap.size → (∀ v ∈ args, Stable (Vis U h) v) → ModeOk (Vis U h) μ p u →
  CallsDF P g (args.map (ren μ)).toArray u w fun e u' w' => (∃ v, e = .returned v) ∧ ∃ μ', Go2 P U lo μ μ' h h' w w' ∧ ModeOk (Vis U h') μ' p' u'

omit [NG P] in
theorem defEnd_some {fn : Func} {r : ResR} {p' : Option Value} {h' : Hp} (he : defEnd P fn r = some (p', h')) : ∃ e f' v, r = .ok e p' f' h' ∧ (e = .normal ∨ e = .ret) ∧ f'.defers = [] ∧ evResults P fn f' h' = some v := by
  unfold defEnd at he
  split at he
  · rename_i p f h
    split at he
    · obtain ⟨v, h1, h2⟩ := ob_eq_some.1 he
      cases h2
      exact ⟨_, _, v, rfl, .inl rfl, by assumption, h1⟩
    · cases he
  · rename_i p f h
    split at he
    · obtain ⟨v, h1, h2⟩ := ob_eq_some.1 he
      cases h2
      exact ⟨_, _, v, rfl, .inr rfl, by assumption, h1⟩
    · cases he
  · cases he

theorem defd_ok {call : CallK} {code : CodeK} (hcall : CallOk P call) (hcode : CodeOk P code) : DefOk P (evDefd P call code) := by
  intro g args p h p' h' he
  unfold evDefd at he
  obtain ⟨fn, h1, he1⟩ := ob_eq_some.1 he
  obtain ⟨c, h2, he2⟩ := ob_eq_some.1 he1
  obtain ⟨h3, he3⟩ := ite'_eq_some.1 he2
  obtain ⟨h4, he4⟩ := ite'_eq_some.1 he3
  obtain ⟨e, f', v, h5, h6, h7, h8⟩ := defEnd_some he4
  refine ⟨h3, fun U lo μ w u ok s hlo hst m => ?_⟩
  refine callsDF_of_wpS h1 h2 fun c0 cs hu => ?_
  subst hu
  have := codeR_ok (U := U) (lo := lo) (c0 := c0) (cs := cs) hcall hcode c p (frameOf fn args) h e p' f' h' h5 μ w _ c0.mode ok s hlo (frame_ok h4 hst) m
  intro b k hb hr
  obtain ⟨ex, a', cs', w', q, arr⟩ := this b k hb hr
  refine ⟨ex, a', cs', w', ?_, arr⟩
  obtain ⟨μ', u', rfl, q2, q3, q4, q5⟩ := q
  have hd : a'.defers = [] := by rw [q3.defs, h7]; rfl
  obtain ⟨r1, r2⟩ := results_ok q2.ok q2.sat q3 h8
  rcases h6 with rfl | rfl
  · cases ex <;> simp only [ExOk] at q4
    exact ⟨hd, u', rfl, _, r1, ⟨_, rfl⟩, μ', q2, q5⟩
  · cases ex <;> simp only [ExOk] at q4
    exact ⟨hd, u', rfl, _, r1, ⟨_, rfl⟩, μ', q2, q5⟩

/-- The deferred calls of a frame, and its end. -/
theorem leaves_ok {defd : DefK} (hdef : DefOk P defd) {fn : Func} {tmps : Array Value} {R : Ending → World → Prop} : ∀ (ds : List Deferred) (p : Option Value) (h : Hp) (p' : Option Value) (h' : Hp), runDefers defd ds p h = some (p', h') →
    ∀ (μ : Mu) (w : World) (u : FrameMode), HpOk U h → Sat P lo μ h.look w → lo ≤ w.heap.size → (∀ d ∈ ds, StableD (Vis U h) d) →
    (match p with | some v => Stable (Vis U h) v ∧ u = .panicking [{ v := ren μ v, recovered := false }] | none => u = .returning) →
    (∀ μ' w', Go2 P U lo μ μ' h h' w w' → match p' with
      | some v => Stable (Vis U h') v → R (.panicked [{ v := ren μ' v, recovered := false }]) w'
      | none => ∃ v, (results fn tmps).run P w' = .ok v w' ∧ R (.returned v) w') →
    LeavesInM Fence.wide 0 P fn tmps R (ds.map (renD μ)) u w := by
  intro ds
  induction ds with
  | nil =>
    intro p h p' h' he μ w u ok s hlo _ hm hend
    cases he
    have := hend μ w (.refl ok s)
    cases p with
    | none => subst hm; exact this
    | some v => obtain ⟨h1, rfl⟩ := hm; exact this h1
  | cons d ds ih =>
    intro p h p' h' he μ w u ok s hlo hst hm hend
    rcases hst d (.head _) with ⟨g, cap, args, rfl, s1, s2⟩ | ⟨b, rfl, s1⟩
    rotate_left
    · replace he : ob (setBlk h b shutB) (fun h' => runDefers defd ds p h') = some (p', h') := he
      obtain ⟨h1, h2, h3⟩ := ob_eq_some.1 he
      obtain ⟨b1, b2, l1, l2, rfl⟩ := setBlk_some h2
      obtain ⟨rfl, rfl⟩ := shutB_some l2
      have hk : w.heap[(μ b).blk]? = some (.deferred (some [])) := s.blk _ _ l1
      have hlt := (s.blk _ _ l1).lt
      have g1 : Go2 P U lo μ μ h (h.put b (some (.defb false))) w (w.putObj (μ b).blk (.deferred none)) := by
        refine go2_put ok s l1 (fun b' hb' => by cases hb'; trivial) (by simp) (fun k hk => World.putObj_heap_other hk) rfl rfl rfl (fun b' hb' => ?_)
        cases hb'
        exact World.putObj_heap_same hlt
      have ih' := ih p _ p' h' h3 μ _ u g1.ok g1.sat (size_go g1 hlo) (fun d hd => (renD_go g1 (hst d (.tail _ hd))).2) (by
        cases p with
        | none => exact hm
        | some v => exact ⟨g1.stable hm.1, hm.2⟩) fun μ' w2 g2 => hend μ' w2 (g1.trans g2)
      rw [List.map_cons, renD_mark]
      refine ⟨?_, .inl ⟨_, _, rfl, run_takeDeferred hk, ?_⟩⟩
      · cases p with
        | none => subst hm; simp
        | some v => obtain ⟨_, rfl⟩ := hm; simp
      · have hmap : ds.map (renD μ) = ds.map (renD μ) := rfl
        exact ih'
    replace he : ob (defd g (appL args cap) p h) (fun x => runDefers defd ds x.1 x.2) = some (p', h') := he
    obtain ⟨⟨p1, h1⟩, h2, h3⟩ := ob_eq_some.1 he
    obtain ⟨hb, hd⟩ := hdef g _ p h p1 h1 h2
    rw [appL_eq] at hd
    have hst' : ∀ v ∈ args ++ cap, Stable (Vis U h) v := fun v hv => by
      rcases List.mem_append.1 hv with hv | hv
      · exact s2 v hv
      · exact s1 v hv
    have hmode : ModeOk (Vis U h) μ p u := by
      cases p with
      | none => exact .inl hm
      | some v => exact hm
    have hc := hd U lo μ w u ok s hlo hst' hmode
    rw [List.map_cons, renD_mk]
    refine ⟨?_, .inr ⟨fun x => (wl_wide.deep x).elim, .func g, ⟨cap.map (ren μ)⟩, g, ((args ++ cap).map (ren μ)).toArray, rfl, ?_, fun _ _ => trivial, ?_⟩⟩
    · cases p with
      | none => subst hm; simp
      | some v => obtain ⟨_, rfl⟩ := hm; simp
    · show (callFunc g _).run P w = _
      rw [run_callFunc hb]
      simp
    · refine callsDIn_wide (hc.mono fun e u' w' hR => ?_)
      obtain ⟨⟨v, rfl⟩, μ1, q1, q2⟩ := hR
      simp only
      have hset := mode_settle q2
      have hmap : ds.map (renD μ) = ds.map (renD μ1) := List.map_congr_left fun d hd => (renD_go q1 (hst d (.tail _ hd))).1.symm
      rw [hmap]
      refine ih p1 h1 p' h' h3 μ1 w' (settle u') q1.ok q1.sat (size_go q1 hlo) (fun d hd => (renD_go q1 (hst d (.tail _ hd))).2) ?_ fun μ' w2 g2 => hend μ' w2 (q1.trans g2)
      cases p1 with
      | none => exact hset
      | some v => exact ⟨q2.1, hset⟩

/-- A function's end, from its body's. -/
theorem body_end_ok {defd : DefK} (hdef : DefOk P defd) {fn : Func} {e : Ex} {f1 : Fr} {h1 : Hp} {pan : Bool} {v : Value} {h' : Hp} (he : bodyEnd P defd fn e f1 h1 = (if pan then .pan v h' else .ret v h')) {R : Ending → World → Prop}
    (hR : ∀ en w', CallPost P U lo μ h w pan v h' en w' → R en w') (hlo : lo ≤ w.heap.size) {ex : Exit} {a' : Act} {w' : World} (q : CodePost P U lo μ h w e f1 h1 ex a' w') : bodyPostM Fence.wide 0 P fn R ex a' w' := by
  unfold bodyEnd at he
  cases hp : panOf e with
  | none => rw [hp] at he; cases pan <;> cases he
  | some p =>
    rw [hp] at he
    simp only at he
    cases hd : runDefers defd f1.defers p h1 with
    | none => rw [hd] at he; cases pan <;> cases he
    | some x =>
      obtain ⟨p2, h2⟩ := x
      rw [hd] at he
      replace he : finish P fn f1 p2 h2 = (if pan then .pan v h' else .ret v h') := he
      obtain ⟨μ1, q1, q2, q3⟩ := q
      have hleave : ∀ u, (match p with | some v => Stable (Vis U h1) v ∧ u = .panicking [{ v := ren μ1 v, recovered := false }] | none => u = .returning) →
          LeavesInM Fence.wide 0 P fn a'.tmps R a'.defers u w' := by
        intro u hm
        rw [q2.defs]
        refine leaves_ok hdef f1.defers p h1 p2 h2 hd μ1 w' u q1.ok q1.sat (size_go q1 hlo) q2.dst hm fun μ' w2 g2 => ?_
        unfold finish at he
        cases p2 with
        | none =>
          simp only at he ⊢
          cases hres : evResults P fn f1 h2 with
          | none => rw [hres] at he; cases pan <;> cases he
          | some rv =>
            rw [hres] at he
            cases pan with
            | true => cases he
            | false =>
              cases he
              obtain ⟨r1, r2⟩ := results_ok g2.ok g2.sat (q2.go g2) hres
              exact ⟨_, r1, hR _ _ ⟨μ', q1.trans g2, r2, rfl⟩⟩
        | some pv =>
          simp only at he ⊢
          cases pan with
          | false => cases he
          | true =>
            cases he
            exact fun hs => hR _ _ ⟨μ', q1.trans g2, hs, rfl⟩
      cases e with
      | normal =>
        cases hp
        cases ex <;> simp only [ExOk] at q3
        exact hleave .returning rfl
      | ret =>
        cases hp
        cases ex <;> simp only [ExOk] at q3
        exact hleave .returning rfl
      | panic pv =>
        cases hp
        cases ex <;> simp only [ExOk] at q3
        obtain ⟨q4, rfl⟩ := q3
        exact hleave _ ⟨q4, rfl⟩
      | exit i => cases hp

theorem plain_ok {call : CallK} {code : CodeK} (hcall : CallOk P call) (hcode : CodeOk P code) : ∀ g args h pan v h', evPlain P call code g args h = (if pan then .pan v h' else .ret v h') → ∀ (U : Ids) (lo : Nat) (μ : Mu) (w : World),
    HpOk U h → Sat P lo μ h.look w → lo ≤ w.heap.size → (∀ v ∈ args, Stable (Vis U h) v) → Calls P g (args.map (ren μ)).toArray w (CallPost P U lo μ h w pan v h') := by
  intro g args h pan v h' he U lo μ w ok s hlo hst
  unfold evPlain at he
  cases hf : P.funcs[g]? with
  | none => rw [hf] at he; cases pan <;> cases he
  | some fn =>
    rw [hf] at he
    replace he : evBody P code (evDefd P call code) args h fn = (if pan then .pan v h' else .ret v h') := he
    unfold evBody at he
    cases hb : fn.body with
    | none => rw [hb] at he; cases pan <;> cases he
    | some c =>
      rw [hb] at he
      simp only at he
      rw [ite'_eq] at he
      split at he
      · rename_i hle
        cases hr : code c (frameOf fn args) h with
        | fail => rw [hr] at he; cases pan <;> cases he
        | ok e f1 h1 =>
          rw [hr] at he
          replace he : bodyEnd P (evDefd P call code) fn e f1 h1 = (if pan then .pan v h' else .ret v h') := he
          exact (callsIn_wide (n := 0)).1 (callsIn_of_wp_marks hf hb trivial (wpIn_mono (hcode c _ h e f1 h1 hr Fence.wide 0 wl_wide (.inl rfl) U lo μ w _ ok s hlo (frame_ok hle hst)) fun ex a' w' q =>
            body_end_ok (defd_ok hcall hcode) he (fun _ _ h => h) hlo q))
      · cases pan <;> cases he

end

/-- A table of calls holds. -/
def TabOk (P : Program) (tab : Tab) : Prop := ∀ g args h pan v h', tab g args h = some (if pan then .pan v h' else .ret v h') → ∀ (U : Ids) (lo : Nat) (μ : Mu) (w : World),
    HpOk U h → Sat P lo μ h.look w → lo ≤ w.heap.size → (∀ v ∈ args, Stable (Vis U h) v) → Calls P g (args.map (ren μ)).toArray w (CallPost P U lo μ h w pan v h')

theorem fn_ok {P : Program} [NG P] {tab : Tab} (htab : TabOk P tab) {call : CallK} {code : CodeK} (hcall : CallOk P call) (hcode : CodeOk P code) : CallOk P (evFn P tab call code) := by
  constructor
  · intro g args h pan v h' hg he
    unfold evFn at he
    rw [ite'_eq, if_neg (by rw [ble_eq]; exact Nat.not_le.2 hg)] at he
    cases ht : tab g args h with
    | none =>
      rw [ht] at he
      exact plain_ok hcall hcode g args h pan v h' he
    | some r =>
      rw [ht] at he
      replace he : r = (if pan then .pan v h' else .ret v h') := he
      subst he
      exact htab g args h pan v h' ht
  · intro l args h pan v h' he
    unfold evFn at he
    rw [ite'_eq, if_pos (by rw [ble_eq]; exact Nat.le_add_right _ _)] at he
    rw [show Nat.sub (YB + l) YB = l from Nat.add_sub_cancel_left _ _] at he
    exact round_ok hcode l args h pan v h' he

/-- The evaluator's answers hold. -/
theorem ev_ok {P : Program} [NG P] (hm : P.follows .mixedOrders = true) {tab : Tab} (htab : TabOk P tab) : ∀ n, CodeOk P (ev P tab n).code ∧ CallOk P (ev P tab n).call := by
  intro n
  induction n using Nat.strongRecOn with
  | _ n ih =>
    cases n with
    | zero =>
      refine ⟨?_, ?_⟩
      · intro c f h e f' h' he; cases he
      · constructor
        · intro g args h pan v h' _ he; cases pan <;> cases he
        · intro l args h pan v h' he; cases pan <;> cases he
    | succ n =>
      obtain ⟨h1, h2⟩ := ih n (Nat.lt_succ_self n)
      refine ⟨?_, fn_ok htab h2 h1⟩
      intro c f h e f' h' he Fe nn hF hcl U lo μ w a ok s hlo fr
      by_cases hl : ∃ b, c = .loop b
      · obtain ⟨b, rfl⟩ := hl
        exact loop_ok (b := b) hF n (fun m hm => (ih m (by omega)).1) (rightly hcl fun h => (show calm b = true from h)) he ok s hlo fr
      · exact code_ok hm h2 h1 hF hcl he (fun b hb => hl ⟨b, hb⟩) ok s hlo fr

theorem hp0_look (id : Nat) : hp0.look id = none := by
  rw [look_of (by rfl)]
  exact get_nil id
theorem hp0_ok : HpOk (fun _ => False) hp0 :=
  ⟨Nat.le_refl _, fun id _ => get_nil id, trivial, fun id b hl => (by rw [hp0_look] at hl; cases hl), fun _ h => h.elim⟩

/-- The call answered true. -/
def saysTrue : CRes → Bool
  | .ret (.bool true) _ => true
  | _ => false

/-- A call without arguments that the evaluator runs to the answer true: it answers true, and leaves what lay in memory as it was. -/
theorem true_of_ev {P : Program} [NG P] (hm : P.follows .mixedOrders = true) {tab : Tab} (htab : TabOk P tab) {n : Nat} {g : FuncId} (hg : Nat.blt g YB = true) (he : saysTrue ((ev P tab n).call g [] hp0) = true) (w : World) :
    Calls P g #[] w fun e w' => e = .returned (.bool true) ∧ (∀ b, b < w.heap.size → w'.heap[b]? = w.heap[b]?) ∧ w.heap.size ≤ w'.heap.size ∧ w'.os = w.os ∧ w'.tape = w.tape ∧ w'.output = w.output := by
  unfold saysTrue at he
  split at he
  · rename_i h' hc
    have hsat : Sat P w.heap.size (fun id => ⟨id, 0, 0⟩) hp0.look w := ⟨fun _ _ => rfl, fun id b hl => (by rw [hp0_look] at hl; cases hl), fun id id' b b' hl => (by rw [hp0_look] at hl; cases hl), fun id b hl => (by rw [hp0_look] at hl; cases hl)⟩
    have := (ev_ok hm htab n).2.calls g [] hp0 false (.bool true) h' (blt_eq.1 hg) hc (fun _ => False) w.heap.size (fun id => ⟨id, 0, 0⟩) w hp0_ok hsat (Nat.le_refl _) (by simp)
    refine this.mono fun e w' q => ?_
    obtain ⟨μ', g1, _, rfl⟩ := q
    refine ⟨by simp, fun b hb => g1.post.frame b hb fun id blk _ hl => (by rw [hp0_look] at hl; cases hl), g1.post.size, g1.post.os, g1.post.tape, g1.post.output⟩
  · cases he

end Go.Ev
