/- A verified evaluator: a part of it. -/
import Derived.Test.YtaokhbanpfmkmaaGreatEvS
import Derived.Deep.LoopGhost
import Derived.Recover
import Derived.Scope
import Derived.RangeFuncRecord
namespace Go.Ev
set_option linter.unusedVariables false
set_option linter.unusedSimpArgs false

/-! Ranges over functions: a round; a scope. -/

theorem stepR_scope {P : Program} [NG P] {b : Frame} {a : Act} {k : List Item} {cs : List Frame} {w : World} {c : Code} : step P (lone (b.atR a (.code (.scope c) :: k)) cs w) = .next (lone (b.atR a (.code c :: .inScope c :: k)) cs w) :=
  step_lone_go (by simp [stepG, stepG.exec, Frame.atR])
theorem stepR_inScope {P : Program} [NG P] {b : Frame} {a : Act} {k : List Item} {cs : List Frame} {w : World} {c : Code} : step P (lone (b.atR a (.inScope c :: k)) cs w) = .next (lone (b.atR a k) cs w) :=
  step_lone_go (by simp [stepG, stepG.exec, Frame.atR])

theorem wpIn_scope {F : Fence} {n : Nat} {P : Program} [NG P] {Q : Exit → Act → World → Prop} {a : Act} {w : World} {c : Code} (h : c.wpIn F n P (Exit.noGoto Q) a w) : (Code.scope c).wpIn F n P Q a w := by
  intro b k cs hro hb hr
  have h0 : (lone (b.atR a (.code (.scope c) :: k)) cs w).fenced P F := fenced_calm hb hr rfl
  obtain ⟨e, a₁, w₁, hq, harr⟩ := h b (.inScope c :: k) cs hro hb hr
  cases e with
  | normal => exact ⟨.normal, a₁, w₁, hq, .head h0 stepR_scope (StepsIn.trans harr (.one (fenced_calm hb hr rfl) stepR_inScope))⟩
  | exit id =>
    have hx : exitTo id (.inScope c :: k) = exitTo id k := by simp [exitTo]
    exact ⟨.exit id, a₁, w₁, hq, fun k' hk => .head h0 stepR_scope (harr.1 k' (by rw [hx]; exact hk)),
      fun hr' hk => let ⟨k₁, h1, h2⟩ := harr.2 hr' (by rw [hx]; exact hk); ⟨k₁, h1, .head h0 stepR_scope h2⟩⟩
  | goto l => exact hq.elim
  | ret => exact ⟨_, a₁, w₁, hq, .of_steps (.one h0 stepR_scope) harr⟩
  | panic ch => exact ⟨_, a₁, w₁, hq, .of_steps (.one h0 stepR_scope) harr⟩
  | outgrown => exact ⟨_, a₁, w₁, hq, .of_steps (.one h0 stepR_scope) harr⟩

section
variable {P : Program} [NG P] {U : Ids} {lo : Nat} {μ : Mu} {h : Hp} {w : World} {f : Fr} {a : Act} {Fe : Fence} {nn : Nat}

omit [NG P] in
theorem CodePost.trans {μ1 : Mu} {h1 : Hp} {w1 : World} {e : Ex} {f' : Fr} {h' : Hp} {ex : Exit} {a' : Act} {w' : World} (g : Go2 P U lo μ μ1 h h1 w w1) (p : CodePost P U lo μ1 h1 w1 e f' h' ex a' w') :
    CodePost P U lo μ h w e f' h' ex a' w' := by
  obtain ⟨μ', g', fr, x⟩ := p
  exact ⟨μ', g.trans g', fr, x⟩

theorem then_of {next : Act → World → Prop} {Q : Exit → Act → World → Prop} {ex : Exit} {a' : Act} {w' : World} (h1 : ex = .normal → next a' w') (h2 : ex ≠ .normal → Q ex a' w') : Exit.then next Q ex a' w' := by
  cases ex <;> first | exact h1 rfl | exact h2 (by simp)

theorem exOk_normal {S : Ids} {μ : Mu} {e : Ex} {ex : Exit} (h : ExOk S μ e ex) : (e = .normal ↔ ex = .normal) := by
  cases e <;> cases ex <;> simp_all [ExOk]

theorem setBlk_some {h' : Hp} {l : Nat} {k : Blk → Option Blk} (he : setBlk h l k = some h') : ∃ b b', h.look l = some b ∧ k b = some b' ∧ h' = h.put l (some b') := by
  unfold setBlk at he
  obtain ⟨b, h1, h2⟩ := ob_eq_some.1 he
  obtain ⟨b', h3, h4⟩ := om_eq_some.1 h2
  exact ⟨b, b', h1, h3, h4.symm⟩

theorem busyB_some {b b' : Blk} (hb : busyB b = some b') : ∃ pend tm sz ps as bd, b = .loop .ready pend tm sz ps as bd ∧ b' = .loop .busy pend tm sz ps as bd := by
  unfold busyB at hb
  split at hb
  · cases hb; exact ⟨_, _, _, _, _, _, rfl, rfl⟩
  · cases hb
theorem isNone_eq {α : Type} (x : Option α) : isNone x = x.isNone := by cases x <;> rfl
theorem endedB_some {pd : Option Code} {b b' : Blk} (hb : endedB pd b = some b') : ∃ st pend tm sz ps as bd, b = .loop st pend tm sz ps as bd ∧ b' = .loop (if pd.isNone then .ready else .done) pd tm sz ps as bd := by
  unfold endedB at hb
  split at hb
  · cases hb
    refine ⟨_, _, _, _, _, _, _, rfl, ?_⟩
    rw [ite'_eq, isNone_eq]
  · cases hb
theorem shutB_some {b b' : Blk} (hb : shutB b = some b') : b = .defb true ∧ b' = .defb false := by
  unfold shutB at hb
  split at hb
  · cases hb; exact ⟨rfl, rfl⟩
  · cases hb

omit [NG P] in
/-- The record of a loop, in memory. -/
theorem loop_at {l : Nat} {st : LoopState} {pend : Option Code} {tm : Tm} {sz : Nat} {ps : List Tmp} {as bd : Code} (s : Sat P lo μ h.look w) (hl : h.look l = some (.loop st pend tm sz ps as bd)) :
    ∃ rec : Loop, w.heap[(μ l).blk]? = some (.loop rec) ∧ rec.state = st ∧ rec.pending = pend ∧ rec.params = ps.toArray ∧ rec.assign = as ∧ rec.body = bd ∧ rec.tmps.size = sz ∧ (∀ t, t < 512 → rec.tmps.getD t undef = ren μ (getTm t tm)) ∧ sz ≤ 512 ∧ calm as = true ∧ calm bd = true := by
  obtain ⟨⟨rec, h1, h2, h3, h4, h5, h6, h7, h8⟩, h9, h10, h11⟩ := s.blk _ _ hl
  exact ⟨rec, h1, h2, h3, h4, h5, h6, h7, h8, h9, h10, h11⟩

omit [NG P] in
/-- The record turns: its state, its jump. -/
theorem loop_turn {l : Nat} {st st' : LoopState} {pend pend' : Option Code} {tm : Tm} {sz : Nat} {ps : List Tmp} {as bd : Code} (ok : HpOk U h) (s : Sat P lo μ h.look w) (hl : h.look l = some (.loop st pend tm sz ps as bd))
    {rec : Loop} (hw : w.heap[(μ l).blk]? = some (.loop rec)) :
    Go2 P U lo μ μ h (h.put l (some (.loop st' pend' tm sz ps as bd))) w (w.putObj (μ l).blk (.loop { rec with state := st', pending := pend' })) := by
  obtain ⟨rec', h1, h2, h3, h4, h5, h6, h7, h8, h9, h10, h11⟩ := loop_at s hl
  rw [hw] at h1
  cases h1
  have hlt := (s.blk _ _ hl).lt
  refine go2_put ok s hl ?_ (by simp) (fun k hk => World.putObj_heap_other hk) rfl rfl rfl ?_
  · intro b' hb'
    cases hb'
    have hs := ok.st _ _ hl
    exact hs
  · intro b' hb'
    cases hb'
    exact ⟨⟨_, World.putObj_heap_same hlt, rfl, rfl, h4, h5, h6, h7, h8⟩, h9, h10, h11⟩

theorem putPs_ok {sz : Nat} (hsz : sz ≤ 512) : ∀ (ps : List Tmp) (args : List Value) (tm tm' : Tm) (tmps : Array Value), putPs sz ps args tm = some tm' → tmps.size = sz → (∀ t, t < 512 → tmps.getD t undef = ren μ (getTm t tm)) → (∀ t, t < 512 → Stable (Vis U h) (getTm t tm)) → (∀ v ∈ args, Stable (Vis U h) v) →
    ps.length = args.length ∧ FrOk U μ h ⟨tm', sz, []⟩ { tmps := (ps.zip (args.map (ren μ))).foldl (fun tmps (x : Tmp × Value) => tmps.setIfInBounds x.1 x.2) tmps, defers := [] } := by
  intro ps
  induction ps with
  | nil =>
    intro args tm tm' tmps he hs hv hst _
    cases args with
    | cons v vs => cases he
    | nil =>
      cases he
      exact ⟨rfl, ⟨hs, hsz, hv, hst, rfl, fun d hd => by cases hd⟩⟩
  | cons p ps ih =>
    intro args tm tm' tmps he hs hv hst ha
    cases args with
    | nil => cases he
    | cons v vs =>
      obtain ⟨h1, h2⟩ := ite'_eq_some.1 (he : ite' (Nat.ble (Nat.succ p) sz) (putPs sz ps vs (putTm0 p ⟨v⟩ tm)) none = some tm')
      rw [ble_eq] at h1
      have := ih vs (putTm0 p ⟨v⟩ tm) tm' (tmps.setIfInBounds p (ren μ v)) h2 (by simp [hs]) ?_ ?_ (fun x hx => ha x (.tail _ hx))
      · exact ⟨by simp [this.1], this.2⟩
      · intro i hi
        rw [getTm_put i p v tm hi (by omega), Array.getD_eq_getD_getElem?, Array.getElem?_setIfInBounds]
        by_cases hit : i = p
        · subst hit
          rw [if_pos rfl, if_pos rfl, if_pos (by omega)]
          rfl
        · rw [if_neg (fun x => hit x.symm), if_neg hit, ← Array.getD_eq_getD_getElem?]
          exact hv i hi
      · intro i hi
        rw [getTm_put i p v tm hi (by omega)]
        split
        · exact ha v (.head _)
        · exact hst i hi

theorem fold_zip (ps : List Tmp) (vs : List Value) (tmps : Array Value) :
    ((ps.toArray.zip vs.toArray).foldl (fun tmps (x : Tmp × Value) => tmps.setIfInBounds x.1 x.2) tmps) = (ps.zip vs).foldl (fun tmps (x : Tmp × Value) => tmps.setIfInBounds x.1 x.2) tmps := by
  simp

end

/-- One round. -/
theorem round_ok {P : Program} [NG P] {code : CodeK} (hcode : CodeOk P code) : ∀ l args h pan v h', evRound code l args h = (if pan then .pan v h' else .ret v h') → ∀ (U : Ids) (lo : Nat) (μ : Mu) (w : World),
    HpOk U h → Sat P lo μ h.look w → lo ≤ w.heap.size → (∀ v ∈ args, Stable (Vis U h) v) → ∃ fn tmps assign body, (Instr.yield (μ l).blk (args.map (ren μ)).toArray).run P w = .ok (.round (μ l).blk fn tmps assign body) w ∧
      ∀ nn, RoundIn Fence.wide nn P (μ l).blk fn tmps assign body w (CallPost P U lo μ h w pan v h') := by
  intro l args h pan v h' he U lo μ w ok s hlo hst
  unfold evRound at he
  cases hl : h.look l with
  | none => rw [hl] at he; cases pan <;> cases he
  | some b =>
    rw [hl] at he
    replace he : evRoundB code l args h b = (if pan then .pan v h' else .ret v h') := he
    cases b with
    | row => cases pan <;> cases he
    | map => cases pan <;> cases he
    | iter => cases pan <;> cases he
    | defb => cases pan <;> cases he
    | loop st pend tm sz ps as bd =>
      unfold evRoundB at he
      simp only at he
      cases htm : putPs sz ps args tm with
      | none => rw [htm] at he; cases pan <;> cases he
      | some tm' =>
        rw [htm] at he
        simp only at he
        obtain ⟨rec, r1, r2, r3, r4, r5, r6, r7, r8, r9, r10, r11⟩ := loop_at s hl
        obtain ⟨hlen, fr⟩ := putPs_ok (U := U) (h := h) r9 ps args tm tm' rec.tmps htm r7 r8 (ok.st _ _ hl) hst
        have hy := run_yield (P := P) (args := (args.map (ren μ)).toArray) r1 (by rw [r4]; simp [hlen])
        rw [r4] at hy
        refine ⟨_, _, _, _, hy, fun nn => ?_⟩
        rw [show (Array.foldl (fun tmps (x : Tmp × Value) => match x with | (t, a) => tmps.setIfInBounds t a) rec.tmps (ps.toArray.zip (args.map (ren μ)).toArray)) = (ps.zip (args.map (ren μ))).foldl (fun tmps (x : Tmp × Value) => tmps.setIfInBounds x.1 x.2) rec.tmps from fold_zip _ _ _, r5, r6]
        unfold afterAssign at he
        split at he
        · rename_i f1 h1 hr1
          cases hb1 : setBlk h1 l busyB with
          | none => rw [hb1] at he; cases pan <;> cases he
          | some h2 =>
            rw [hb1] at he
            replace he : afterBody l (code bd f1 h2) = (if pan then .pan v h' else .ret v h') := he
            unfold afterBody at he
            split at he
            · rename_i e2 f2 h3 hr2
              cases hpd : pendOf e2 with
              | none => rw [hpd] at he; cases pan <;> cases he
              | some pd =>
                rw [hpd] at he
                replace he : roundEnd l h3 pd = (if pan then .pan v h' else .ret v h') := he
                unfold roundEnd at he
                cases hb3 : setBlk h3 l (endedB pd) with
                | none => rw [hb3] at he; cases pan <;> cases he
                | some h4 =>
                  rw [hb3] at he
                  replace he : CRes.ret (.bool (isNone pd)) h4 = (if pan then .pan v h' else .ret v h') := he
                  cases pan with
                  | true => cases he
                  | false =>
                    cases he
                    have hlv : ∀ {μ1 : Mu} {hx : Hp} {wx : World}, Go2 P U lo μ μ1 h hx w wx → μ1 l = μ l := fun g => g.post.agree l fun hf => by
                      have := ok.lt hl; unfold Fresh at hf; omega
                    refine roundIn_of_wpIn trivial ?_
                    refine wpIn_mono (hcode as _ h .normal f1 h1 hr1 (Fence.wide.inRound (μ l).blk) nn (wl_in _) (.inr r10) U lo μ w _ ok s hlo fr) fun ex a1 w1 p => ?_
                    obtain ⟨μ1, g1, fr1, x1⟩ := p
                    refine then_of (fun _ => ?_) (fun hx => absurd ((exOk_normal x1).1 rfl) hx)
                    obtain ⟨b1, b2, l1, l2, rfl⟩ := setBlk_some hb1
                    obtain ⟨pend1, tm1, sz1, ps1, as1, bd1, rfl, rfl⟩ := busyB_some l2
                    obtain ⟨rec1, q1, q2, _⟩ := loop_at g1.sat l1
                    rw [hlv g1] at q1
                    refine ⟨_, run_beginRound q1 q2, ?_⟩
                    have g2 := loop_turn (st' := .busy) (pend' := pend1) g1.ok g1.sat l1 (rec := rec1) (by rw [hlv g1]; exact q1)
                    rw [hlv g1] at g2
                    have hpe : rec1.pending = pend1 := by
                      obtain ⟨rec', k1, _, k3, _⟩ := loop_at g1.sat l1
                      rw [hlv g1, q1] at k1; cases k1; exact k3
                    rw [show ({ rec1 with state := LoopState.busy, pending := pend1 } : Loop) = { rec1 with state := .busy } from by rw [← hpe]] at g2
                    have g12 := g1.trans g2
                    refine wpIn_mono (hcode bd f1 _ e2 f2 h3 hr2 (Fence.wide.inRound (μ l).blk) nn (wl_in _) (.inr r11) U lo μ1 _ a1 g2.ok g2.sat (size_go g12 hlo) (fr1.go g2)) fun ex2 a2 w2 p => ?_
                    obtain ⟨μ3, g3, fr3, x3⟩ := p
                    have g123 := g12.trans g3
                    obtain ⟨b3, b4, l3, l4, rfl⟩ := setBlk_some hb3
                    obtain ⟨st3, pend3, tm3, sz3, ps3, as3, bd3, rfl, rfl⟩ := endedB_some l4
                    obtain ⟨rec3, q3, _⟩ := loop_at g3.sat l3
                    rw [hlv g123] at q3
                    have g4 := loop_turn (st' := if pd.isNone then .ready else .done) (pend' := pd) g3.ok g3.sat l3 (rec := rec3) (by rw [hlv g123]; exact q3)
                    rw [hlv g123] at g4
                    have fin : (Instr.endRound (μ l).blk pd).run P w2 = .ok (.bool pd.isNone) (w2.putObj (μ l).blk (.loop { rec3 with state := if pd.isNone then .ready else .done, pending := pd })) ∧
                        CallPost P U lo μ h w false (.bool (isNone pd)) (h3.put l (some (.loop (if pd.isNone then .ready else .done) pd tm3 sz3 ps3 as3 bd3))) (.returned (.bool pd.isNone)) (w2.putObj (μ l).blk (.loop { rec3 with state := if pd.isNone then .ready else .done, pending := pd })) := by
                      refine ⟨run_endRound pd q3, μ3, g123.trans g4, stable_closed rfl, ?_⟩
                      rw [isNone_eq]; simp
                    cases e2 with
                    | normal =>
                      cases hpd
                      cases ex2 <;> simp only [ExOk] at x3
                      exact ⟨_, _, fin.1, fin.2⟩
                    | ret =>
                      cases hpd
                      cases ex2 <;> simp only [ExOk] at x3
                      exact ⟨_, _, fin.1, fin.2⟩
                    | exit i =>
                      cases hpd
                      cases ex2 <;> simp only [ExOk] at x3
                      subst x3
                      exact ⟨_, _, fin.1, fin.2⟩
                    | panic v => cases hpd
            · cases pan <;> cases he
        · cases pan <;> cases he

end Go.Ev

namespace Go.Ev
set_option linter.unusedVariables false
set_option linter.unusedSimpArgs false

/-! Code. -/

section
variable {P : Program} [NG P] {U : Ids} {lo : Nat} {μ : Mu} {h : Hp} {w : World} {f : Fr} {a : Act} {Fe : Fence} {nn : Nat}

theorem onNormal_some {r : Res} {k : Fr → Hp → Res} {e : Ex} {f' : Fr} {h' : Hp} (he : onNormal r k = .ok e f' h') : (∃ f1 h1, r = .ok .normal f1 h1 ∧ k f1 h1 = .ok e f' h') ∨ (r = .ok e f' h' ∧ e ≠ .normal) := by
  cases r with
  | fail => cases he
  | ok e1 f1 h1 =>
    cases e1 with
    | normal => exact .inl ⟨f1, h1, rfl, he⟩
    | exit i => cases he; exact .inr ⟨rfl, by simp⟩
    | ret => cases he; exact .inr ⟨rfl, by simp⟩
    | panic v => cases he; exact .inr ⟨rfl, by simp⟩

/-- Two pieces, one behind the other. -/
theorem seq_ok {x y : Code} {code1 code2 : CodeK} (hF : WL Fe) (hcy : Fe.round = none ∨ calm y = true) (h1 : ∀ e f' h', code1 x f h = .ok e f' h' → x.wpIn Fe nn P (CodePost P U lo μ h w e f' h') a w) (h2 : CodeOk P code2) (hlo : lo ≤ w.heap.size) {e : Ex} {f' : Fr} {h' : Hp}
    (he : onNormal (code1 x f h) (code2 y) = .ok e f' h') : x.wpIn Fe nn P (Exit.then (y.wpIn Fe nn P (CodePost P U lo μ h w e f' h')) (CodePost P U lo μ h w e f' h')) a w := by
  rcases onNormal_some he with ⟨f1, h1', g1, g2⟩ | ⟨g1, g2⟩
  · refine wpIn_mono (h1 _ _ _ g1) fun ex a' w' p => ?_
    obtain ⟨μ1, q1, q2, q3⟩ := p
    refine then_of (fun _ => ?_) (fun hx => absurd ((exOk_normal q3).1 rfl) hx)
    exact wpIn_mono (h2 y f1 h1' e f' h' g2 Fe nn hF hcy U lo μ1 w' a' q1.ok q1.sat (size_go q1 hlo) q2) fun ex a2 w2 p => p.trans q1
  · refine wpIn_mono (h1 _ _ _ g1) fun ex a' w' p => ?_
    obtain ⟨μ1, q1, q2, q3⟩ := p
    exact then_of (fun hx => absurd ((exOk_normal q3).2 hx) g2) (fun _ => ⟨μ1, q1, q2, q3⟩)

theorem outOf_some {id : Nat} {r : Res} {e : Ex} {f' : Fr} {h' : Hp} (he : outOf id r = .ok e f' h') : ∃ e1, r = .ok e1 f' h' ∧ ((e1 = .exit id ∧ e = .normal) ∨ (e1 ≠ .exit id ∧ e = e1)) := by
  cases r with
  | fail => cases he
  | ok e1 f1 h1 =>
    cases e1 with
    | normal => cases he; exact ⟨_, rfl, .inr ⟨by simp, rfl⟩⟩
    | exit i =>
      replace he : ite' (Nat.beq i id) (Res.ok .normal f1 h1) (.ok (.exit i) f1 h1) = .ok e f' h' := he
      rw [ite'_eq] at he
      split at he
      · rename_i hc
        rw [beq_eq] at hc
        subst hc
        cases he
        exact ⟨_, rfl, .inl ⟨rfl, rfl⟩⟩
      · rename_i hc
        rw [beq_eq] at hc
        cases he
        exact ⟨_, rfl, .inr ⟨by simpa using hc, rfl⟩⟩
    | ret => cases he; exact ⟨_, rfl, .inr ⟨by simp, rfl⟩⟩
    | panic v => cases he; exact ⟨_, rfl, .inr ⟨by simp, rfl⟩⟩

omit [NG P] in
theorem bool_eval {c : Operand} {t : Bool} (ok : HpOk U h) (s : Sat P lo μ h.look w) (fr : FrOk U μ h f a) (hc : okOpnd c = true) (hb : boolOf? (f.eval c) = some t) : a.eval c = .bool t := by
  rw [boolOf_some] at hb
  rw [(eval_ok ok s fr hc).1, hb, ren_bool]

end

theorem rfArgs_some {P : Program} [NG P] {l : Nat} {v : Value} {g : FuncId} {args : List Value} (hr : rfArgs P l v = some (g, args)) : ∃ first cap, v = .func (.func g) ⟨first⟩ ⟨cap⟩ ∧ bodyOf P g = true ∧ args = first ++ (.chan (some l) :: cap) := by
  unfold rfArgs at hr
  split at hr
  · rename_i g' first cap
    obtain ⟨h1, h2⟩ := ite'_eq_some.1 hr
    cases h2
    obtain ⟨first⟩ := first; obtain ⟨cap⟩ := cap
    exact ⟨first, cap, rfl, h1, by rw [appL_eq]⟩
  · cases hr

/-- A range over a function, in no round. -/
theorem rangeFunc_ok {P : Program} [NG P] {call : CallK} {code : CodeK} (hcall : CallOk P call) (hcode : CodeOk P code) {Fe : Fence} {nn : Nat} (hF : WL Fe) (hro : Fe.round = none) {g : Operand} {ps : Array Tmp} {as bd : Code} (hg : okOpnd g = true) (hc1 : calm as = true) (hc2 : calm bd = true)
    {f : Fr} {h : Hp} {e : Ex} {f' : Fr} {h' : Hp} (he : cRange g ps as bd P call code f h = .ok e f' h') {U : Ids} {lo : Nat} {μ : Mu} {w : World} {a : Act} (ok : HpOk U h) (s : Sat P lo μ h.look w) (hlo : lo ≤ w.heap.size) (fr : FrOk U μ h f a) :
    (Code.rangeFunc g ps as bd).wpIn Fe nn P (CodePost P U lo μ h w e f' h') a w := by
  unfold cRange at he
  cases hra : rfArgs P (Nat.succ h.next) (f.eval g) with
  | none => rw [hra] at he; cases he
  | some ga =>
    obtain ⟨gf, args⟩ := ga
    rw [hra] at he
    replace he : rfRet code (markF f h.next) (Nat.succ h.next) (call gf args (rangeHp f h ps as bd)) = .ok e f' h' := he
    obtain ⟨first, cap, hv, hb, rfl⟩ := rfArgs_some hra
    obtain ⟨hev, hst⟩ := eval_ok ok s fr hg
    rw [hv] at hev hst
    rw [ren_func] at hev
    obtain ⟨st1, st2⟩ := stable_func.1 hst
    unfold rfRet at he
    split at he
    · rename_i v h3 hc
      -- the two blocks
      have g1 : Go2 P U lo μ (upMu μ h.next ⟨w.heap.size, 0, 0⟩) h (h.add (.defb true)) w (w.alloc (.deferred (some []))) := by
        refine go2_add ok s hlo trivial rfl rfl rfl rfl ?_
        show (w.alloc (.deferred (some []))).heap[(upMu μ h.next ⟨w.heap.size, 0, 0⟩ h.next).blk]? = _
        rw [upMu_same]; exact World.alloc_heap_new w _
      refine wpIn_rangeFunc fun fn hfn => ?_
      obtain ⟨rec, hrec⟩ : ∃ rec : Loop, rec = { state := .ready, pending := none, fn, tmps := a.tmps, params := ps, assign := as, body := bd, defers := w.heap.size } := ⟨_, rfl⟩
      have fr1 := fr.go g1
      have hn1 : (h.add (.defb true)).next = h.next + 1 := add_next _ _
      have hs1 : (w.alloc (.deferred (some []))).heap.size = w.heap.size + 1 := by simp
      have g2 : Go2 P U lo (upMu μ h.next ⟨w.heap.size, 0, 0⟩) (upMu (upMu μ h.next ⟨w.heap.size, 0, 0⟩) (h.add (.defb true)).next ⟨(w.alloc (.deferred (some []))).heap.size, 0, 0⟩) (h.add (.defb true)) (rangeHp f h ps as bd) (w.alloc (.deferred (some []))) ((w.alloc (.deferred (some []))).alloc (.loop rec)) := by
        refine go2_add g1.ok g1.sat (size_go g1 hlo) ?_ rfl rfl rfl rfl ?_
        · exact fun t ht => (fr1.st t ht).mono fun id hi => vis_add' g1.ok _ hi
        · refine ⟨⟨rec, ?_, ?_⟩, fr.le, hc1, hc2⟩
          · rw [upMu_same]; exact World.alloc_heap_new _ _
          · rw [hrec]
            refine ⟨rfl, rfl, by simp, rfl, rfl, fr.size, fun t ht => ?_⟩
            rw [ren_up (U := U) (fr1.st t ht)]
            exact fr1.val t ht
      have g12 := g1.trans g2
      generalize hμ2 : upMu (upMu μ h.next ⟨w.heap.size, 0, 0⟩) (h.add (.defb true)).next ⟨(w.alloc (.deferred (some []))).heap.size, 0, 0⟩ = μ2 at g2 g12
      have hl2 : μ2 (h.next + 1) = ⟨w.heap.size + 1, 0, 0⟩ := by rw [← hμ2, ← hn1, upMu_same, hs1]
      have hd2 : μ2 h.next = ⟨w.heap.size, 0, 0⟩ := by rw [← hμ2, upMu_ne (by omega), upMu_same]
      have hvl : Vis U (rangeHp f h ps as bd) (h.next + 1) := by
        have := vis_new g1.ok (.loop .ready none f.tm f.sz ps.toList as bd) (U := U)
        rwa [hn1] at this
      have hvd : Vis U (rangeHp f h ps as bd) h.next := vis_add' g1.ok _ (vis_new ok _)
      have hargs : (first ++ (Value.chan (some (Nat.succ h.next)) :: cap)).map (ren μ2) = first.map (ren μ) ++ (.func (.yield (w.heap.size + 1)) #[] #[] :: cap.map (ren μ)) := by
        rw [List.map_append, List.map_cons, ren_yield, show μ2 (Nat.succ h.next) = ⟨w.heap.size + 1, 0, 0⟩ from hl2]
        congr 1
        · exact List.map_congr_left fun v hv => g12.ren (st1 v hv)
        · congr 1
          exact List.map_congr_left fun v hv => g12.ren (st2 v hv)
      have hcalls := hcall.calls gf _ _ false v h3 (bodyOf_lt hb) hc U lo μ2 _ g12.ok g12.sat (size_go g12 hlo) (by
        intro x hx
        rcases List.mem_append.1 hx with hx | hx
        · exact g12.stable (st1 x hx)
        · rcases List.mem_cons.1 hx with rfl | hx
          · exact stable_yield hvl
          · exact g12.stable (st2 x hx))
      rw [hargs] at hcalls
      refine ⟨w.heap.size + 1, [{ target := .collected w.heap.size, args := #[] }], (w.alloc (.deferred (some []))).alloc (.loop rec), { target := .fn (.func gf) ⟨cap.map (ren μ)⟩, args := ⟨first.map (ren μ)⟩ ++ #[.func (.yield (w.heap.size + 1)) #[] #[]] }, (w.alloc (.deferred (some []))).alloc (.loop rec), gf,
        ⟨first.map (ren μ)⟩ ++ #[.func (.yield (w.heap.size + 1)) #[] #[]] ++ ⟨cap.map (ren μ)⟩, (w.alloc (.deferred (some []))).alloc (.loop rec), ?_, ?_, fun f' hf' => hF.fn _, ?_, fun x => (hF.deep x).elim, ?_⟩
      · rw [hro, hrec]; exact run_enterLoop_outer fn a.tmps ps as bd
      · unfold resolve
        simp only [hev, Deferred.ofValue, Sem.run_pure]
        simp [Act.eval]
      · unfold invoke
        exact run_callFunc hb
      · refine hF.calls ?_
        refine Calls.mono (R := CallPost P U lo μ2 (rangeHp f h ps as bd) ((w.alloc (.deferred (some []))).alloc (.loop rec)) false v h3) ?_ fun en w3 hen => ?_
        · have : (⟨first.map (ren μ)⟩ ++ #[Value.func (.yield (w.heap.size + 1)) #[] #[]] ++ ⟨cap.map (ren μ)⟩ : Array Value) = (first.map (ren μ) ++ (.func (.yield (w.heap.size + 1)) #[] #[] :: cap.map (ren μ))).toArray := by simp
          rw [this]; exact hcalls
        · obtain ⟨μ3, g3, _, rfl⟩ := hen
          have g123 := g12.trans g3
          have hag3 : ∀ id, Vis U (rangeHp f h ps as bd) id → μ3 id = μ2 id := fun id hi => g3.post.agree id fun hf => by have := hi.1; unfold Fresh at hf; omega
          unfold rfEnd at he
          cases hl3 : h3.look (Nat.succ h.next) with
          | none => rw [hl3] at he; cases he
          | some b =>
            rw [hl3] at he
            replace he : rfEndB code (markF f h.next) (Nat.succ h.next) h3 b = .ok e f' h' := he
            unfold rfEndB at he
            split at he
            · rename_i st pend tm sz ps' as' bd'
              rw [ite'_eq] at he
              split at he
              · cases he
              · rename_i hbusy
                obtain ⟨rec3, q1, q2, q3, _⟩ := loop_at g3.sat hl3
                rw [hag3 _ hvl, hl2] at q1
                have g4 := loop_turn (st' := .exhausted) (pend' := pend) g3.ok g3.sat hl3 (rec := rec3) (by rw [show μ3 (Nat.succ h.next) = μ2 (h.next + 1) from hag3 _ hvl, hl2]; exact q1)
                rw [show μ3 (Nat.succ h.next) = μ2 (h.next + 1) from hag3 _ hvl, hl2] at g4
                have g1234 := g123.trans g4
                have hnb : rec3.state ≠ .busy := by
                  rw [q2]; rintro rfl; exact hbusy rfl
                refine ⟨rec3.pending, _, run_endLoop q1 hnb, ?_⟩
                rw [show ({ rec3 with state := LoopState.exhausted, pending := pend } : Loop) = { rec3 with state := .exhausted } from by rw [← q3]] at g4 g1234
                have frm : FrOk U μ3 (h3.put (Nat.succ h.next) (some (.loop .exhausted pend tm sz ps' as' bd'))) (markF f h.next) { a with defers := [{ target := .collected w.heap.size, args := #[] }] ++ a.defers } := by
                  have frx := fr.go g1234
                  refine ⟨frx.size, frx.le, frx.val, frx.st, ?_, ?_⟩
                  · show _ :: a.defers = (_ :: f.defers).map _
                    rw [List.map_cons, frx.defs, renD_mark, hag3 _ hvd, hd2]
                  · intro d hd
                    rcases List.mem_cons.1 hd with rfl | hd
                    · exact .inr ⟨h.next, rfl, (g3.trans g4).step.vis _ hvd⟩
                    · exact frx.dst d hd
                split
                · rename_i hp
                  have hpn : pend = none := q3.symm.trans hp
                  subst hpn
                  cases he
                  exact ⟨μ3, g1234, frm, trivial⟩
                · rename_i c hp
                  have hpn : pend = some c := q3.symm.trans hp
                  subst hpn
                  replace he : code c (markF f h.next) (h3.put (Nat.succ h.next) (some (.loop .exhausted (some c) tm sz ps' as' bd'))) = .ok e f' h' := he
                  exact wpIn_mono (hcode c _ _ e f' h' he Fe nn hF (.inl hro) U lo μ3 _ _ g1234.ok g1234.sat (size_go g1234 hlo) frm) fun ex a' w' p => p.trans g1234
            · cases he
    · cases he

/-- All but the loops. -/
theorem code_ok {P : Program} [NG P] (hm : P.follows .mixedOrders = true) {call : CallK} {code : CodeK} (hcall : CallOk P call) (hcode : CodeOk P code) {Fe : Fence} {nn : Nat} (hF : WL Fe) {c : Code} (hcl : Fe.round = none ∨ calm c = true) {f : Fr} {h : Hp} {e : Ex} {f' : Fr} {h' : Hp}
    (he : evCode P call code c f h = .ok e f' h') (hl : ∀ b, c ≠ .loop b) {U : Ids} {lo : Nat} {μ : Mu} {w : World} {a : Act} (ok : HpOk U h) (s : Sat P lo μ h.look w) (hlo : lo ≤ w.heap.size) (fr : FrOk U μ h f a) :
    c.wpIn Fe nn P (CodePost P U lo μ h w e f' h') a w := by
  cases c with
  | skip => cases he; exact wpIn_skip ⟨μ, .refl ok s, fr, trivial⟩
  | label l => cases he; exact wpIn_label ⟨μ, .refl ok s, fr, trivial⟩
  | exit id => cases he; exact wpIn_exit ⟨μ, .refl ok s, fr, rfl⟩
  | ret => cases he; exact wpIn_ret ⟨μ, .refl ok s, fr, trivial⟩
  | rangeFunc g ps as bd =>
    replace he : (ite' (ite' (okOpnd g) (ite' (calm as) (calm bd) false) false) (cRange g ps as bd) cNo) P call code f h = .ok e f' h' := he
    have hro : Fe.round = none := hcl.resolve_right (fun h => by cases h)
    rw [ite'_eq] at he
    split at he
    · rename_i hc
      obtain ⟨hc1, hc2⟩ := ite'_and hc
      obtain ⟨hc2, hc3⟩ := ite'_and hc2
      exact rangeFunc_ok hcall hcode hF hro hc1 hc2 hc3 he ok s hlo fr
    · cases he
  | scope b =>
    replace he : code b f h = .ok e f' h' := he
    refine wpIn_scope (wpIn_mono (hcode b f h e f' h' he Fe nn hF (rightly hcl fun h => h) U lo μ w a ok s hlo fr) fun ex a' w' p => ?_)
    cases ex with
    | goto l =>
      obtain ⟨_, _, _, q3⟩ := p
      cases e <;> exact q3
    | _ => exact p
  | goto => cases he
  | refuse => cases he
  | loop b => exact absurd rfl (hl b)
  | region id ops draw =>
    cases draw with
    | true =>
      replace he : ite' (drawOk ops) (evDraw P call ops ops.toList (incs ops) [] f h) .fail = .ok e f' h' := he
      rw [ite'_eq] at he
      split at he
      · exact draw_ok hm hcall hF ‹_› (rightly hcl fun h => h) he ok s hlo fr
      · cases he
    | false =>
      replace he : evList P call ops ops.toList f h = .ok e f' h' := he
      refine wpIn_region ?_
      have := list_ok (nn := nn) (Q := CodePost P U lo μ h w e f' h') hcall hF ops.toList 0 f h e f' h' he rfl (rightly hcl fun h => h) μ w a ok s hlo fr fun _ _ _ p => p
      rwa [show List.range' 0 ops.toList.length = List.range ops.size from by rw [List.range_eq_range']; simp] at this
  | seq x y =>
    replace he : onNormal (code x f h) (code y) = .ok e f' h' := he
    have hc2 : Fe.round = none ∨ (calm x = true ∧ calm y = true) := rightly hcl fun h => ite'_and h
    exact wpIn_seq (seq_ok (code1 := code) hF (rightly hc2 (·.2)) (fun e f' h' g => hcode x f h e f' h' g Fe nn hF (rightly hc2 (·.1)) U lo μ w a ok s hlo fr) hcode hlo he)
  | cond c x y =>
    replace he : (ite' (okOpnd c) (cCond c x y) cNo) P call code f h = .ok e f' h' := he
    rw [ite'_eq] at he
    split at he
    · rename_i hc
      replace he : condV (f.eval c) (code x f h) (code y f h) = .ok e f' h' := he
      unfold condV at he
      cases hb : boolOf? (f.eval c) with
      | none => rw [hb] at he; cases he
      | some t =>
        rw [hb] at he
        have hc2 : Fe.round = none ∨ (calm x = true ∧ calm y = true) := rightly hcl fun h => ite'_and h
        refine wpIn_cond (bool_eval ok s fr hc hb) ?_
        cases t with
        | true => exact hcode x f h e f' h' he Fe nn hF (rightly hc2 (·.1)) U lo μ w a ok s hlo fr
        | false => exact hcode y f h e f' h' he Fe nn hF (rightly hc2 (·.2)) U lo μ w a ok s hlo fr
    · cases he
  | block id b =>
    replace he : outOf id (code b f h) = .ok e f' h' := he
    obtain ⟨e1, h1, h2⟩ := outOf_some he
    refine wpIn_block (wpIn_mono (hcode b f h e1 f' h' h1 Fe nn hF (rightly hcl fun h => h) U lo μ w a ok s hlo fr) fun ex a' w' p => ?_)
    obtain ⟨μ', q1, q2, q3⟩ := p
    rcases h2 with ⟨rfl, rfl⟩ | ⟨h2, rfl⟩
    · cases ex <;> simp only [ExOk] at q3
      subst q3
      simp only [Exit.inBlock, if_true]
      exact ⟨μ', q1, q2, trivial⟩
    · cases ex with
      | exit j =>
        simp only [Exit.inBlock]
        rw [if_neg]
        · exact ⟨μ', q1, q2, q3⟩
        · rintro rfl
          cases e <;> simp only [ExOk] at q3
          subst q3
          exact h2 rfl
      | normal => exact ⟨μ', q1, q2, q3⟩
      | ret => exact ⟨μ', q1, q2, q3⟩
      | panic ch => exact ⟨μ', q1, q2, q3⟩
      | goto l => exact ⟨μ', q1, q2, q3⟩
      | outgrown => exact ⟨μ', q1, q2, q3⟩

/-- The least number with a property. -/
theorem wpIn_loop_ghost {P : Program} [NG P] {Fe : Fence} {nn : Nat} {Q : Exit → Act → World → Prop} {a : Act} {w : World} {c : Code} (I : Nat → Act → World → Prop) (n₀ : Nat) (h₀ : I n₀ a w)
    (round : ∀ n a w, I n a w → c.wpIn Fe nn P (Exit.then (fun a' w' => ∃ n', n' < n ∧ I n' a' w') Q) a w) : (Code.loop c).wpIn Fe nn P Q a w := by
  refine wpIn_loop (fun a w => ∃ n, I n a w) (fun a w => leastOf (fun n => I n a w)) ⟨n₀, h₀⟩ ?_
  intro a w hI
  refine wpIn_mono (round _ a w (leastOf_spec hI).1) ?_
  intro e a' w' hq
  cases e with
  | normal =>
    obtain ⟨n', h1, h2⟩ := hq
    exact ⟨⟨n', h2⟩, Nat.lt_of_le_of_lt ((leastOf_spec ⟨n', h2⟩).2 n' h2) h1⟩
  | exit id => exact hq
  | ret => exact hq
  | panic ch => exact hq
  | goto l => exact hq
  | outgrown => exact hq

/-- A loop, by its rounds' fuel. -/
theorem loop_ok {P : Program} [NG P] {tab : Tab} {Fe : Fence} {nn : Nat} (hF : WL Fe) (n : Nat) (hcode : ∀ m, m ≤ n → CodeOk P (ev P tab m).code) {b : Code} (hcl : Fe.round = none ∨ calm b = true) {f : Fr} {h : Hp} {e : Ex} {f' : Fr} {h' : Hp}
    (he : (ev P tab (n + 1)).code (.loop b) f h = .ok e f' h') {U : Ids} {lo : Nat} {μ : Mu} {w : World} {a : Act} (ok : HpOk U h) (s : Sat P lo μ h.look w) (hlo : lo ≤ w.heap.size) (fr : FrOk U μ h f a) :
    (Code.loop b).wpIn Fe nn P (CodePost P U lo μ h w e f' h') a w := by
  refine wpIn_loop_ghost (fun m a1 w1 => m ≤ n + 1 ∧ ∃ f1 h1 μ1, (ev P tab m).code (.loop b) f1 h1 = .ok e f' h' ∧ Go2 P U lo μ μ1 h h1 w w1 ∧ FrOk U μ1 h1 f1 a1) (n + 1) ⟨Nat.le_refl _, f, h, μ, he, .refl ok s, fr⟩ ?_
  rintro m a1 w1 ⟨hm, f1, h1, μ1, he1, g, fr1⟩
  cases m with
  | zero => cases he1
  | succ m =>
    replace he1 : onNormal ((ev P tab m).code b f1 h1) ((ev P tab m).code (.loop b)) = .ok e f' h' := he1
    have hb := hcode m (by omega)
    rcases onNormal_some he1 with ⟨f2, h2, g1, g2⟩ | ⟨g1, g2⟩
    · refine wpIn_mono (hb b f1 h1 _ _ _ g1 Fe nn hF hcl U lo μ1 w1 a1 g.ok g.sat (size_go g hlo) fr1) fun ex a' w' p => ?_
      obtain ⟨μ2, q1, q2, q3⟩ := p
      exact then_of (fun _ => ⟨m, Nat.lt_succ_self m, by omega, f2, h2, μ2, g2, g.trans q1, q2⟩) (fun hx => absurd ((exOk_normal q3).1 rfl) hx)
    · refine wpIn_mono (hb b f1 h1 _ _ _ g1 Fe nn hF hcl U lo μ1 w1 a1 g.ok g.sat (size_go g hlo) fr1) fun ex a' w' p => ?_
      have q3 := p
      obtain ⟨μ2, _, _, q3⟩ := q3
      exact then_of (fun hx => absurd ((exOk_normal q3).2 hx) g2) (fun _ => p.trans g)

/-! Functions. -/
section
variable {P : Program} [NG P] {U : Ids} {lo : Nat} {μ : Mu} {h : Hp} {w : World} {f : Fr} {a : Act}

theorem argTree_get : ∀ (l : List Value) (i : Nat) (t : Tm), i + l.length ≤ 512 → ∀ j, j < 512 → getTm j (argTree l i t) = if i ≤ j ∧ j < i + l.length then l.getD (j - i) undef else getTm j t := by
  intro l
  induction l with
  | nil => intro i t _ j _; rw [if_neg (by simp only [List.length_nil]; omega)]; try rfl
  | cons v l ih =>
    intro i t hl j hj
    simp only [List.length_cons] at hl
    show getTm j (argTree l (i + 1) (putTm0 i ⟨v⟩ t)) = _
    rw [ih (i + 1) _ (by omega) j hj, getTm_put j i v t hj (by omega)]
    simp only [List.length_cons]
    by_cases h1 : j = i
    · subst h1
      rw [if_neg (by omega), if_pos rfl, if_pos (by omega)]
      simp
    · rw [if_neg h1]
      by_cases h2 : i + 1 ≤ j ∧ j < i + 1 + l.length
      · rw [if_pos h2, if_pos (by omega), show j - i = (j - (i + 1)) + 1 from by omega]
        simp
      · rw [if_neg h2, if_neg (by omega)]

/-- A function's frame at its start. -/
theorem frame_ok {fn : Func} {args : List Value} (hle : Nat.ble (maxN (lenL args) fn.ntmps) 512 = true) (hst : ∀ v ∈ args, Stable (Vis U h) v) :
    FrOk U μ h (frameOf fn args) { tmps := (args.map (ren μ)).toArray ++ Array.replicate (fn.ntmps - (args.map (ren μ)).toArray.size) undef, defers := [] } := by
  rw [ble_eq, maxN_eq, lenL_eq] at hle
  have hsz : (frameOf fn args).sz = max args.length fn.ntmps := by
    show maxN (lenL args) fn.ntmps = _
    rw [maxN_eq, lenL_eq]
  have htm : ∀ t, t < 512 → getTm t (frameOf fn args).tm = if t < args.length then args.getD t undef else undef := by
    intro t ht
    show getTm t (argTree args 0 tm0) = _
    rw [argTree_get args 0 tm0 (by omega) t ht, getTm_tm0]
    simp
  refine ⟨?_, by rw [hsz]; omega, ?_, ?_, rfl, ?_⟩
  · rw [hsz]; simp; omega
  · intro t ht
    rw [htm t ht, Array.getD_eq_getD_getElem?, Array.getElem?_append]
    simp only [List.size_toArray, List.length_map]
    by_cases h1 : t < args.length
    · rw [if_pos h1, if_pos h1]
      simp [h1]
    · rw [if_neg h1, if_neg h1, Array.getElem?_replicate, ren_undef]
      split <;> rfl
  · intro t ht
    rw [htm t ht]
    split
    · rename_i h1
      have : args.getD t undef = args[t] := by simp [h1]
      rw [this]
      exact hst _ (List.getElem_mem h1)
    · exact stable_of_const (ren_undef ·)
  · intro d hd; cases hd

omit [NG P] in
/-- One result. -/
theorem result_ok {r : ResultVar} {v : Value} (ok : HpOk U h) (s : Sat P lo μ h.look w) (fr : FrOk U μ h f a) (he : evResult P f h r = some v) :
    (match r with
      | .tmp t => (pure (a.tmps.getD t undef) : Sem Value)
      | .cell p t => do loadVar t (← asAddr (a.tmps.getD p undef))).run P w = .ok (ren μ v) w ∧ Stable (Vis U h) v := by
  cases r with
  | tmp t =>
    obtain ⟨h1, h2⟩ := ite'_eq_some.1 (he : ite' (Nat.blt t 512) (some (getTm t f.tm)) none = some v)
    rw [blt_eq] at h1
    cases h2
    refine ⟨?_, fr.st t h1⟩
    simp only [fr.val t h1]
    rfl
  | cell p t =>
    obtain ⟨h1, h2⟩ := ite'_eq_some.1 (he : ite' (Nat.blt p 512) (evLoad P h t (getTm p f.tm)) none = some v)
    rw [blt_eq] at h1
    obtain ⟨g1, g2⟩ := load_ok ok s h2
    refine ⟨?_, g2⟩
    simp only [fr.val p h1]
    have : ∃ ad, getTm p f.tm = .pointer (some ad) := by
      unfold evLoad at h2
      obtain ⟨ad, h3, _⟩ := ob_eq_some.1 h2
      rw [addrOf_some] at h3
      exact ⟨ad, h3⟩
    obtain ⟨ad, had⟩ := this
    rw [had, ren_ptrA] at g1 ⊢
    simpa [Instr.loadAt, Instr.sureAddr, asAddr] using g1

omit [NG P] in
theorem results_ok {fn : Func} {v : Value} (ok : HpOk U h) (s : Sat P lo μ h.look w) (fr : FrOk U μ h f a) (he : evResults P fn f h = some v) :
    (results fn a.tmps).run P w = .ok (ren μ v) w ∧ Stable (Vis U h) v := by
  unfold evResults at he
  obtain ⟨l, h1, h2⟩ := om_eq_some.1 he
  have key : ∀ (rs : List ResultVar) (l : List Value), evResultsL P f h rs = some l → (rs.mapM fun (r : ResultVar) => (match r with
      | .tmp t => (pure (a.tmps.getD t undef) : Sem Value)
      | .cell p t => do loadVar t (← asAddr (a.tmps.getD p undef)))).run P w = .ok (l.map (ren μ)) w ∧ ∀ v ∈ l, Stable (Vis U h) v := by
    intro rs
    induction rs with
    | nil => intro l hl; cases hl; exact ⟨rfl, by simp⟩
    | cons r rs ih =>
      intro l hl
      obtain ⟨x, h3, h4⟩ := ob_eq_some.1 (hl : ob (evResult P f h r) (fun v => om (evResultsL P f h rs) (v :: ·)) = some l)
      obtain ⟨xs, h5, h6⟩ := om_eq_some.1 h4
      subst h6
      obtain ⟨g1, g2⟩ := result_ok ok s fr h3
      obtain ⟨g3, g4⟩ := ih xs h5
      refine ⟨?_, ?_⟩
      · rw [List.mapM_cons, Sem.run_bind, g1, Result.andThen_ok, Sem.run_bind, g3, Result.andThen_ok]
        rfl
      · intro v hv
        rcases List.mem_cons.1 hv with rfl | hv
        · exact g2
        · exact g4 v hv
  obtain ⟨g1, g2⟩ := key _ _ h1
  have hres : (results fn a.tmps).run P w = .ok (if hs : (l.map (ren μ)).toArray.size = 1 then (l.map (ren μ)).toArray[0] else .tuple (l.map (ren μ)).toArray) w := by
    unfold results
    obtain ⟨rs, hrs⟩ : ∃ rs : List ResultVar, fn.results = ⟨rs⟩ := ⟨fn.results.toList, rfl⟩
    rw [hrs] at g1 ⊢
    rw [Sem.run_bind, List.mapM_toArray, Sem.run_map]
    erw [g1]
    rfl
  rw [hres]
  subst h2
  match l, g2 with
  | [], _ => exact ⟨by rw [show packL [] = .tuple ⟨[]⟩ from rfl, ren_tuple]; rfl, stable_of_const fun μ => by rw [show packL [] = .tuple ⟨[]⟩ from rfl, ren_tuple]; rfl⟩
  | [x], g2 => exact ⟨rfl, g2 x (.head _)⟩
  | x :: y :: l, g2 =>
    refine ⟨?_, stable_tuple.2 g2⟩
    rw [show packL (x :: y :: l) = .tuple ⟨x :: y :: l⟩ from rfl, ren_tuple]
    rw [dif_neg (by simp)]

end
end Go.Ev
