/- A verified evaluator: a part of it. -/
import Derived.Test.YtaokhbanpfmkmaaGreatEvM
import Derived.OrdersIn
import Derived.RangeFuncCalls
import Derived.RangeFuncLeaves
namespace Go.Ev
set_option linter.unusedVariables false
set_option linter.unusedSimpArgs false
theorem rightly {a b c : Prop} (h : a ∨ b) (k : b → c) : a ∨ c := h.elim .inl fun x => .inr (k x)
variable {U : Ids}

/-! Frames; one operation in a frame. -/

def renD (μ : Mu) (d : Deferred) : Deferred :=
  { target := match d.target with | .fn fn cap => .fn fn (renArr μ cap) | .collected b => .collected (μ b).blk | t => t, args := renArr μ d.args }
/-- A deferred call of a function, or a range's mark. -/
def StableD (S : Ids) (d : Deferred) : Prop := (∃ g cap args, d = { target := .fn (.func g) ⟨cap⟩, args := ⟨args⟩ } ∧ (∀ v ∈ cap, Stable S v) ∧ ∀ v ∈ args, Stable S v) ∨ ∃ b, d = { target := .collected b, args := ⟨[]⟩ } ∧ S b

theorem StableD.mono {S S' : Ids} {d : Deferred} (h : StableD S d) (hs : ∀ id, S id → S' id) : StableD S' d := by
  rcases h with ⟨g, cap, args, rfl, s1, s2⟩ | ⟨b, rfl, s1⟩
  · exact .inl ⟨g, cap, args, rfl, fun v hv => (s1 v hv).mono hs, fun v hv => (s2 v hv).mono hs⟩
  · exact .inr ⟨b, rfl, hs b s1⟩
theorem renD_mk (μ : Mu) (g : FuncId) (cap args : List Value) : renD μ { target := .fn (.func g) ⟨cap⟩, args := ⟨args⟩ } = { target := .fn (.func g) ⟨cap.map (ren μ)⟩, args := ⟨args.map (ren μ)⟩ } := by
  unfold renD; simp only [renArr_mk]

structure FrOk (U : Ids) (μ : Mu) (h : Hp) (f : Fr) (a : Act) : Prop where
  size : a.tmps.size = f.sz
  le : f.sz ≤ 512
  val : ∀ t, t < 512 → a.tmps.getD t undef = ren μ (getTm t f.tm)
  st : ∀ t, t < 512 → Stable (Vis U h) (getTm t f.tm)
  defs : a.defers = f.defers.map (renD μ)
  dst : ∀ d ∈ f.defers, StableD (Vis U h) d

section
variable {P : Program} [NG P] {lo : Nat} {μ : Mu} {h : Hp} {w : World} {f : Fr} {a : Act}

theorem renD_mark (μ : Mu) (b : Nat) : renD μ { target := .collected b, args := ⟨[]⟩ } = { target := .collected (μ b).blk, args := ⟨[]⟩ } := rfl
omit [NG P] in
theorem renD_go {μ' : Mu} {h' : Hp} {w' : World} (g : Go2 P U lo μ μ' h h' w w') {d : Deferred} (hd : StableD (Vis U h) d) : renD μ' d = renD μ d ∧ StableD (Vis U h') d := by
  rcases hd with ⟨g', cap, args, rfl, h1, h2⟩ | ⟨b, rfl, h1⟩
  · refine ⟨?_, .inl ⟨g', cap, args, rfl, fun v hv => g.stable (h1 v hv), fun v hv => g.stable (h2 v hv)⟩⟩
    rw [renD_mk, renD_mk]
    congr 2
    · congr 1; exact List.map_congr_left fun v hv => g.ren (h1 v hv)
    · exact List.map_congr_left fun v hv => g.ren (h2 v hv)
  · refine ⟨?_, .inr ⟨b, rfl, g.step.vis _ h1⟩⟩
    rw [renD_mark, renD_mark, g.post.agree b fun hf => by have := h1.1; unfold Fresh at hf; omega]

omit [NG P] in
theorem FrOk.go {μ' : Mu} {h' : Hp} {w' : World} (fr : FrOk U μ h f a) (g : Go2 P U lo μ μ' h h' w w') : FrOk U μ' h' f a := by
  refine ⟨fr.size, fr.le, fun t ht => ?_, fun t ht => g.stable (fr.st t ht), ?_, fun d hd => (renD_go g (fr.dst d hd)).2⟩
  · rw [fr.val t ht, g.ren (fr.st t ht)]
  · rw [fr.defs]
    exact (List.map_congr_left fun d hd => (renD_go g (fr.dst d hd)).1).symm

omit [NG P] in
theorem eval_ok (ok : HpOk U h) (s : Sat P lo μ h.look w) (fr : FrOk U μ h f a) {x : Operand} (hx : okOpnd x = true) : a.eval x = ren μ (f.eval x) ∧ Stable (Vis U h) (f.eval x) := by
  cases x with
  | tmp t =>
    have ht : t < 512 := blt_eq.1 hx
    exact ⟨fr.val t ht, fr.st t ht⟩
  | const v => exact ⟨(ren_closedA hx μ).symm, stable_closedA hx⟩
  | global g =>
    have hg : g < 1000 := blt_eq.1 hx
    refine ⟨?_, ?_⟩
    · show Value.pointer (some ⟨g, 0, none⟩) = ren μ (.pointer (some ⟨g, 0, none⟩))
      rw [ren_ptrA]; unfold renA; rw [s.low g hg]; simp
    · refine stable_ptr ⟨Nat.lt_of_lt_of_le hg ok.nx, fun hu => ?_⟩
      have := (ok.unk _ hu).1
      simp only at this; omega
  | func g =>
    refine ⟨?_, ?_⟩
    · show Value.func (.func g) ⟨[]⟩ ⟨[]⟩ = ren μ (.func (.func g) ⟨[]⟩ ⟨[]⟩)
      rw [ren_func]; rfl
    · exact stable_func.2 ⟨by simp, by simp⟩

theorem okOp_mem {op : Op} (hk : okOp op = true) : ∀ x ∈ op.operands, okOpnd x = true := by
  unfold okOp at hk
  rw [allL_eq, List.all_eq_true] at hk
  exact fun x hx => hk x (by simpa using hx)

omit [NG P] in
theorem evOp_okOp {op : Op} {o : Oper} (hk : okOp op = false) : evOp op P h f o = .fail := by
  unfold evOp; rw [hk]; rfl

theorem FrOk.put {f' : Fr} {h' : Hp} {d : Option Tmp} {v : Value} {e : Ex} (fr : FrOk U μ h f a) (hv : Stable (Vis U h) v) (hp : putTm f h d v = .ok e f' h') :
    e = .normal ∧ h' = h ∧ FrOk U μ h f' (a.put d (ren μ v)) ∧ f'.defers = f.defers := by
  cases d with
  | none =>
    cases hp
    exact ⟨rfl, rfl, fr, rfl⟩
  | some t =>
    obtain ⟨tm, sz, df⟩ := f
    have hp : ite' (Nat.ble (Nat.succ t) sz) (Res.ok .normal ⟨putTm0 t ⟨v⟩ tm, sz, df⟩ h) .fail = .ok e f' h' := hp
    rw [ite'_eq] at hp
    split at hp
    · rename_i hc
      rw [ble_eq] at hc
      cases hp
      have hle := fr.le
      have hsize := fr.size
      simp only at hle hsize
      refine ⟨rfl, rfl, ⟨?_, hle, ?_, ?_, fr.defs, fr.dst⟩, rfl⟩
      · simp [Act.put]; exact hsize
      · intro i hi
        rw [getTm_put i t v tm hi (by omega)]
        simp only [Act.put]
        rw [Array.getD_eq_getD_getElem?, Array.getElem?_setIfInBounds]
        by_cases hit : i = t
        · subst hit
          rw [if_pos rfl, if_pos rfl, if_pos (by omega)]
          rfl
        · rw [if_neg (fun x => hit x.symm), if_neg hit, ← Array.getD_eq_getD_getElem?]
          exact fr.val i hi
      · intro i hi
        rw [getTm_put i t v tm hi (by omega)]
        split
        · exact hv
        · exact fr.st i hi
    · cases hp

theorem wanted_core {ops : Array Oper} {o : Oper} (hsz : a.tmps.size ≤ 512) (hval : ∀ j want t, o.guard = some (j, want) → (ops[j]?).bind (·.dst) = some t → t < 512 → a.tmps.getD t undef = ren μ (getTm t f.tm)) :
    Region.wanted o (yielded ops a.tmps) = wantedF ops f o.guard := by
  unfold Region.wanted wantedF
  cases hg : o.guard with
  | none => rfl
  | some p =>
    obtain ⟨j, want⟩ := p
    simp only []
    show _ = Option.rec (motive := fun _ => Bool) false (fun t => ite' (Nat.blt t 512) (isBoolV want (getTm t f.tm)) false) (ob (nth ops.toList j) dstOf)
    unfold yielded
    rw [nth_eq, ob_eq_bind]
    have hd : (ops.toList[j]?).bind dstOf = (ops[j]?).bind (·.dst) := by rw [Array.getElem?_toList]; rfl
    rw [hd]
    cases hdt : (ops[j]?).bind (·.dst) with
    | none => rfl
    | some t =>
      simp only [Option.bind_some]
      rw [ite'_eq]
      by_cases ht : t < 512
      · rw [if_pos (blt_eq.2 ht)]
        have hv := hval j want t hg hdt ht
        rw [Array.getD_eq_getD_getElem?] at hv
        unfold isBoolV
        cases hx : a.tmps[t]? with
        | none =>
          rw [hx] at hv
          simp only [Option.getD_none] at hv
          cases hb : boolOf? (getTm t f.tm) with
          | none => rfl
          | some b =>
            rw [boolOf_some] at hb
            rw [hb, ren_bool] at hv
            cases hv
        | some v =>
          rw [hx] at hv
          simp only [Option.getD_some] at hv
          cases hb : boolOf? (getTm t f.tm) with
          | none =>
            cases v <;> try rfl
            rename_i b
            exfalso
            have : ∀ x : Value, Value.bool b = ren μ x → x = .bool b := by
              intro x hx
              cases x with
              | bool c => rw [ren_bool] at hx; exact hx.symm
              | int => rw [ren_int] at hx; cases hx
              | float => rw [ren] at hx; cases hx
              | complex => rw [ren] at hx; cases hx
              | string => rw [ren_string] at hx; cases hx
              | pointer => rw [ren] at hx; cases hx
              | slice b => cases b <;> rw [ren] at hx <;> cases hx
              | map => rw [ren] at hx; cases hx
              | chan b => cases b <;> rw [ren] at hx <;> cases hx
              | func => rw [ren] at hx; cases hx
              | nilFunc => rw [ren_nilFunc] at hx; cases hx
              | iface => rw [ren_iface] at hx; cases hx
              | nilIface => rw [ren_nilIface] at hx; cases hx
              | agg => rw [ren] at hx; cases hx
              | tuple => rw [ren] at hx; cases hx
            rw [this _ hv] at hb
            cases hb
          | some b =>
            rw [boolOf_some] at hb
            rw [hb, ren_bool] at hv
            subst hv
            show (some b == some want) = isB want b
            cases b <;> cases want <;> rfl
      · rw [if_neg (fun hc => ht (blt_eq.1 hc))]
        have ht' : 512 ≤ (t : Nat) := Nat.le_of_not_lt ht
        have : a.tmps[t]? = none := Array.getElem?_eq_none (Nat.le_trans hsz ht')
        rw [this]
        rfl

theorem wanted_ok {ops : Array Oper} {o : Oper} (fr : FrOk U μ h f a) : Region.wanted o (yielded ops a.tmps) = wantedF ops f o.guard :=
  wanted_core (by rw [fr.size]; exact fr.le) fun _ _ t _ _ ht => fr.val t ht

end

/-! Calls, code: what the evaluator's answer stands for. -/

/-- How code ended. -/
def ExOk (S : Ids) (μ : Mu) : Ex → Exit → Prop
  | .normal, .normal => True
  | .exit i, .exit j => j = i
  | .ret, .ret => True
  | .panic v, .panic ch => Stable S v ∧ ch = [{ v := ren μ v, recovered := false }]
  | _, _ => False

/-- Code's end. -/
def CodePost (P : Program) (U : Ids) (lo : Nat) (μ : Mu) (h : Hp) (w : World) (e : Ex) (f' : Fr) (h' : Hp) : Exit → Act → World → Prop :=
  fun ex a' w' => ∃ μ', Go2 P U lo μ μ' h h' w w' ∧ FrOk U μ' h' f' a' ∧ ExOk (Vis U h') μ' e ex

/-- A fence that lets everything in. -/
structure WL (Fe : Fence) : Prop where
  deep : Fe.depth.isSome = true → False
  fn : ∀ f, Fe.fn f
  calls : ∀ {nn : Nat} {P : Program} {f : FuncId} {args : Array Value} {w : World} {R : Ending → World → Prop}, Calls P f args w R → CallsIn Fe nn P f args w R
  rounds : ∀ {nn : Nat} {P : Program} {l : Nat} {f : FuncId} {tmps : Array Value} {x y : Code} {w : World} {R : Ending → World → Prop}, RoundIn Fence.wide nn P l f tmps x y w R → RoundIn Fe nn P l f tmps x y w R

theorem wl_wide : WL Fence.wide := ⟨by simp [Fence.wide], fun _ => trivial, fun h => callsIn_wide.2 h, fun h => h⟩
theorem wl_in (l : Nat) : WL (Fence.wide.inRound l) := ⟨by simp [Fence.wide, Fence.inRound], fun _ => trivial, fun h => CallsIn.inRound l (callsIn_wide.2 h), fun h => h⟩

theorem ite'_and {c x : Bool} (h : ite' c x false = true) : c = true ∧ x = true := by
  cases c with
  | false => cases h
  | true => exact ⟨rfl, h⟩
theorem calmOp_defer {op : Op} (h : calmOp op = true) : ∀ c, op ≠ .defer c := by
  rintro c rfl; cases h
theorem sem_plain {Fe : Fence} {o : Oper} {ρ : Operand → Value} (h : Fe.round = none ∨ calmOp o.op = true) : o.semAt Fe.round ρ = execOp ρ o := by
  rcases h with h | h
  · rw [h]; rfl
  · exact Oper.semAt_eq _ _ _ (calmOp_defer h)

def CodeOk (P : Program) (code : CodeK) : Prop := ∀ c f h e f' h', code c f h = .ok e f' h' → ∀ (Fe : Fence) (nn : Nat), WL Fe → (Fe.round = none ∨ calm c = true) → ∀ (U : Ids) (lo : Nat) (μ : Mu) (w : World) (a : Act),
  HpOk U h → Sat P lo μ h.look w → lo ≤ w.heap.size → FrOk U μ h f a → c.wpIn Fe nn P (CodePost P U lo μ h w e f' h') a w

/-- A call's end. -/
def CallPost (P : Program) (U : Ids) (lo : Nat) (μ : Mu) (h : Hp) (w : World) (pan : Bool) (v : Value) (h' : Hp) : Ending → World → Prop :=
  fun e w' => ∃ μ', Go2 P U lo μ μ' h h' w w' ∧ Stable (Vis U h') v ∧ e = if pan then .panicked [{ v := ren μ' v, recovered := false }] else .returned (ren μ' v)

structure CallOk (P : Program) (call : CallK) : Prop where
  calls : ∀ g args h pan v h', g < YB → call g args h = (if pan then .pan v h' else .ret v h') → ∀ (U : Ids) (lo : Nat) (μ : Mu) (w : World),
    HpOk U h → Sat P lo μ h.look w → lo ≤ w.heap.size → (∀ v ∈ args, Stable (Vis U h) v) → Calls P g (args.map (ren μ)).toArray w (CallPost P U lo μ h w pan v h')
  rounds : ∀ l args h pan v h', call (YB + l) args h = (if pan then .pan v h' else .ret v h') → ∀ (U : Ids) (lo : Nat) (μ : Mu) (w : World),
    HpOk U h → Sat P lo μ h.look w → lo ≤ w.heap.size → (∀ v ∈ args, Stable (Vis U h) v) → ∃ fn tmps assign body, (Instr.yield (μ l).blk (args.map (ren μ)).toArray).run P w = .ok (.round (μ l).blk fn tmps assign body) w ∧
      ∀ nn, RoundIn Fence.wide nn P (μ l).blk fn tmps assign body w (CallPost P U lo μ h w pan v h')

theorem size_go {P : Program} [NG P] {lo : Nat} {μ μ' : Mu} {h h' : Hp} {w w' : World} (g : Go2 P U lo μ μ' h h' w w') (hlo : lo ≤ w.heap.size) : lo ≤ w'.heap.size := Nat.le_trans hlo g.post.size

section
variable {P : Program} [NG P] {lo : Nat} {μ : Mu} {h : Hp} {w : World} {f : Fr} {a : Act} {Fe : Fence} {nn : Nat}

theorem noRound_lt {call : CallK} {g : FuncId} {args : List Value} {h : Hp} (hg : g < YB) : noRound call g args h = call g args h := by
  unfold noRound
  rw [ite'_eq, if_neg (by rw [ble_eq]; exact Nat.not_le.2 hg)]
theorem noRound_ge {call : CallK} {l : Nat} {args : List Value} {h : Hp} : noRound call (YB + l) args h = .fail := by
  unfold noRound
  rw [ite'_eq, if_pos (by rw [ble_eq]; exact Nat.le_add_right _ _)]
/-- One operation, outside rounds. -/
theorem one_core0 {call : CallK} (hcall : CallOk P call) {ops : Array Oper} {o : Oper} {e : Ex} {f' : Fr} {h' : Hp} (he : evOne P (noRound call) ops o f h = .ok e f' h') (ok : HpOk U h) (s : Sat P lo μ h.look w)
    (hlo : lo ≤ w.heap.size) (hopnd : ∀ x ∈ o.op.operands, okOpnd x = true → a.eval x = ren μ (f.eval x) ∧ Stable (Vis U h) (f.eval x)) (hwant : Region.wanted o (yielded ops a.tmps) = wantedF ops f o.guard)
    {next : Act → World → Prop} {Q : Exit → Act → World → Prop}
    (hn : ∀ v h1 μ' w', putTm f h1 o.dst v = .ok e f' h' → Go2 P U lo μ μ' h h1 w w' → Stable (Vis U h1) v → next (a.put o.dst (ren μ' v)) w')
    (hd : ∀ d, evOp o.op P h f o = .defer d h → StableD (Vis U h) d → putTm ⟨f.tm, f.sz, d :: f.defers⟩ h o.dst undef = .ok e f' h' → next (({ a with defers := renD μ d :: a.defers } : Act).put o.dst undef) w)
    (hp : ∀ v, e = .panic v → f' = f → ∀ μ' w', Go2 P U lo μ μ' h h' w w' → Stable (Vis U h') v → Q (.panic [{ v := ren μ' v, recovered := false }]) a w') :
    if Region.wanted o (yielded ops a.tmps) then o.wp P a w next Q else next (a.put o.dst undef) w := by
  rw [hwant]
  unfold evOne at he
  cases hw : wantedF ops f o.guard with
  | false =>
    rw [hw] at he
    simp only [Bool.false_eq_true, if_false]
    have := hn undef h μ w he (.refl ok s) (stable_of_const (ren_undef ·))
    rwa [ren_undef] at this
  | true =>
    rw [hw] at he
    simp only [if_true]
    replace he : afterOp (noRound call) f o.dst (evOp o.op P h f o) = .ok e f' h' := he
    cases hk : okOp o.op with
    | false => rw [evOp_okOp hk] at he; cases he
    | true =>
      have hok := okOp_mem hk
      have hop := op_ok (U := U) (o := o) (ρ := a.eval) ok s hlo (fun x hx => (hopnd x hx (hok x hx)).1) (fun x hx => (hopnd x hx (hok x hx)).2)
      unfold Oper.wp
      cases hr : evOp o.op P h f o with
      | fail => rw [hr] at he; cases he
      | val v h1 =>
        rw [hr] at hop he
        replace he : putTm f h1 o.dst v = .ok e f' h' := he
        obtain ⟨μ', w', g1, g2, g3⟩ := hop
        have := hn v h1 μ' w' he g1 g2
        rcases g3 with g3 | ⟨g3, g4⟩
        · rw [g3, Oper.upon_value]; exact this
        · rw [g4, Oper.upon_skip]
          subst g3
          rw [ren_undef] at this
          exact this
      | enter g args h1 =>
        rw [hr] at hop he
        obtain ⟨rfl, g2, g3, g4⟩ := hop
        replace he : afterCall f o.dst (noRound call g args h1) = .ok e f' h' := he
        rw [noRound_lt (bodyOf_lt g2)] at he
        rw [g4, Oper.upon_enter]
        cases hc : call g args h1 with
        | fail => rw [hc] at he; cases he
        | ret v h2 =>
          rw [hc] at he
          replace he : putTm f h2 o.dst v = .ok e f' h' := he
          refine (hcall.calls g args h1 false v h2 (bodyOf_lt g2) hc U lo μ w ok s hlo g3).mono fun en w' hen => ?_
          obtain ⟨μ', k1, k2, rfl⟩ := hen
          simp only [Bool.false_eq_true, if_false]
          exact hn v h2 μ' w' he k1 k2
        | pan v h2 =>
          rw [hc] at he
          cases he
          refine (hcall.calls g args h1 true v _ (bodyOf_lt g2) hc U lo μ w ok s hlo g3).mono fun en w' hen => ?_
          obtain ⟨μ', k1, k2, rfl⟩ := hen
          simp only [if_true]
          exact hp v rfl rfl μ' w' k1 k2
      | round l args h1 =>
        rw [hr] at he
        replace he : afterCall f o.dst (noRound call (YB + l) args h1) = .ok e f' h' := he
        rw [noRound_ge] at he
        cases he
      | defer d h1 =>
        rw [hr] at hop he
        obtain ⟨rfl, g, cap, args, rfl, g3, g4, g5⟩ := hop
        rw [g5, Oper.upon_defer]
        have hst : StableD (Vis U h1) { target := .fn (.func g) ⟨cap⟩, args := ⟨args⟩ } := (.inl ⟨g, cap, args, rfl, g3, g4⟩)
        have := hd _ hr hst he
        rw [renD_mk] at this
        exact this
      | pan v h1 =>
        rw [hr] at hop he
        obtain ⟨rfl, g2, g3⟩ := hop
        cases he
        rw [g3, Oper.upon_panic]
        exact hp v rfl rfl μ w (.refl ok s) g2

theorem one_ok0 {call : CallK} (hcall : CallOk P call) {ops : Array Oper} {o : Oper} {e : Ex} {f' : Fr} {h' : Hp} (he : evOne P (noRound call) ops o f h = .ok e f' h') (ok : HpOk U h) (s : Sat P lo μ h.look w)
    (hlo : lo ≤ w.heap.size) (fr : FrOk U μ h f a) {next : Act → World → Prop} {Q : Exit → Act → World → Prop}
    (hn : e = .normal → ∀ μ' a' w', Go2 P U lo μ μ' h h' w w' → FrOk U μ' h' f' a' → next a' w')
    (hp : ∀ v, e = .panic v → ∀ μ' w', Go2 P U lo μ μ' h h' w w' → FrOk U μ' h' f' a → Stable (Vis U h') v → Q (.panic [{ v := ren μ' v, recovered := false }]) a w') :
    if Region.wanted o (yielded ops a.tmps) then o.wp P a w next Q else next (a.put o.dst undef) w := by
  refine one_core0 hcall he ok s hlo (fun x _ hx => eval_ok ok s fr hx) (wanted_ok fr) ?_ ?_ ?_
  · intro v h1 μ' w' hput g1 g2
    obtain ⟨k1, k2, k3, k4⟩ := (fr.go g1).put g2 hput
    subst k1 k2
    exact hn rfl μ' _ w' g1 k3
  · intro d _ hd hput
    have fr2 : FrOk U μ h ⟨f.tm, f.sz, d :: f.defers⟩ { a with defers := renD μ d :: a.defers } := by
      refine ⟨fr.size, fr.le, fr.val, fr.st, ?_, ?_⟩
      · simp only [List.map_cons]
        rw [fr.defs]
      · intro d' hd'
        rcases List.mem_cons.1 hd' with rfl | hd'
        · exact hd
        · exact fr.dst d' hd'
    obtain ⟨k1, k2, k3, k4⟩ := fr2.put (stable_of_const (ren_undef ·)) hput
    subst k1 k2
    rw [ren_undef] at k3
    exact hn rfl μ _ w (.refl ok s) k3
  · intro v hv hf μ' w' g1 g2
    subst hf
    exact hp v hv μ' w' g1 (fr.go g1) g2

/-- One operation. -/
theorem one_core {call : CallK} (hcall : CallOk P call) (hF : WL Fe) {ops : Array Oper} {o : Oper} {e : Ex} {f' : Fr} {h' : Hp} (he : evOne P call ops o f h = .ok e f' h') (hdf : Fe.round = none ∨ calmOp o.op = true) (ok : HpOk U h) (s : Sat P lo μ h.look w)
    (hlo : lo ≤ w.heap.size) (hopnd : ∀ x ∈ o.op.operands, okOpnd x = true → a.eval x = ren μ (f.eval x) ∧ Stable (Vis U h) (f.eval x)) (hwant : Region.wanted o (yielded ops a.tmps) = wantedF ops f o.guard)
    {next : Act → World → Prop} {Q : Exit → Act → World → Prop}
    (hn : ∀ v h1 μ' w', putTm f h1 o.dst v = .ok e f' h' → Go2 P U lo μ μ' h h1 w w' → Stable (Vis U h1) v → next (a.put o.dst (ren μ' v)) w')
    (hd : ∀ d, evOp o.op P h f o = .defer d h → StableD (Vis U h) d → putTm ⟨f.tm, f.sz, d :: f.defers⟩ h o.dst undef = .ok e f' h' → next (({ a with defers := renD μ d :: a.defers } : Act).put o.dst undef) w)
    (hp : ∀ v, e = .panic v → f' = f → ∀ μ' w', Go2 P U lo μ μ' h h' w w' → Stable (Vis U h') v → Q (.panic [{ v := ren μ' v, recovered := false }]) a w') :
    if Region.wanted o (yielded ops a.tmps) then o.wpIn Fe nn P a w next Q else next (a.put o.dst undef) w := by
  rw [hwant]
  unfold evOne at he
  cases hw : wantedF ops f o.guard with
  | false =>
    rw [hw] at he
    simp only [Bool.false_eq_true, if_false]
    have := hn undef h μ w he (.refl ok s) (stable_of_const (ren_undef ·))
    rwa [ren_undef] at this
  | true =>
    rw [hw] at he
    simp only [if_true]
    replace he : afterOp call f o.dst (evOp o.op P h f o) = .ok e f' h' := he
    cases hk : okOp o.op with
    | false => rw [evOp_okOp hk] at he; cases he
    | true =>
      have hok := okOp_mem hk
      have hop := op_ok (U := U) (o := o) (ρ := a.eval) ok s hlo (fun x hx => (hopnd x hx (hok x hx)).1) (fun x hx => (hopnd x hx (hok x hx)).2)
      refine ⟨fun _ _ => hF.fn _, ?_⟩
      rw [sem_plain hdf]
      cases hr : evOp o.op P h f o with
      | fail => rw [hr] at he; cases he
      | val v h1 =>
        rw [hr] at hop he
        replace he : putTm f h1 o.dst v = .ok e f' h' := he
        obtain ⟨μ', w', g1, g2, g3⟩ := hop
        have := hn v h1 μ' w' he g1 g2
        rcases g3 with g3 | ⟨g3, g4⟩
        · rw [g3, Oper.uponIn_value]; exact this
        · rw [g4, Oper.uponIn_skip]
          subst g3
          rw [ren_undef] at this
          exact this
      | enter g args h1 =>
        rw [hr] at hop he
        obtain ⟨rfl, g2, g3, g4⟩ := hop
        replace he : afterCall f o.dst (call g args h1) = .ok e f' h' := he
        rw [g4, Oper.uponIn_enter]
        cases hc : call g args h1 with
        | fail => rw [hc] at he; cases he
        | ret v h2 =>
          rw [hc] at he
          replace he : putTm f h2 o.dst v = .ok e f' h' := he
          refine ⟨fun x => (hF.deep x).elim, hF.calls ((hcall.calls g args h1 false v h2 (bodyOf_lt g2) hc U lo μ w ok s hlo g3).mono fun en w' hen => ?_)⟩
          obtain ⟨μ', k1, k2, rfl⟩ := hen
          simp only [Bool.false_eq_true, if_false]
          exact hn v h2 μ' w' he k1 k2
        | pan v h2 =>
          rw [hc] at he
          cases he
          refine ⟨fun x => (hF.deep x).elim, hF.calls ((hcall.calls g args h1 true v _ (bodyOf_lt g2) hc U lo μ w ok s hlo g3).mono fun en w' hen => ?_)⟩
          obtain ⟨μ', k1, k2, rfl⟩ := hen
          simp only [if_true]
          exact hp v rfl rfl μ' w' k1 k2
      | round l args h1 =>
        rw [hr] at hop he
        obtain ⟨rfl, g3, g4⟩ := hop
        replace he : afterCall f o.dst (call (YB + l) args h1) = .ok e f' h' := he
        cases hc : call (YB + l) args h1 with
        | fail => rw [hc] at he; cases he
        | ret v h2 =>
          rw [hc] at he
          replace he : putTm f h2 o.dst v = .ok e f' h' := he
          obtain ⟨fn, tmps, assign, body, r1, r2⟩ := hcall.rounds l args h1 false v h2 hc U lo μ w ok s hlo g3
          rw [g4, r1, Oper.uponIn_round]
          refine ⟨fun x => (hF.deep x).elim, hF.rounds ((r2 _).mono fun en w' hen => ?_)⟩
          obtain ⟨μ', k1, k2, rfl⟩ := hen
          simp only [Bool.false_eq_true, if_false]
          exact hn v h2 μ' w' he k1 k2
        | pan v h2 =>
          rw [hc] at he
          cases he
          obtain ⟨fn, tmps, assign, body, r1, r2⟩ := hcall.rounds l args h1 true v _ hc U lo μ w ok s hlo g3
          rw [g4, r1, Oper.uponIn_round]
          refine ⟨fun x => (hF.deep x).elim, hF.rounds ((r2 _).mono fun en w' hen => ?_)⟩
          obtain ⟨μ', k1, k2, rfl⟩ := hen
          simp only [if_true]
          exact hp v rfl rfl μ' w' k1 k2
      | defer d h1 =>
        rw [hr] at hop he
        obtain ⟨rfl, g, cap, args, rfl, g3, g4, g5⟩ := hop
        rw [g5, Oper.uponIn_defer]
        have hst : StableD (Vis U h1) { target := .fn (.func g) ⟨cap⟩, args := ⟨args⟩ } := (.inl ⟨g, cap, args, rfl, g3, g4⟩)
        have := hd _ hr hst he
        rw [renD_mk] at this
        exact this
      | pan v h1 =>
        rw [hr] at hop he
        obtain ⟨rfl, g2, g3⟩ := hop
        cases he
        rw [g3, Oper.uponIn_panic]
        exact hp v rfl rfl μ w (.refl ok s) g2

theorem one_ok {call : CallK} (hcall : CallOk P call) (hF : WL Fe) {ops : Array Oper} {o : Oper} {e : Ex} {f' : Fr} {h' : Hp} (he : evOne P call ops o f h = .ok e f' h') (hdf : Fe.round = none ∨ calmOp o.op = true) (ok : HpOk U h) (s : Sat P lo μ h.look w)
    (hlo : lo ≤ w.heap.size) (fr : FrOk U μ h f a) {next : Act → World → Prop} {Q : Exit → Act → World → Prop}
    (hn : e = .normal → ∀ μ' a' w', Go2 P U lo μ μ' h h' w w' → FrOk U μ' h' f' a' → next a' w')
    (hp : ∀ v, e = .panic v → ∀ μ' w', Go2 P U lo μ μ' h h' w w' → FrOk U μ' h' f' a → Stable (Vis U h') v → Q (.panic [{ v := ren μ' v, recovered := false }]) a w') :
    if Region.wanted o (yielded ops a.tmps) then o.wpIn Fe nn P a w next Q else next (a.put o.dst undef) w := by
  refine one_core hcall hF he hdf ok s hlo (fun x _ hx => eval_ok ok s fr hx) (wanted_ok fr) ?_ ?_ ?_
  · intro v h1 μ' w' hput g1 g2
    obtain ⟨k1, k2, k3, k4⟩ := (fr.go g1).put g2 hput
    subst k1 k2
    exact hn rfl μ' _ w' g1 k3
  · intro d _ hd hput
    have fr2 : FrOk U μ h ⟨f.tm, f.sz, d :: f.defers⟩ { a with defers := renD μ d :: a.defers } := by
      refine ⟨fr.size, fr.le, fr.val, fr.st, ?_, ?_⟩
      · simp only [List.map_cons]
        rw [fr.defs]
      · intro d' hd'
        rcases List.mem_cons.1 hd' with rfl | hd'
        · exact hd
        · exact fr.dst d' hd'
    obtain ⟨k1, k2, k3, k4⟩ := fr2.put (stable_of_const (ren_undef ·)) hput
    subst k1 k2
    rw [ren_undef] at k3
    exact hn rfl μ _ w (.refl ok s) k3
  · intro v hv hf μ' w' g1 g2
    subst hf
    exact hp v hv μ' w' g1 (fr.go g1) g2

/-- Operations in order. -/
theorem list_ok {call : CallK} (hcall : CallOk P call) (hF : WL Fe) {ops : Array Oper} {Q : Exit → Act → World → Prop} : ∀ (l : List Oper) (k : Nat) (f : Fr) (h : Hp) (e : Ex) (f' : Fr) (h' : Hp), evList P call ops l f h = .ok e f' h' → ops.toList.drop k = l → (Fe.round = none ∨ calmOps l = true) →
    ∀ (μ : Mu) (w : World) (a : Act), HpOk U h → Sat P lo μ h.look w → lo ≤ w.heap.size → FrOk U μ h f a →
    (∀ ex a' w', CodePost P U lo μ h w e f' h' ex a' w' → Q ex a' w') → wpOpsIn Fe nn P ops Q (List.range' k l.length) a w := by
  intro l
  induction l with
  | nil =>
    intro k f h e f' h' he _ _ μ w a ok s hlo fr hq
    cases he
    exact hq _ _ _ ⟨μ, .refl ok s, fr, trivial⟩
  | cons o l ih =>
    intro k f h e f' h' he hl hcl μ w a ok s hlo fr hq
    have hc1 : Fe.round = none ∨ calmOp o.op = true := rightly hcl fun h => by
      unfold calmOps at h
      rw [allL_eq, List.all_eq_true] at h
      exact h o (.head _)
    have hc2 : Fe.round = none ∨ calmOps l = true := rightly hcl fun h => by
      unfold calmOps at h ⊢
      rw [allL_eq, List.all_eq_true] at h ⊢
      exact fun x hx => h x (.tail _ hx)
    have ho : ops[k]? = some o := by
      have : (ops.toList.drop k)[0]? = some o := by rw [hl]; rfl
      rw [List.getElem?_drop] at this
      simpa using this
    have hl' : ops.toList.drop (k + 1) = l := by
      rw [← List.drop_drop, hl]; rfl
    replace he : onNormal (evOne P call ops o f h) (evList P call ops l) = .ok e f' h' := he
    rw [List.length_cons, List.range'_succ, wpOpsIn_cons]
    unfold wpOpIn
    simp only [ho]
    cases hr : evOne P call ops o f h with
    | fail => rw [hr] at he; cases he
    | ok e1 f1 h1 =>
      rw [hr] at he
      have key := one_ok (U := U) (Q := Q) (next := wpOpsIn Fe nn P ops Q (List.range' (k + 1) l.length)) (Fe := Fe) (nn := nn) hcall hF hr hc1 ok s hlo fr
        (fun e1n μ' a' w' g fr' => by
          subst e1n
          replace he : evList P call ops l f1 h1 = .ok e f' h' := he
          refine ih (k + 1) f1 h1 e f' h' he hl' hc2 μ' w' a' g.ok g.sat (size_go g hlo) fr' fun ex a2 w2 q => ?_
          obtain ⟨μ2, q1, q2, q3⟩ := q
          exact hq _ _ _ ⟨μ2, g.trans q1, q2, q3⟩)
        (fun v hv μ' w' g fr' st => by
          subst hv
          cases he
          exact hq _ _ _ ⟨μ', g, fr', st, rfl⟩)
      split
      · rename_i hw; rw [if_pos hw] at key; exact key
      · rename_i hw; rw [if_neg hw] at key; exact ⟨fun _ _ => hF.fn _, key⟩

end
end Go.Ev
