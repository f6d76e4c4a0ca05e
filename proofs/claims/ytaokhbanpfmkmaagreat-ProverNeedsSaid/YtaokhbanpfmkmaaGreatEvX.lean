/- A verified evaluator: a part of it. -/
import Derived.Test.YtaokhbanpfmkmaaGreatEvU
namespace Go.Ev
set_option linter.unusedVariables false
set_option linter.unusedSimpArgs false

/-! Code that runs over a map with several entries left, in every order. -/

noncomputable section
def leftOf (seen : List Nat) (es : List MapEntry) : List MapEntry := es.filter fun e => !(seen.contains e.born)
/-- What 'next' may come to, where entries are left. -/
def nextAllIt (h : Hp) (r : Nat) : Blk → Option (List (Value × Hp))
  | .iter (some m) since seen st => ob (ob (h.look m) mapOf) fun ec =>
    ite' (Nat.beq ec.2 st) (ite' (stepsOn seen st ec.1) (ite' ((leftOf seen ec.1).all fun e => Nat.blt e.born since) (ite' (isNil (leftOf seen ec.1)) none
      (some ((leftOf seen ec.1).map fun e => (.tuple #[.bool true, e.key, e.val], h.put r (some (.iter (some m) since (appL seen [e.born]) ec.2)))))) none) none) none
  | _ => none
def nextAll (h : Hp) (x : Value) : Option (List (Value × Hp)) := ob (iterNo x) fun r => ob (h.look r) fun b => nextAllIt h r b

structure En where
  e : Ex
  f : Fr
  h : Hp
abbrev NR := Option (List En)
def enOf : Res → NR
  | .ok e f h => some [⟨e, f, h⟩]
  | .fail => none
def allSome {α : Type} : List (Option (List α)) → Option (List α)
  | [] => some []
  | x :: r => ob x fun a => om (allSome r) fun b => appL a b
def contN (k : Fr → Hp → NR) (x : En) : NR :=
  match x.e with
  | .normal => k x.f x.h
  | e => some [x]
def bindN (l : List En) (k : Fr → Hp → NR) : NR := allSome (l.map (contN k))

def branchOf (f : Fr) (h : Hp) (o : Oper) : Op → NR
  | .next x false => ob (nextAll h (f.eval x)) fun l => allSome (l.map fun p => enOf (putTm f p.2 o.dst p.1))
  | _ => none
def branch (ops : Array Oper) (f : Fr) (h : Hp) (o : Oper) : NR := ite' (wantedF ops f o.guard) (ite' (okOp o.op) (branchOf f h o o.op) none) none

def evListN (P : Program) (call : CallK) (ops : Array Oper) : List Oper → Fr → Hp → NR
  | [], f, h => some [⟨.normal, f, h⟩]
  | o :: os, f, h =>
    match evOne P call ops o f h with
    | .ok .normal f' h' => evListN P call ops os f' h'
    | .ok e f' h' => some [⟨e, f', h'⟩]
    | .fail => ob (branch ops f h o) fun l => bindN l (evListN P call ops os)

def outN (id : Nat) (x : En) : En :=
  match x.e with
  | .exit i => ite' (Nat.beq i id) ⟨.normal, x.f, x.h⟩ x
  | _ => x

def evN (P : Program) (call : CallK) (code : CodeK) : Nat → Code → Fr → Hp → NR
  | 0, _, _, _ => none
  | n + 1, c, f, h =>
    match c with
    | .loop b => ob (evN P call code n b f h) fun l => bindN l (evN P call code n (.loop b))
    | c =>
      match code c f h with
      | .ok e f' h' => some [⟨e, f', h'⟩]
      | .fail =>
        match c with
        | .seq a b => ob (evN P call code n a f h) fun l => bindN l (evN P call code n b)
        | .cond x a b => ite' (okOpnd x) (match boolOf? (f.eval x) with | some true => evN P call code n a f h | some false => evN P call code n b f h | none => none) none
        | .block id b => om (evN P call code n b f h) fun l => l.map (outN id)
        | .region _ ops false => evListN P call ops ops.toList f h
        | .scope b => evN P call code n b f h
        | _ => none

def okRes : CRes → Bool
  | .fail => false
  | _ => true

/-- A call, in every order. -/
def evFnN (P : Program) (call : CallK) (code : CodeK) (n : Nat) (g : FuncId) (args : List Value) (h : Hp) : Option (List CRes) :=
  ob (P.funcs[g]?) fun fn => ob fn.body fun c => ite' (Nat.ble (maxN (lenL args) fn.ntmps) 512)
    (om (evN P call code n c (frameOf fn args) h) fun l => l.map fun x => bodyEnd P (evDefd P call code) fn x.e x.f x.h) none
end

section
variable {P : Program} [NG P] {U : Ids} {lo : Nat} {μ : Mu} {h : Hp} {w : World} {f : Fr} {a : Act}

omit [NG P] in
theorem next_all_ok {x : Value} {ty : TypeId} {l : List (Value × Hp)} (ok : HpOk U h) (s : Sat P lo μ h.look w) (he : nextAll h x = some l) :
    ∃ p ∈ l, ∃ w', (Instr.next (ren μ x) false ty).run P w = .ok (ren μ p.1) w' ∧ Go2 P U lo μ μ h p.2 w w' ∧ Stable (Vis U p.2) p.1 := by
  unfold nextAll at he
  obtain ⟨i, h1, he1⟩ := ob_eq_some.1 he
  have := iterNo_some h1
  subst this
  obtain ⟨b, h2, h3⟩ := ob_eq_some.1 he1
  clear he he1
  unfold nextAllIt at h3
  split at h3
  · rename_i m since seen st
    obtain ⟨⟨es, c⟩, h4, h5⟩ := ob_eq_some.1 h3
    obtain ⟨h6, h7⟩ := ite'_eq_some.1 h5
    obtain ⟨h8, h9⟩ := ite'_eq_some.1 h7
    obtain ⟨h10, h11⟩ := ite'_eq_some.1 h9
    rw [ite'_eq] at h11
    split at h11
    · cases h11
    rename_i hne
    clear h3 h5 h7 h9
    simp only at h6 h8 h10 h11 hne
    rw [beq_eq] at h6
    subst h6
    simp only [Option.some.injEq] at h11
    obtain ⟨g1, g2⟩ := iter_at s h2
    obtain ⟨g3, g4⟩ := map_at s h4
    have hst := ok.st _ _ g3
    have hcond : (!(seen.toArray.isEmpty) && !((es.map (renE μ)).toArray.isEmpty) && ((es.map (renE μ)).toArray.all fun e => decide (e.born ≥ c))) = false := by
      unfold stepsOn at h8
      rw [isNil_eq, isNil_eq] at h8
      simp only [Bool.or_eq_true] at h8
      rcases h8 with (h8 | h8) | h8
      · simp at h8; subst h8; simp
      · simp at h8; subst h8; simp
      · simp only [List.any_eq_true, blt_eq] at h8
        obtain ⟨e, he1, he2⟩ := h8
        have : ((es.map (renE μ)).toArray.all fun e => decide (e.born ≥ c)) = false := by
          rw [← Bool.not_eq_true]
          intro hall
          simp only [List.all_toArray, List.all_map, List.all_eq_true, Function.comp, decide_eq_true_eq] at hall
          have := hall e he1
          have hb : (renE μ e).born = e.born := rfl
          omega
        rw [this]; simp
    have hleft : ((es.map (renE μ)).toArray.filter fun e => !seen.toArray.contains e.born) = ((leftOf seen es).map (renE μ)).toArray := by
      unfold leftOf
      rw [List.filter_toArray, List.filter_map]
      congr 2
      apply List.filter_congr
      intro e _
      by_cases hm : e.born ∈ seen <;> simp [renE, hm]
    rw [g1]
    unfold Instr.next
    simp only [Sem.run_bind, run_getIter g2, Option.map_some, Result.andThen_ok, run_getMap g4, hleft]
    rw [hcond]
    generalize hfl : leftOf seen es = left at h10 h11 hne
    have hmem : ∀ e ∈ left, e ∈ es := fun e he => by rw [← hfl] at he; exact (List.mem_filter.1 he).1
    have hborn : ∀ e ∈ left, e.born < since := fun e he => by
      have := List.all_eq_true.1 h10 e he
      rwa [blt_eq] at this
    have hpos : 0 < left.length := by
      rw [isNil_eq] at hne
      cases left with
      | nil => simp at hne
      | cons => simp
    have hold : ((left.map (renE μ)).toArray.filter fun e => decide (e.born < since)) = (left.map (renE μ)).toArray := by
      rw [Array.filter_eq_self]
      intro e he
      simp only [List.mem_toArray, List.mem_map] at he
      obtain ⟨e0, h1, rfl⟩ := he
      have := hborn e0 h1
      have hb : (renE μ e0).born = e0.born := rfl
      simp only [decide_eq_true_eq]
      omega
    have hnew : ((left.map (renE μ)).toArray.filter fun e => decide (e.born ≥ since)) = #[] := by
      rw [Array.filter_eq_empty_iff]
      intro e he
      simp only [List.mem_toArray, List.mem_map] at he
      obtain ⟨e0, h1, rfl⟩ := he
      have := hborn e0 h1
      show ¬ (decide ((renE μ e0).born ≥ since) = true)
      have hb : (renE μ e0).born = e0.born := rfl
      simp only [decide_eq_true_eq]
      omega
    simp only [hold, hnew]
    have hemp : ((left.map (renE μ)).toArray).isEmpty = false := by
      cases left with
      | nil => simp at hpos
      | cons => simp
    simp only [hemp, Bool.false_eq_true, if_false, Array.append_empty, Array.empty_append]
    have hsz : ((left.map (renE μ)).toArray.map some).size = left.length := by simp
    obtain ⟨k, w1, hk, hrun, hw1⟩ : ∃ k w1, k < left.length ∧ (choose (.mapNext ((left.map (renE μ)).toArray.map some).size)).run P w = .ok k w1 ∧ w1.heap = w.heap ∧ w1.os = w.os ∧ w1.tape = w.tape ∧ w1.output = w.output := by
      rw [run_choose_drew]
      split
      · exact ⟨0, w, hpos, rfl, rfl, rfl, rfl, rfl⟩
      · refine ⟨_, _, ?_, rfl, rfl, rfl, rfl, rfl⟩
        rw [hsz]
        exact Nat.mod_lt _ hpos
    obtain ⟨hw1, hw2, hw3, hw4⟩ := hw1
    have hek : ((left.map (renE μ)).toArray.map some)[k]? = some (some (renE μ left[k])) := by
      simp [hk]
    have hin : left[k] ∈ left := List.getElem_mem hk
    have hlt' := (s.blk _ _ h2).lt
    have g2' : w1.heap[(μ i).blk]? = some (.mapIter ((some m).map fun r => (μ r).blk) since seen.toArray c) := by rw [hw1]; exact g2
    refine ⟨_, by rw [← h11]; exact List.mem_map.2 ⟨left[k], hin, rfl⟩, { w1 with heap := w1.heap.setIfInBounds (μ i).blk (.mapIter (some (μ m).blk) since (seen.toArray.push left[k].born) c) }, ?_, ?_, ?_⟩
    · have hr : ren μ (.tuple #[.bool true, left[k].key, left[k].val]) = .tuple #[.bool true, ren μ left[k].key, ren μ left[k].val] := by
        show ren μ (.tuple ⟨[.bool true, left[k].key, left[k].val]⟩) = _
        rw [ren_tuple]; simp
      rw [hr]
      simp only [Sem.run_bind, hrun, Result.andThen_ok, hek, run_setIter _ g2']
      rfl
    · refine go2_put ok s h2 ?_ (by simp [hw1]) (fun k hk => by simp [Array.getElem?_setIfInBounds, hk.symm, hw1]) hw2 hw3 hw4 ?_
      · intro b' hb'
        cases hb'
        have hs2 := ok.st _ _ h2
        exact hs2
      · intro b' hb'
        cases hb'
        refine ⟨(s.blk _ _ h2).1, ?_⟩
        rw [appL_eq]
        simp [Array.getElem?_setIfInBounds, hlt', hw1]
    · refine stable_tuple.2 fun v hv => ?_
      have he := hst _ (hmem _ hin)
      simp at hv
      rcases hv with rfl | rfl | rfl
      · exact stable_closed rfl
      · exact he.1.mono fun id hi => (vis_put _ _ _).2 hi
      · exact he.2.mono fun id hi => (vis_put _ _ _).2 hi
  · cases h3

theorem allSome_mem {α : Type} : ∀ {l : List (Option (List α))} {r : List α}, allSome l = some r → ∀ x ∈ l, ∃ y, x = some y ∧ ∀ z ∈ y, z ∈ r := by
  intro l
  induction l with
  | nil => intro r _ x hx; cases hx
  | cons a l ih =>
    intro r he x hx
    obtain ⟨y, h1, h2⟩ := ob_eq_some.1 (he : ob a (fun a => om (allSome l) fun b => appL a b) = some r)
    obtain ⟨z, h3, h4⟩ := om_eq_some.1 h2
    rw [appL_eq] at h4
    subst h4
    rcases List.mem_cons.1 hx with rfl | hx
    · exact ⟨y, h1, fun q hq => List.mem_append.2 (.inl hq)⟩
    · obtain ⟨y', h5, h6⟩ := ih h3 x hx
      exact ⟨y', h5, fun q hq => List.mem_append.2 (.inr (h6 q hq))⟩

/-- One of several ends. -/
def Ends (P : Program) (U : Ids) (lo : Nat) (μ : Mu) (h : Hp) (w : World) (L : List En) : Exit → Act → World → Prop :=
  fun ex a' w' => ∃ x ∈ L, CodePost P U lo μ h w x.e x.f x.h ex a' w'

omit [NG P] in
theorem Ends.mono {L L' : List En} (hl : ∀ x ∈ L, x ∈ L') {ex : Exit} {a' : Act} {w' : World} (p : Ends P U lo μ h w L ex a' w') : Ends P U lo μ h w L' ex a' w' := by
  obtain ⟨x, hx, p⟩ := p
  exact ⟨x, hl x hx, p⟩
omit [NG P] in
theorem Ends.trans {μ1 : Mu} {h1 : Hp} {w1 : World} {L : List En} {ex : Exit} {a' : Act} {w' : World} (g : Go2 P U lo μ μ1 h h1 w w1) (p : Ends P U lo μ1 h1 w1 L ex a' w') : Ends P U lo μ h w L ex a' w' := by
  obtain ⟨x, hx, p⟩ := p
  exact ⟨x, hx, p.trans g⟩

theorem bindN_some {l L : List En} {k : Fr → Hp → NR} (hb : bindN l k = some L) : ∀ x ∈ l, (x.e = .normal ∧ ∃ L1, k x.f x.h = some L1 ∧ ∀ z ∈ L1, z ∈ L) ∨ (x.e ≠ .normal ∧ x ∈ L) := by
  intro x hx
  obtain ⟨y, h1, h2⟩ := allSome_mem hb _ (List.mem_map.2 ⟨x, hx, rfl⟩)
  unfold contN at h1
  split at h1
  · rename_i he; exact .inl ⟨he, y, h1, h2⟩
  · rename_i he
    cases h1
    exact .inr ⟨by simpa using he, h2 x (.head _)⟩

theorem enOf_some {r : Res} {l : List En} (h : enOf r = some l) : ∃ e f h, r = .ok e f h ∧ l = [⟨e, f, h⟩] := by
  cases r with
  | fail => cases h
  | ok e f h => cases h; exact ⟨_, _, _, rfl, rfl⟩

omit [NG P] in
/-- An operation 'next', in every order. -/
theorem branch_ok {ops : Array Oper} {o : Oper} {l : List En} (he : branch ops f h o = some l) (ok : HpOk U h) (s : Sat P lo μ h.look w) (fr : FrOk U μ h f a) {next : Act → World → Prop} {Q : Exit → Act → World → Prop}
    (hn : ∀ x ∈ l, x.e = .normal → ∀ μ' a' w', Go2 P U lo μ μ' h x.h w w' → FrOk U μ' x.h x.f a' → next a' w') :
    if Region.wanted o (yielded ops a.tmps) then o.wpIn Fence.wide 0 P a w next Q else next (a.put o.dst undef) w := by
  unfold branch at he
  obtain ⟨h1, h2⟩ := ite'_eq_some.1 he
  obtain ⟨h3, h4⟩ := ite'_eq_some.1 h2
  rw [wanted_ok fr, if_pos h1]
  obtain ⟨dst, op, ty, pos, after, guard⟩ := o
  simp only at h3 h4
  unfold branchOf at h4
  split at h4
  · rename_i x
    obtain ⟨ps, h5, h6⟩ := ob_eq_some.1 h4
    obtain ⟨e1, e2⟩ := eval_ok ok s fr (okOp_mem h3 x (by simp [Op.operands]))
    obtain ⟨p, p1, w', p2, p3, p4⟩ := next_all_ok (ty := ty) ok s h5
    obtain ⟨y, k1, k2⟩ := allSome_mem h6 _ (List.mem_map.2 ⟨p, p1, rfl⟩)
    obtain ⟨e, f', h', k3, rfl⟩ := enOf_some k1
    obtain ⟨q1, q2, q3, q4⟩ := (fr.go p3).put p4 k3
    subst q1
    refine ⟨fun _ _ => trivial, ?_⟩
    rw [sem_plain (.inl rfl)]
    have hrun : (execOp a.eval ⟨dst, .next x false, ty, pos, after, guard⟩).run P w = .ok (.value (ren μ p.1)) w' := by
      simp only [execOp, e1]
      exact v_run p2
    rw [hrun, Oper.uponIn_value]
    exact hn _ (k2 _ (.head _)) rfl μ _ w' (by rw [q2]; exact p3) (by simp only [q2] at q3 ⊢; exact q3)
  · cases h4

theorem listN_ok {call : CallK} (hcall : CallOk P call) {ops : Array Oper} {Q : Exit → Act → World → Prop} : ∀ (l : List Oper) (k : Nat) (f : Fr) (h : Hp) (L : List En), evListN P call ops l f h = some L → ops.toList.drop k = l →
    ∀ (μ : Mu) (w : World) (a : Act), HpOk U h → Sat P lo μ h.look w → lo ≤ w.heap.size → FrOk U μ h f a →
    (∀ ex a' w', Ends P U lo μ h w L ex a' w' → Q ex a' w') → wpOpsIn Fence.wide 0 P ops Q (List.range' k l.length) a w := by
  intro l
  induction l with
  | nil =>
    intro k f h L he _ μ w a ok s hlo fr hq
    cases he
    exact hq _ _ _ ⟨_, .head _, μ, .refl ok s, fr, trivial⟩
  | cons o l ih =>
    intro k f h L he hl μ w a ok s hlo fr hq
    have ho : ops[k]? = some o := by
      have : (ops.toList.drop k)[0]? = some o := by rw [hl]; rfl
      rw [List.getElem?_drop] at this
      simpa using this
    have hl' : ops.toList.drop (k + 1) = l := by
      rw [← List.drop_drop, hl]; rfl
    rw [List.length_cons, List.range'_succ, wpOpsIn_cons]
    unfold wpOpIn
    simp only [ho]
    have go : (if Region.wanted o (yielded ops a.tmps) then o.wpIn Fence.wide 0 P a w (wpOpsIn Fence.wide 0 P ops Q (List.range' (k + 1) l.length)) Q else wpOpsIn Fence.wide 0 P ops Q (List.range' (k + 1) l.length) (a.put o.dst undef) w) := by
      unfold evListN at he
      split at he
      · rename_i f1 h1 hr
        refine one_ok (U := U) (Fe := Fence.wide) (nn := 0) hcall wl_wide hr (.inl rfl) ok s hlo fr (fun _ μ' a' w' g fr' => ?_) (fun v hv => by cases hv)
        exact ih (k + 1) f1 h1 L he hl' μ' w' a' g.ok g.sat (size_go g hlo) fr' fun ex a2 w2 q => hq _ _ _ (q.trans g)
      · rename_i e f1 h1 hne hr
        cases he
        refine one_ok (U := U) (Fe := Fence.wide) (nn := 0) hcall wl_wide hr (.inl rfl) ok s hlo fr (fun hx => ?_) (fun v hv μ' w' g fr' st => ?_)
        · exact (hne hx).elim
        · subst hv
          exact hq _ _ _ ⟨_, .head _, μ', g, fr', st, rfl⟩
      · rename_i hr
        obtain ⟨bl, b1, b2⟩ := ob_eq_some.1 he
        refine branch_ok b1 ok s fr fun x hx hxe μ' a' w' g fr' => ?_
        rcases bindN_some b2 x hx with ⟨_, L1, c1, c2⟩ | ⟨c1, _⟩
        · exact ih (k + 1) x.f x.h L1 c1 hl' μ' w' a' g.ok g.sat (size_go g hlo) fr' fun ex a2 w2 q => hq _ _ _ ((q.trans g).mono c2)
        · exact absurd hxe c1
    split
    · rename_i hw; rw [if_pos hw] at go; exact go
    · rename_i hw; rw [if_neg hw] at go; exact ⟨fun _ _ => trivial, go⟩

theorem seqN_ok {x y : Code} {l L : List En} {k : Fr → Hp → NR} (hx : x.wpIn Fence.wide 0 P (Ends P U lo μ h w l) a w) (hb : bindN l k = some L)
    (hy : ∀ f1 h1 L1, k f1 h1 = some L1 → ∀ μ1 w1 a1, HpOk U h1 → Sat P lo μ1 h1.look w1 → lo ≤ w1.heap.size → FrOk U μ1 h1 f1 a1 → y.wpIn Fence.wide 0 P (Ends P U lo μ1 h1 w1 L1) a1 w1) (hlo : lo ≤ w.heap.size) :
    x.wpIn Fence.wide 0 P (Exit.then (y.wpIn Fence.wide 0 P (Ends P U lo μ h w L)) (Ends P U lo μ h w L)) a w := by
  refine wpIn_mono hx fun ex a' w' p => ?_
  obtain ⟨z, hz, μ1, q1, q2, q3⟩ := p
  rcases bindN_some hb z hz with ⟨c0, L1, c1, c2⟩ | ⟨c0, c1⟩
  · refine then_of (fun _ => ?_) (fun hx => absurd ((exOk_normal q3).1 c0) hx)
    exact wpIn_mono (hy _ _ L1 c1 μ1 w' a' q1.ok q1.sat (size_go q1 hlo) q2) fun ex a2 w2 p => (p.trans q1).mono c2
  · exact then_of (fun hx => absurd ((exOk_normal q3).2 hx) c0) (fun _ => ⟨z, c1, μ1, q1, q2, q3⟩)

theorem evN_ok {call : CallK} {code : CodeK} (hcall : CallOk P call) (hcode : CodeOk P code) : ∀ (n : Nat) (c : Code) (f : Fr) (h : Hp) (L : List En), evN P call code n c f h = some L →
    ∀ (μ : Mu) (w : World) (a : Act), HpOk U h → Sat P lo μ h.look w → lo ≤ w.heap.size → FrOk U μ h f a → c.wpIn Fence.wide 0 P (Ends P U lo μ h w L) a w := by
  intro n
  induction n using Nat.strongRecOn with
  | _ n ih =>
    cases n with
    | zero => intro c f h L he; cases he
    | succ n =>
      have det : ∀ (c : Code) (f : Fr) (h : Hp) (e : Ex) (f' : Fr) (h' : Hp), code c f h = .ok e f' h' → ∀ (μ : Mu) (w : World) (a : Act), HpOk U h → Sat P lo μ h.look w → lo ≤ w.heap.size → FrOk U μ h f a →
          c.wpIn Fence.wide 0 P (Ends P U lo μ h w [⟨e, f', h'⟩]) a w := fun c f h e f' h' he μ w a ok s hlo fr =>
        wpIn_mono (hcode c f h e f' h' he Fence.wide 0 wl_wide (.inl rfl) U lo μ w a ok s hlo fr) fun ex a' w' p => ⟨_, .head _, p⟩
      intro c f h L he μ w a ok s hlo fr
      unfold evN at he
      split at he
      · rename_i b
        -- a loop
        have hL : evN P call code (n + 1) (.loop b) f h = some L := by unfold evN; exact he
        refine wpIn_loop_ghost (fun m a1 w1 => m ≤ n + 1 ∧ ∃ f1 h1 μ1 L1, evN P call code m (.loop b) f1 h1 = some L1 ∧ (∀ z ∈ L1, z ∈ L) ∧ Go2 P U lo μ μ1 h h1 w w1 ∧ FrOk U μ1 h1 f1 a1) (n + 1) ⟨Nat.le_refl _, f, h, μ, L, hL, fun _ h => h, .refl ok s, fr⟩ ?_
        rintro m a1 w1 ⟨hm, f1, h1, μ1, L1, he1, hsub, g, fr1⟩
        cases m with
        | zero => cases he1
        | succ m =>
          obtain ⟨l, k1, k2⟩ := ob_eq_some.1 (show ob (evN P call code m b f1 h1) (fun l => bindN l (evN P call code m (.loop b))) = some L1 from by rw [← he1]; conv => rhs; unfold evN)
          refine wpIn_mono (ih m (by omega) b f1 h1 l k1 μ1 w1 a1 g.ok g.sat (size_go g hlo) fr1) fun ex a' w' p => ?_
          obtain ⟨z, hz, μ2, q1, q2, q3⟩ := p
          rcases bindN_some k2 z hz with ⟨c0, L2, c1, c2⟩ | ⟨c0, c1⟩
          · refine then_of (fun _ => ⟨m, Nat.lt_succ_self m, by omega, _, _, μ2, L2, c1, fun z hz => hsub z (c2 z hz), g.trans q1, q2⟩) (fun hx => absurd ((exOk_normal q3).1 c0) hx)
          · exact then_of (fun hx => absurd ((exOk_normal q3).2 hx) c0) (fun _ => ⟨z, hsub z c1, μ2, g.trans q1, q2, q3⟩)
      · rename_i hnl
        split at he
        · rename_i e f' h' hr
          cases he
          exact det c f h e f' h' hr μ w a ok s hlo fr
        · split at he
          · rename_i x y _
            obtain ⟨l, k1, k2⟩ := ob_eq_some.1 he
            exact wpIn_seq (seqN_ok (ih n (by omega) x f h l k1 μ w a ok s hlo fr) k2 (fun f1 h1 L1 hk μ1 w1 a1 o1 s1 l1 r1 => ih n (by omega) y f1 h1 L1 hk μ1 w1 a1 o1 s1 l1 r1) hlo)
          · rename_i x y z _
            obtain ⟨k1, k2⟩ := ite'_eq_some.1 he
            split at k2
            · rename_i hb
              exact wpIn_cond (bool_eval ok s fr k1 hb) (ih n (by omega) y f h L k2 μ w a ok s hlo fr)
            · rename_i hb
              exact wpIn_cond (bool_eval ok s fr k1 hb) (ih n (by omega) z f h L k2 μ w a ok s hlo fr)
            · cases k2
          · rename_i id b _
            obtain ⟨l, k1, k2⟩ := om_eq_some.1 he
            subst k2
            refine wpIn_block (wpIn_mono (ih n (by omega) b f h l k1 μ w a ok s hlo fr) fun ex a' w' p => ?_)
            obtain ⟨z, hz, μ', q1, q2, q3⟩ := p
            have hz' : outN id z ∈ l.map (outN id) := List.mem_map.2 ⟨z, hz, rfl⟩
            obtain ⟨ze, zf, zh⟩ := z
            have same : ex ≠ .exit id → (∀ i, ze = .exit i → i ≠ id) → Ends P U lo μ h w (l.map (outN id)) ex a' w' := fun _ hne => by
              refine ⟨⟨ze, zf, zh⟩, ?_, μ', q1, q2, q3⟩
              unfold outN at hz'
              simp only at hz'
              split at hz'
              · rename_i i
                rw [ite'_eq, if_neg (by rw [beq_eq]; exact hne i rfl)] at hz'
                exact hz'
              · exact hz'
            cases ex with
            | exit j =>
              cases ze <;> simp only [ExOk] at q3
              rename_i i
              subst q3
              simp only [Exit.inBlock]
              split
              · rename_i hj
                refine ⟨_, hz', μ', ?_, ?_, ?_⟩
                all_goals (unfold outN; simp only; rw [ite'_eq, if_pos (by rw [beq_eq]; exact hj)])
                · exact q1
                · exact q2
                · trivial
              · rename_i hj
                exact same (by simpa using hj) (fun i hi => by cases hi; exact hj)
            | normal => exact same (by simp) (fun i hi => by subst hi; simp only [ExOk] at q3)
            | ret => exact same (by simp) (fun i hi => by subst hi; simp only [ExOk] at q3)
            | panic ch => exact same (by simp) (fun i hi => by subst hi; simp only [ExOk] at q3)
            | goto l => cases ze <;> simp only [ExOk] at q3
            | outgrown => cases ze <;> simp only [ExOk] at q3
          · rename_i id ops _
            refine wpIn_region ?_
            have := listN_ok (U := U) (lo := lo) (Q := Ends P U lo μ h w L) hcall ops.toList 0 f h L he rfl μ w a ok s hlo fr fun _ _ _ p => p
            rwa [show List.range' 0 ops.toList.length = List.range ops.size from by rw [List.range_eq_range']; simp] at this
          · rename_i b _
            refine wpIn_scope (wpIn_mono (ih n (by omega) b f h L he μ w a ok s hlo fr) fun ex a' w' p => ?_)
            cases ex with
            | goto l =>
              obtain ⟨z, _, _, _, _, q3⟩ := p
              cases hz : z.e <;> rw [hz] at q3 <;> exact q3
            | _ => exact p
          · cases he


/-- A call came to one of several ends. -/
def CEnds (P : Program) (U : Ids) (lo : Nat) (μ : Mu) (h : Hp) (w : World) (L : List CRes) : Ending → World → Prop :=
  fun en w' => ∃ (pan : Bool) (v : Value) (h' : Hp), (if pan then CRes.pan v h' else .ret v h') ∈ L ∧ CallPost P U lo μ h w pan v h' en w'

theorem okRes_some {r : CRes} (h : okRes r = true) : ∃ (pan : Bool) (v : Value) (h' : Hp), r = if pan then .pan v h' else .ret v h' := by
  cases r with
  | ret v h' => exact ⟨false, v, h', rfl⟩
  | pan v h' => exact ⟨true, v, h', rfl⟩
  | fail => cases h

theorem fnN_ok {call : CallK} {code : CodeK} (hcall : CallOk P call) (hcode : CodeOk P code) {n : Nat} {g : FuncId} {args : List Value} {h : Hp} {L : List CRes} (he : evFnN P call code n g args h = some L) (hL : L.all okRes = true)
    (ok : HpOk U h) (s : Sat P lo μ h.look w) (hlo : lo ≤ w.heap.size) (hst : ∀ v ∈ args, Stable (Vis U h) v) : Calls P g (args.map (ren μ)).toArray w (CEnds P U lo μ h w L) := by
  unfold evFnN at he
  obtain ⟨fn, h1, he1⟩ := ob_eq_some.1 he
  obtain ⟨c, h2, he2⟩ := ob_eq_some.1 he1
  obtain ⟨h3, he3⟩ := ite'_eq_some.1 he2
  obtain ⟨l, h4, h5⟩ := om_eq_some.1 he3
  refine (callsIn_wide (n := 0)).1 (callsIn_of_wp_marks h1 h2 trivial (wpIn_mono (evN_ok hcall hcode n c _ h l h4 μ w _ ok s hlo (frame_ok h3 hst)) fun ex a' w' q => ?_))
  obtain ⟨x, hx, q⟩ := q
  have hm : bodyEnd P (evDefd P call code) fn x.e x.f x.h ∈ L := by rw [← h5]; exact List.mem_map.2 ⟨x, hx, rfl⟩
  obtain ⟨pan, v, h', hr⟩ := okRes_some (List.all_eq_true.1 hL _ hm)
  rw [hr] at hm
  exact body_end_ok (defd_ok hcall hcode) hr (fun en w' p => ⟨pan, v, h', hm, p⟩) hlo q

end
end Go.Ev
