/- A verified evaluator: a part of it. -/
import Derived.Test.YtaokhbanpfmkmaaGreatEvO
namespace Go.Ev
set_option linter.unusedVariables false
set_option linter.unusedSimpArgs false

/-! A region whose order is open: every order does what the evaluator did. -/

theorem putTm_facts {f f' : Fr} {h h' : Hp} {d : Option Tmp} {v : Value} {e : Ex} (hp : putTm f h d v = .ok e f' h') (hle : f.sz ≤ 512) :
    e = .normal ∧ h' = h ∧ f'.sz = f.sz ∧ f'.defers = f.defers ∧ (∀ t, t < 512 → getTm t f'.tm = if d = some t then v else getTm t f.tm) ∧ ∀ t, d = some t → t < f.sz := by
  cases d with
  | none =>
    cases hp
    exact ⟨rfl, rfl, rfl, rfl, fun t _ => by simp, fun t h => by cases h⟩
  | some t =>
    obtain ⟨tm, sz, df⟩ := f
    have hp : ite' (Nat.ble (Nat.succ t) sz) (Res.ok .normal ⟨putTm0 t ⟨v⟩ tm, sz, df⟩ h) .fail = .ok e f' h' := hp
    rw [ite'_eq] at hp
    split at hp
    · rename_i hc
      rw [ble_eq] at hc
      cases hp
      simp only at hle
      refine ⟨rfl, rfl, rfl, rfl, fun i hi => ?_, fun i hi => by cases hi; exact hc⟩
      rw [getTm_put i t v tm hi (by omega)]
      by_cases hit : i = t
      · subst hit; simp
      · rw [if_neg hit, if_neg]
        rintro h; cases h; exact hit rfl
    · cases hp

def isDefer : OR → Prop
  | .defer _ _ => True
  | _ => False
theorem of_defer (h : Hp) (x : Option Value) : ¬ isDefer (.of h x) := by cases x <;> exact id
theorem ofVH_defer (x : Option (Value × Hp)) : ¬ isDefer (.ofVH x) := by cases x <;> exact id
theorem ofH_defer (x : Option Hp) : ¬ isDefer (.ofH x) := by cases x <;> exact id
theorem enter_defer (P : Program) (h : Hp) (args : List Value) (v : Value) : ¬ isDefer (enterV P h args v) := by
  unfold enterV
  split
  · exact id
  · rw [ite'_eq]; split <;> exact id
  · exact id
theorem pan_defer (h : Hp) (v : Value) : ¬ isDefer (panV h v) := by
  unfold panV
  split <;> exact id
theorem builtin_defer (P : Program) (h : Hp) (f : Fr) (c : Call) (ty : TypeId) (b : Builtin) : ¬ isDefer (evB P h f c ty b) := by
  cases b <;> first | exact id | exact of_defer _ _ | exact ofVH_defer _ | exact ofH_defer _

theorem evOp_defer {P : Program} [NG P] {h : Hp} {f : Fr} {o : Oper} {op : Op} (hd : isDefer (evOp op P h f o)) : kindOf f op = (3, 0) := by
  unfold evOp at hd
  rw [ite'_eq] at hd
  split at hd
  · rename_i hk
    clear hk
    cases op
    case defer c => rfl
    case call c =>
      exfalso
      obtain ⟨callee, args, argTypes⟩ := c
      cases callee with
      | value x => exact enter_defer _ _ _ _ hd
      | invoke r n => exact hd
      | builtin b => exact builtin_defer _ _ _ _ _ _ hd
    case slice t x lo hi mx =>
      exfalso
      have hd : isDefer (ite' (isStr (f.eval x)) (.of h (closedRun P f o)) (.ofVH (evSlice P h t (f.eval x) (om lo f.eval) (om hi f.eval) (om mx f.eval)))) := hd
      rw [ite'_eq] at hd
      split at hd
      · exact of_defer _ _ hd
      · exact ofVH_defer _ hd
    case index t x i =>
      exfalso
      have hd : isDefer (ite' (isStr (f.eval x)) (.of h (closedRun P f o)) (.of h (ob (aggOf? (f.eval x)) fun cs => evIndexAgg P t cs (f.eval i)))) := hd
      rw [ite'_eq] at hd
      split at hd <;> exact of_defer _ _ hd
    case next x s =>
      exfalso
      cases s
      · exact ofVH_defer _ hd
      · exact hd
    case panic x => exact (pan_defer _ _ hd).elim
    all_goals first
      | exact (hd : False).elim
      | exact (of_defer _ _ hd).elim
      | exact (ofVH_defer _ hd).elim
      | exact (ofH_defer _ hd).elim
  · exact (hd : False).elim

theorem Sat.sub {P : Program} [NG P] {lo : Nat} {μ : Mu} {look look' : Look} {w : World} (s : Sat P lo μ look w) (h : ∀ id b, look' id = some b → look id = some b) : Sat P lo μ look' w :=
  ⟨s.low, fun id b hb => s.blk id b (h id b hb), fun id id' b b' h1 h2 => s.inj id id' b b' (h id b h1) (h id' b' h2), fun id b hb => s.lo id b (h id b hb)⟩

structure Reg (P : Program) (call : CallK) (ops : Array Oper) (U : Ids) (F : Nat → Fr) (H Hh H' : Nat → Hp) (R : Nat → Rec) : Prop where
  en : ∀ i, i < ops.size → Entry P call ops F H Hh H' R i
  ok0 : HpOk U (H 0)
  edges : edgesOk ops.toList 0 = true
  temps : tempsOk ops = true
  sz : (F 0).sz ≤ 512

/-- What the i-th operation does not know. -/
def Ui (U : Ids) (ops : Array Oper) (H : Nat → Hp) (i : Nat) : Ids := fun id => U id ∨ ∃ j, j ∈ incAt (allBits ops.toList []) i ∧ (H j).next ≤ id ∧ id < (H (j + 1)).next

/-- The places that an operation touches. -/
def Tch (Hh H' : Nat → Hp) (i : Nat) (id : Nat) : Prop := Fresh (Hh i) (H' i) id ∨ (Wr (H' i) id ∧ ((Hh i).look id).isSome = true)
def Dst (ops : Array Oper) (i : Nat) (t : Nat) : Prop := ∃ o, ops[i]? = some o ∧ o.dst = some t

structure Facts (U : Ids) (ops : Array Oper) (F : Nat → Fr) (H Hh H' : Nat → Hp) (i : Nat) : Prop where
  ok : HpOk (Ui U ops H i) (Hh i)
  step : Step (Ui U ops H i) (Hh i) (H' i)
  keep : ∀ id, ¬ Fresh (Hh i) (H' i) id → ¬ Wr (H' i) id → (H' i).look id = (Hh i).look id
  old : ∀ id b', ¬ Fresh (Hh i) (H' i) id → (H' i).look id = some b' → ∃ b, (Hh i).look id = some b
  val : ∃ v o, ops[i]? = some o ∧ putTm (F i) (H' i) o.dst v = .ok .normal (F (i + 1)) (H' i) ∧ Stable (Vis (Ui U ops H i) (H' i)) v

section
variable {P : Program} [NG P] {call : CallK} {ops : Array Oper} {U : Ids} {F : Nat → Fr} {H Hh H' : Nat → Hp} {R : Nat → Rec}

theorem op_at {i : Nat} (hi : i < ops.size) : ∃ o, ops[i]? = some o := ⟨ops[i], Array.getElem?_eq_getElem hi⟩
theorem lt_of_op {i : Nat} {o : Oper} (ho : ops[i]? = some o) : i < ops.size := by
  rcases Nat.lt_or_ge i ops.size with h | h
  · exact h
  · rw [Array.getElem?_eq_none h] at ho; cases ho

omit [NG P] in
theorem Reg.edge (G : Reg P call ops U F H Hh H' R) {i : Nat} {o : Oper} (ho : ops[i]? = some o) : ∀ e ∈ o.after.toList, Region.binds .any e = true → e.on < i := fun e he hb => by
  have := edgesOk_at _ _ G.edges i o (by simpa using ho) e he hb
  omega

omit [NG P] in
theorem Reg.trans (G : Reg P call ops U F H Hh H' R) {j l : Nat} (hjl : bitOf (allBits ops.toList []) j l = true) : ∀ (i : Nat), i < ops.size → bitOf (allBits ops.toList []) i j = true → bitOf (allBits ops.toList []) i l = true := by
  intro i
  induction i using Nat.strongRecOn with
  | _ i ih =>
    intro hi hij
    obtain ⟨o, ho⟩ := op_at hi
    obtain ⟨e, h1, h2, h3⟩ := (bit_iff ho (G.edge ho)).1 hij
    refine (bit_iff ho (G.edge ho)).2 ⟨e, h1, h2, .inr ?_⟩
    rcases h3 with h3 | h3
    · rw [h3]; exact hjl
    · exact ih e.on (G.edge ho e h1 h2) (Nat.lt_trans (G.edge ho e h1 h2) hi) h3

omit [NG P] in
/-- Operations in no order with each other. -/
theorem Reg.apartT (G : Reg P call ops U F H Hh H' R) {i j : Nat} {o p : Oper} (ho : ops[i]? = some o) (hp : ops[j]? = some p) (hj : j ∈ incAt (allBits ops.toList []) i) {t : Nat} :
    (p.dst = some t → ¬ Looks ops o t) ∧ (p.dst = some t → o.dst ≠ some t) ∧ (o.dst = some t → ¬ Looks ops p t) := by
  have hi := lt_of_op ho
  obtain ⟨p', h1, h2⟩ := pairsOk_at _ _ G.temps i o (incAt (allBits ops.toList []) i) (by simpa using ho) (by unfold incs; rw [List.getElem?_map, List.getElem?_range hi]; rfl) j hj
  rw [hp] at h1
  cases h1
  exact apartB_facts h2

omit [NG P] in
theorem Reg.hid (G : Reg P call ops U F H Hh H' R) : ∀ (i : Nat), i ≤ ops.size → (H i).hid = (H 0).hid := by
  intro i
  induction i with
  | zero => intro _; rfl
  | succ i ih => intro hi; rw [(G.en i (by omega)).nx]; exact ih (by omega)

omit [NG P] in
theorem Reg.hh_m (G : Reg P call ops U F H Hh H' R) {i : Nat} (hi : i < ops.size) : (Hh i).m = (H i).m := by rw [(G.en i hi).hh]
omit [NG P] in
theorem Reg.hh_next (G : Reg P call ops U F H Hh H' R) {i : Nat} (hi : i < ops.size) : (Hh i).next = (H i).next := by rw [(G.en i hi).hh]
omit [NG P] in
theorem Reg.m' (G : Reg P call ops U F H Hh H' R) {i : Nat} (hi : i < ops.size) : (H (i + 1)).m = (H' i).m := by rw [(G.en i hi).nx]
omit [NG P] in
theorem Reg.next' (G : Reg P call ops U F H Hh H' R) {i : Nat} (hi : i < ops.size) : (H (i + 1)).next = (H' i).next := by rw [(G.en i hi).nx]

omit [NG P] in
theorem Reg.up1 (G : Reg P call ops U F H Hh H' R) {i : Nat} (hi : i < ops.size) (fc : Facts U ops F H Hh H' i) : (H i).next ≤ (H (i + 1)).next := by
  rw [← G.hh_next hi, G.next' hi]; exact fc.step.next

omit [NG P] in
theorem Reg.up (G : Reg P call ops U F H Hh H' R) {N : Nat} (hN : N ≤ ops.size) (fc : ∀ k, k < N → Facts U ops F H Hh H' k) {j : Nat} : ∀ (i : Nat), j ≤ i → i ≤ N → (H j).next ≤ (H i).next := by
  intro i
  induction i with
  | zero => intro h _; rw [show j = 0 from by omega]; exact Nat.le_refl _
  | succ i ih =>
    intro h1 h2
    by_cases h3 : j = i + 1
    · subst h3; exact Nat.le_refl _
    · exact Nat.le_trans (ih (by omega) (by omega)) (G.up1 (by omega) (fc i (by omega)))

omit [NG P] in
/-- The number was given by one of the operations. -/
theorem Reg.cover (G : Reg P call ops U F H Hh H' R) {N : Nat} (hN : N ≤ ops.size) (fc : ∀ k, k < N → Facts U ops F H Hh H' k) {id : Nat} (h0 : (H 0).next ≤ id) : ∀ (i : Nat), i ≤ N → id < (H i).next → ∃ j, j < i ∧ (H j).next ≤ id ∧ id < (H (j + 1)).next := by
  intro i
  induction i with
  | zero => intro _ h; omega
  | succ i ih =>
    intro h1 h2
    by_cases h3 : id < (H i).next
    · obtain ⟨j, h4, h5, h6⟩ := ih (by omega) h3
      exact ⟨j, by omega, h5, h6⟩
    · exact ⟨i, by omega, by omega, h2⟩

omit [NG P] in
theorem Reg.top (G : Reg P call ops U F H Hh H' R) {N : Nat} (hN : N ≤ ops.size) (fc : ∀ k, k < N → Facts U ops F H Hh H' k) {i : Nat} (hi : i ≤ N) : ∀ id, (H i).next ≤ id → (H i).m.get id = none := by
  cases i with
  | zero => exact G.ok0.top
  | succ i =>
    intro id h
    rw [G.next' (by omega)] at h
    rw [G.m' (by omega)]
    exact (fc i (by omega)).step.ok.top id h

omit [NG P] in
theorem asc_of (G : Reg P call ops U F H Hh H' R) {N : Nat} (hN : N ≤ ops.size) (fc : ∀ k, k < N → Facts U ops F H Hh H' k) {i : Nat} (hi : i ≤ N) : ∀ (js : List Nat) (k : Nat), js.Pairwise (· < ·) → (∀ j ∈ js, k ≤ j ∧ j < i) → k ≤ i →
    Asc (H k).next (js.map R) (H i).next := by
  intro js
  induction js with
  | nil => intro k _ _ hk; exact G.up hN fc i hk hi
  | cons j js ih =>
    intro k hp hm hk
    rw [List.pairwise_cons] at hp
    have hj := hm j (.head _)
    obtain ⟨o, kd, h1, h2, h3, h4, _⟩ := (G.en j (by omega)).op
    have hn := G.next' (i := j) (by omega)
    refine ⟨?_, ?_, ?_⟩
    · rw [h4]; exact G.up hN fc j hj.1 (by omega)
    · rw [h4]
      simp only
      rw [← hn]; exact G.up1 (by omega) (fc j (by omega))
    · rw [h4]
      simp only
      rw [← hn]
      exact ih (j + 1) hp.2 (fun x hx => ⟨hp.1 x hx, (hm x (.tail _ hx)).2⟩) hj.2

structure HidFacts (ops : Array Oper) (F : Nat → Fr) (H Hh : Nat → Hp) (R : Nat → Rec) (i : Nat) : Prop where
  down : Down (H i).next (Hh i).hid
  rng : ∀ j, j ∈ incAt (allBits ops.toList []) i → ∀ id, id < (H i).next → (H j).next ≤ id → id < (H (j + 1)).next → hidden id (Hh i).hid = true
  old : ∀ id, id < (H i).next → hidden id (H 0).hid = true → hidden id (Hh i).hid = true
  k0 : (R i).kind = 0 → ∀ id, id < (H i).next → hidden id (Hh i).hid = true
  k1 : (R i).kind = 1 → ∀ id, id < (H i).next → id ≠ (R i).blk → hidden id (Hh i).hid = true
  k3 : (R i).kind ≠ 3
  k4 : (R i).kind = 4 → ∀ j, j ∈ incAt (allBits ops.toList []) i → (R j).kind = 1 → (R j).blk < (H i).next → hidden (R j).blk (Hh i).hid = true

omit [NG P] in
theorem Reg.hf (G : Reg P call ops U F H Hh H' R) {N : Nat} (hN : N ≤ ops.size) (fc : ∀ k, k < N → Facts U ops F H Hh H' k) {i : Nat} (hi : i ≤ N) (hin : i < ops.size) : HidFacts ops F H Hh R i := by
  obtain ⟨o, kd, h1, h2, h3, h4, _⟩ := (G.en i hin).op
  have hasc := asc_of G hN fc hi (incAt (allBits ops.toList []) i) 0 (by unfold incAt; exact (List.pairwise_lt_range).filter _) (fun j hj => ⟨Nat.zero_le _, (mem_incAt.1 hj).1⟩) (Nat.zero_le _)
  rw [G.hid i (by omega)] at h2
  obtain ⟨h5, h6⟩ := hidden_ranges _ _ _ _ hasc G.ok0.down
  obtain ⟨h7, h8, h9, h10, h11, h12⟩ := hidFor4_facts h2 h5
  refine ⟨h7, ?_, ?_, ?_, ?_, ?_, ?_⟩
  · intro j hj id h12 h13 h14
    refine h8 id h12 ((h6 id).2 (.inl ⟨R j, List.mem_map.2 ⟨j, hj, rfl⟩, ?_⟩))
    have hjl := (mem_incAt.1 hj).1
    obtain ⟨o', _, _, _, _, g4, _⟩ := (G.en j (by omega)).op
    rw [g4]
    simp only
    rw [← G.next' (by omega)]
    exact ⟨h13, h14⟩
  · intro id h12 h13
    exact h8 id h12 ((h6 id).2 (.inr h13))
  · rw [h4]; exact h9
  · rw [h4]; exact h10
  · rw [h4]; exact h11
  · rw [h4]
    exact fun hk j hj h1 h2 => h12 hk _ (List.mem_map.2 ⟨j, hj, rfl⟩) h1 h2

omit [NG P] in
/-- What the i-th operation can see. -/
theorem Reg.sees (G : Reg P call ops U F H Hh H' R) {N : Nat} (hN : N ≤ ops.size) (fc : ∀ k, k < N → Facts U ops F H Hh H' k) {i : Nat} (hi : i ≤ N) (hin : i < ops.size) {id : Nat} {b : Blk} (hl : (Hh i).look id = some b) :
    id < (H i).next ∧ hidden id (Hh i).hid = false ∧ (H i).look id = some b := by
  obtain ⟨h1, h2⟩ := look_vis hl
  have hf := G.hf hN fc hi hin
  rw [G.hh_m hin] at h2
  have hlt : id < (H i).next := by
    rcases Nat.lt_or_ge id (H i).next with h | h
    · exact h
    · rw [G.top hN fc hi id h] at h2; cases h2
  refine ⟨hlt, h1, ?_⟩
  rw [look_of, h2]
  rw [G.hid i (by omega)]
  cases hx : hidden id (H 0).hid with
  | false => rfl
  | true => rw [hf.old id hlt hx] at h1; cases h1

theorem none_of_hidden {h : Hp} {id : Nat} (hh : hidden id h.hid = true) : h.look id = none := by rw [look_eq, if_pos hh]

omit [NG P] in
theorem Reg.fresh_iff (G : Reg P call ops U F H Hh H' R) {i : Nat} (hin : i < ops.size) (id : Nat) : Fresh (Hh i) (H' i) id ↔ (H i).next ≤ id ∧ id < (H (i + 1)).next := by
  unfold Fresh
  rw [G.hh_next hin, G.next' hin]

omit [NG P] in
/-- Operations in no order with each other do not touch what the other sees or touches. -/
theorem Reg.apartM (G : Reg P call ops U F H Hh H' R) {N : Nat} (hN : N ≤ ops.size) (fc : ∀ k, k < N → Facts U ops F H Hh H' k) {i j : Nat} (hi : i ≤ N) (hin : i < ops.size) (hj : j ∈ incAt (allBits ops.toList []) i) (id : Nat) :
    (Tch Hh H' j id → (Hh i).look id = none) ∧ (Tch Hh H' i id → (Hh j).look id = none) ∧ ¬ (Tch Hh H' j id ∧ Tch Hh H' i id) := by
  have hji := (mem_incAt.1 hj).1
  have hjn : j < ops.size := by omega
  obtain ⟨c1, c2⟩ := compat_facts ((G.en i hin).cp j hj)
  have hfi := G.hf hN fc hi hin
  have hfj := G.hf (i := j) hN fc (by omega) hjn
  have hup := G.up hN fc (j := j + 1) i (by omega) hi
  have hup1 := G.up1 hjn (fc j (by omega))
  obtain ⟨oi, _, _, _, _, ri, _⟩ := (G.en i hin).op
  obtain ⟨oj, _, _, _, _, rj, _⟩ := (G.en j hjn).op
  have pu : ∀ {k : Nat}, k < ops.size → k ≤ N → (R k).pu = true → Wr (H' k) id → ((Hh k).look id).isSome = true → False := by
    intro k hk hkN hpu hw hv
    obtain ⟨o, _, _, _, _, rk, _⟩ := (G.en k hk).op
    rw [rk] at hpu
    simp only at hpu
    rw [ble_eq] at hpu
    obtain ⟨b, hb⟩ := Option.isSome_iff_exists.1 hv
    have := (G.sees hN fc hkN hk hb).1
    unfold Wr at hw
    omega
  have a1 : Tch Hh H' j id → (Hh i).look id = none := by
    rintro (h | ⟨h1, h2⟩)
    · rw [G.fresh_iff hjn] at h
      exact none_of_hidden (hfi.rng j hj id (by omega) h.1 h.2)
    · obtain ⟨b, hb⟩ := Option.isSome_iff_exists.1 h2
      obtain ⟨g1, g2, _⟩ := G.sees hN fc (by omega) hjn hb
      rcases c1 with c1 | c1 | ⟨c1, c3, c4⟩
      · exact (pu hjn (by omega) c1 h1 h2).elim
      · exact none_of_hidden (hfi.k0 c1 id (by omega))
      · refine none_of_hidden (hfi.k1 c3 id (by omega) ?_)
        rintro rfl
        rw [hfj.k1 c1 _ g1 fun e => c4 e.symm] at g2
        cases g2
  have a2 : Tch Hh H' i id → (Hh j).look id = none := by
    intro h
    cases hx : (Hh j).look id with
    | none => rfl
    | some b =>
      exfalso
      obtain ⟨g1, g2, _⟩ := G.sees hN fc (by omega) hjn hx
      rcases h with h | ⟨h1, h2⟩
      · rw [G.fresh_iff hin] at h; omega
      · rcases c2 with c2 | c2 | ⟨c1, c3, c4⟩ | ⟨c1, c3⟩
        · exact pu hin hi c2 h1 h2
        · rw [hfj.k0 c2 id g1] at g2; cases g2
        · obtain ⟨b', hb'⟩ := Option.isSome_iff_exists.1 h2
          obtain ⟨g3, g4, _⟩ := G.sees hN fc hi hin hb'
          have e1 : id = (R j).blk := by
            false_or_by_contra
            rename_i hne
            rw [hfj.k1 c1 id g1 hne] at g2; cases g2
          have e2 : id = (R i).blk := by
            false_or_by_contra
            rename_i hne
            rw [hfi.k1 c3 id g3 hne] at g4; cases g4
          exact c4 (e1.symm.trans e2)
        · obtain ⟨b', hb'⟩ := Option.isSome_iff_exists.1 h2
          obtain ⟨g3, g4, _⟩ := G.sees hN fc hi hin hb'
          have e1 : id = (R j).blk := by
            false_or_by_contra
            rename_i hne
            rw [hfj.k1 c1 id g1 hne] at g2; cases g2
          have := hfi.k4 c3 j hj c1 (by rw [← e1]; exact g3)
          rw [← e1, g4] at this
          cases this
  refine ⟨a1, a2, ?_⟩
  rintro ⟨h1, h2⟩
  rcases h2 with h2 | ⟨_, h2⟩
  · rw [G.fresh_iff hin] at h2
    rcases h1 with h1 | ⟨_, h1⟩
    · rw [G.fresh_iff hjn] at h1; omega
    · obtain ⟨b, hb⟩ := Option.isSome_iff_exists.1 h1
      have := (G.sees hN fc (by omega) hjn hb).1
      omega
  · rw [a1 h1] at h2; cases h2

omit [NG P] in
/-- Where nothing is touched nothing changes. -/
theorem Reg.stays (G : Reg P call ops U F H Hh H' R) {N : Nat} (hN : N ≤ ops.size) (fc : ∀ k, k < N → Facts U ops F H Hh H' k) {i : Nat} (hi : i < N) {id : Nat} (ht : ¬ Tch Hh H' i id) : (H (i + 1)).look id = (H i).look id := by
  have hin : i < ops.size := by omega
  rw [look_eq, look_eq, G.hid (i + 1) (by omega), G.hid i (by omega)]
  split
  · rfl
  · rename_i hv
    have fi := fc i hi
    rw [G.m' hin]
    have hfr : ¬ Fresh (Hh i) (H' i) id := fun h => ht (.inl h)
    rcases Nat.lt_or_ge id (H i).next with hlt | hge
    · cases hd : hidden id (Hh i).hid with
      | true =>
        rw [fi.step.dark id (by rw [G.hh_next hin]; exact hlt) hd, G.hh_m hin]
      | false =>
        have e1 : (Hh i).look id = (H i).m.get id := by rw [look_of hd, G.hh_m hin]
        have e2 : (H' i).look id = (H' i).m.get id := look_of (by rw [fi.step.hid]; exact hd)
        by_cases hw : Wr (H' i) id
        · have : (Hh i).look id = none := by
            cases hx : (Hh i).look id with
            | none => rfl
            | some b => exact absurd (.inr ⟨hw, by rw [hx]; rfl⟩) ht
          have h2 : (H' i).look id = none := by
            cases hx : (H' i).look id with
            | none => rfl
            | some b =>
              obtain ⟨b0, hb0⟩ := fi.old id b hfr hx
              rw [this] at hb0; cases hb0
          rw [← e1, ← e2, this, h2]
        · rw [← e1, ← e2]; exact fi.keep id hfr hw
    · rw [G.top hN fc (by omega) id hge]
      refine fi.step.ok.top id ?_
      rw [G.fresh_iff hin] at hfr
      rw [← G.next' hin]
      omega

omit [NG P] in
/-- A touched place can be seen. -/
theorem Reg.tch_vis (G : Reg P call ops U F H Hh H' R) {N : Nat} (hN : N ≤ ops.size) (fc : ∀ k, k < N → Facts U ops F H Hh H' k) {i : Nat} (hi : i < N) {id : Nat} (ht : Tch Hh H' i id) :
    (H' i).look id = (H (i + 1)).look id := by
  have hin : i < ops.size := by omega
  have hf := G.hf hN fc (by omega : i ≤ N) hin
  have fi := fc i hi
  have hv : hidden id (Hh i).hid = false := by
    rcases ht with h | ⟨_, h⟩
    · rw [G.fresh_iff hin] at h
      exact hidden_above hf.down h.1
    · obtain ⟨b, hb⟩ := Option.isSome_iff_exists.1 h
      exact (look_vis hb).1
  have h0 : hidden id (H 0).hid = false := by
    rcases Nat.lt_or_ge id (H i).next with hlt | hge
    · cases hx : hidden id (H 0).hid with
      | false => rfl
      | true => rw [hf.old id hlt hx] at hv; cases hv
    · exact hidden_above (G.ok0.down.mono (G.up hN fc i (Nat.zero_le _) (by omega))) hge
  rw [look_of (by rw [fi.step.hid]; exact hv), look_of (by rw [G.hid (i + 1) (by omega)]; exact h0), G.m' hin]

end
end Go.Ev
