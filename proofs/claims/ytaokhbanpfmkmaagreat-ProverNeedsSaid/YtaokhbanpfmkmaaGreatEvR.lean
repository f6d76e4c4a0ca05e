/- A verified evaluator: a part of it. -/
import Derived.Test.YtaokhbanpfmkmaaGreatEvQ
namespace Go.Ev
set_option linter.unusedVariables false
set_option linter.unusedSimpArgs false

/-! A region whose order is open: one operation on what any of its orders has left. -/

/-- The numbers that are known behind the operations in D. -/
def Kn (U : Ids) (ops : Array Oper) (H : Nat → Hp) (D : Nat → Prop) : Ids := fun id => Vis U (H 0) id ∨ ∃ k, k < ops.size ∧ D k ∧ (H k).next ≤ id ∧ id < (H (k + 1)).next

def Closed (ops : Array Oper) (D : Nat → Prop) : Prop := ∀ k, k < ops.size → D k → ∀ j, j < k → bitOf (allBits ops.toList []) k j = true → D j

/-- What lies at a number behind the operations in D. -/
noncomputable def lookD (ops : Array Oper) (H Hh H' : Nat → Hp) (D : Nat → Prop) : Look := lk D (fun k => (H k).look) (Tch Hh H') ops.size
/-- What a temporary holds behind the operations in D. -/
noncomputable def tmD (ops : Array Oper) (F : Nat → Fr) (D : Nat → Prop) : Nat → Value := lk D (fun k t => getTm t (F k).tm) (Dst ops) ops.size

def FD (ops : Array Oper) (H : Nat → Hp) (D : Nat → Prop) : Ids := fun id => ∃ k, k < ops.size ∧ D k ∧ (H k).next ≤ id ∧ id < (H (k + 1)).next
def WD (ops : Array Oper) (Hh H' : Nat → Hp) (D : Nat → Prop) : Ids := fun id => ∃ k, k < ops.size ∧ D k ∧ Wr (H' k) id ∧ ((Hh k).look id).isSome = true

/-- The state behind the operations in D. -/
def Inv (P : Program) (ops : Array Oper) (lo : Nat) (F : Nat → Fr) (H Hh H' : Nat → Hp) (μ0 : Mu) (w0 : World) (D : Nat → Prop) (a : Act) (w : World) : Prop :=
  ∃ μ, Post P lo (FD ops H D) (WD ops Hh H' D) μ0 μ (H 0).look (lookD ops H Hh H' D) w0 w ∧ a.tmps.size = (F 0).sz ∧ (∀ t, t < 512 → a.tmps.getD t undef = ren μ (tmD ops F D t)) ∧ a.defers = (F 0).defers.map (renD μ)

section
variable {P : Program} [NG P] {call : CallK} {ops : Array Oper} {U : Ids} {F : Nat → Fr} {H Hh H' : Nat → Hp} {R : Nat → Rec} {lo : Nat}

omit [NG P] in
theorem Reg.vis0 (G : Reg P call ops U F H Hh H' R) {N : Nat} (hN : N ≤ ops.size) (fc : ∀ k, k < N → Facts U ops F H Hh H' k) {i : Nat} (hi : i ≤ N) (hin : i < ops.size) {id : Nat} (hv : Vis U (H 0) id) : Vis (Ui U ops H i) (Hh i) id := by
  have h1 := hv.1
  have h2 := G.up hN fc i (Nat.zero_le _) hi
  refine ⟨by rw [G.hh_next hin]; omega, ?_⟩
  rintro (h | ⟨j, hj, h3, h4⟩)
  · exact hv.2 h
  · have := G.up hN fc (j := 0) j (Nat.zero_le _) (by have := (mem_incAt.1 hj).1; omega)
    omega

omit [NG P] in
theorem Reg.visI (G : Reg P call ops U F H Hh H' R) {N : Nat} (hN : N ≤ ops.size) (fc : ∀ k, k < N → Facts U ops F H Hh H' k) {i k : Nat} (hi : i ≤ N) (hin : i < ops.size) (hk : k < i) (hb : bitOf (allBits ops.toList []) i k = true) {id : Nat}
    (hv : Vis (Ui U ops H k) (H' k) id) : Vis (Ui U ops H i) (Hh i) id := by
  have h1 := hv.1
  rw [← G.next' (by omega)] at h1
  have h2 := G.up hN fc (j := k + 1) i (by omega) hi
  refine ⟨by rw [G.hh_next hin]; omega, ?_⟩
  rintro (h | ⟨j, hj, h3, h4⟩)
  · exact hv.2 (.inl h)
  · obtain ⟨h5, h6⟩ := mem_incAt.1 hj
    have hjk : j < k := by
      rcases Nat.lt_trichotomy j k with h | h | h
      · exact h
      · subst h; rw [hb] at h6; cases h6
      · have := G.up hN fc (j := k + 1) j (by omega) (by omega)
        omega
    refine hv.2 (.inr ⟨j, mem_incAt.2 ⟨hjk, ?_⟩, h3, h4⟩)
    cases hx : bitOf (allBits ops.toList []) k j with
    | false => rfl
    | true => rw [G.trans hx i hin hb] at h6; cases h6

omit [NG P] in
theorem Reg.visK (G : Reg P call ops U F H Hh H' R) {N : Nat} (hN : N ≤ ops.size) (fc : ∀ k, k < N → Facts U ops F H Hh H' k) {D : Nat → Prop} {k : Nat} (hk : k ≤ N) (hkn : k < ops.size) (hpre : ∀ j, j < k → bitOf (allBits ops.toList []) k j = true → D j) {id : Nat}
    (h1 : id < (H k).next) (h2 : ¬ Ui U ops H k id) : Kn U ops H D id := by
  rcases Nat.lt_or_ge id (H 0).next with h | h
  · exact .inl ⟨h, fun hu => h2 (.inl hu)⟩
  · obtain ⟨j, h3, h4, h5⟩ := G.cover hN fc h k hk h1
    refine .inr ⟨j, by omega, hpre j h3 ?_, h4, h5⟩
    cases hx : bitOf (allBits ops.toList []) k j with
    | true => rfl
    | false => exact absurd (.inr ⟨j, mem_incAt.2 ⟨h3, hx⟩, h4, h5⟩) h2

omit [NG P] in
theorem Reg.visK' (G : Reg P call ops U F H Hh H' R) {N : Nat} (hN : N ≤ ops.size) (fc : ∀ k, k < N → Facts U ops F H Hh H' k) {D : Nat → Prop} (hcl : Closed ops D) {k : Nat} (hk : k < N) (hD : D k) {id : Nat} (hv : Vis (Ui U ops H k) (H' k) id) : Kn U ops H D id := by
  have h1 := hv.1
  rw [← G.next' (by omega)] at h1
  rcases Nat.lt_or_ge id (H k).next with h | h
  · exact G.visK hN fc (by omega) (by omega) (hcl k (by omega) hD) h hv.2
  · exact .inr ⟨k, by omega, hD, h, h1⟩

/-- What a step has left at a temporary. -/
theorem Facts.tm {i : Nat} (fi : Facts U ops F H Hh H' i) (hsz : (F i).sz ≤ 512) {t : Nat} (ht : t < 512) (hd : Dst ops i t) : Stable (Vis (Ui U ops H i) (H' i)) (getTm t (F (i + 1)).tm) := by
  obtain ⟨v, o, h1, h2, h3⟩ := fi.val
  obtain ⟨o', h4, h5⟩ := hd
  rw [h1] at h4
  cases h4
  obtain ⟨_, _, _, _, h6, _⟩ := putTm_facts h2 hsz
  rw [h6 t ht, if_pos h5]
  exact h3
theorem Facts.tm_ne {i : Nat} (fi : Facts U ops F H Hh H' i) (hsz : (F i).sz ≤ 512) {t : Nat} (ht : t < 512) (hd : ¬ Dst ops i t) : getTm t (F (i + 1)).tm = getTm t (F i).tm := by
  obtain ⟨v, o, h1, h2, h3⟩ := fi.val
  obtain ⟨_, _, _, _, h6, _⟩ := putTm_facts h2 hsz
  rw [h6 t ht, if_neg fun h => hd ⟨o, h1, h⟩]
omit [NG P] in
theorem Reg.fsz (G : Reg P call ops U F H Hh H' R) {N : Nat} (fc : ∀ k, k < N → Facts U ops F H Hh H' k) : ∀ (i : Nat), i ≤ N → (F i).sz = (F 0).sz ∧ (F i).defers = (F 0).defers := by
  intro i
  induction i with
  | zero => intro _; exact ⟨rfl, rfl⟩
  | succ i ih =>
    intro hi
    obtain ⟨h1, h2⟩ := ih (by omega)
    obtain ⟨v, o, h3, h4, _⟩ := (fc i (by omega)).val
    obtain ⟨_, _, h5, h6, _⟩ := putTm_facts h4 (by rw [h1]; exact G.sz)
    exact ⟨h5.trans h1, h6.trans h2⟩

omit [NG P] in
theorem Reg.stB (G : Reg P call ops U F H Hh H' R) {N : Nat} (hN : N ≤ ops.size) (fc : ∀ k, k < N → Facts U ops F H Hh H' k) {k : Nat} (hk : k < N) {id : Nat} {b : Blk} (ht : Tch Hh H' k id) (hl : (H (k + 1)).look id = some b) : StB (Vis (Ui U ops H k) (H' k)) b := by
  rw [← G.tch_vis hN fc hk ht] at hl
  exact (fc k hk).step.ok.st id b hl

omit [NG P] in
/-- The i-th operation's heap is in order. -/
theorem Reg.okI (G : Reg P call ops U F H Hh H' R) {N : Nat} (hN : N ≤ ops.size) (fc : ∀ k, k < N → Facts U ops F H Hh H' k) {i : Nat} (hi : i ≤ N) (hin : i < ops.size) : HpOk (Ui U ops H i) (Hh i) := by
  have hf := G.hf hN fc hi hin
  have hup := G.up hN fc i (Nat.zero_le _) hi
  have hnx := G.ok0.nx
  refine ⟨by rw [G.hh_next hin]; omega, ?_, by rw [G.hh_next hin]; exact hf.down, ?_, ?_⟩
  · intro id h
    rw [G.hh_next hin] at h
    rw [G.hh_m hin]; exact G.top hN fc hi id h
  · intro id b hl
    obtain ⟨h1, h2, h3⟩ := G.sees hN fc hi hin hl
    rcases seq_from (m := fun k => (H k).look) (T := Tch Hh H') (n := i) (x := id) (fun k hk ht => G.stays hN fc (by omega) ht) with h | ⟨k, h4, h5, h6⟩
    · exact (G.ok0.st id b (h ▸ h3)).mono fun x hx => G.vis0 hN fc hi hin hx
    · have hb : bitOf (allBits ops.toList []) i k = true := by
        cases hx : bitOf (allBits ops.toList []) i k with
        | true => rfl
        | false =>
          rw [(G.apartM hN fc hi hin (mem_incAt.2 ⟨h4, hx⟩) id).1 h5] at hl
          cases hl
      exact (G.stB hN fc (by omega) h5 (h6 ▸ h3)).mono fun x hx => G.visI hN fc hi hin h4 hb hx
  · rintro id (h | ⟨j, hj, h1, h2⟩)
    · have := G.ok0.unk id h
      refine ⟨this.1, by rw [G.hh_next hin]; omega, hf.old id (by omega) this.2.2⟩
    · have hji := (mem_incAt.1 hj).1
      have h3 := G.up hN fc (j := 0) j (Nat.zero_le _) (by omega)
      have h4 := G.up hN fc (j := j + 1) i (by omega) hi
      exact ⟨by omega, by rw [G.hh_next hin]; omega, hf.rng j hj id (by omega) h1 h2⟩

omit [NG P] in
/-- A temporary that the i-th operation looks at. -/
theorem Reg.tmI (G : Reg P call ops U F H Hh H' R) {N : Nat} (hN : N ≤ ops.size) (fc : ∀ k, k < N → Facts U ops F H Hh H' k) {i : Nat} (hi : i ≤ N) {o : Oper} (ho : ops[i]? = some o) {μ0 : Mu} {a0 : Act} (fr0 : FrOk U μ0 (H 0) (F 0) a0)
    {t : Nat} (ht : t < 512) (hl : Looks ops o t) : Stable (Vis (Ui U ops H i) (Hh i)) (getTm t (F i).tm) := by
  have hin := lt_of_op ho
  have hszk : ∀ k, k ≤ N → (F k).sz ≤ 512 := fun k hk => by rw [(G.fsz fc k hk).1]; exact G.sz
  rcases seq_from (m := fun k t => getTm t (F k).tm) (T := Dst ops) (n := i) (x := t) (fun k hk hd => (fc k (by omega)).tm_ne (hszk k (by omega)) ht hd) with h | ⟨k, h4, h5, h6⟩
  · rw [show getTm t (F i).tm = getTm t (F 0).tm from h]
    exact (fr0.st t ht).mono fun x hx => G.vis0 hN fc hi hin hx
  · have hb : bitOf (allBits ops.toList []) i k = true := by
      cases hx : bitOf (allBits ops.toList []) i k with
      | true => rfl
      | false =>
        obtain ⟨p, hp, hpd⟩ := h5
        exact ((G.apartT ho hp (mem_incAt.2 ⟨h4, hx⟩)).1 hpd hl).elim
    rw [show getTm t (F i).tm = getTm t (F (k + 1)).tm from h6]
    exact ((fc k (by omega)).tm (hszk k (by omega)) ht h5).mono fun x hx => G.visI hN fc hi hin h4 hb hx

theorem act_put_get (a : Act) (d : Option Tmp) (v : Value) (t : Nat) (hd : ∀ d', d = some d' → d' < a.tmps.size) : (a.put d v).tmps.getD t undef = if d = some t then v else a.tmps.getD t undef := by
  cases d with
  | none => simp [Act.put]
  | some d' =>
    have := hd d' rfl
    simp only [Act.put]
    rw [Array.getD_eq_getD_getElem?, Array.getElem?_setIfInBounds]
    by_cases h : t = d'
    · subst h; simp [this]
    · rw [if_neg (fun e => h e.symm), if_neg, ← Array.getD_eq_getD_getElem?]
      rintro e; cases e; exact h rfl

theorem Reg.exec (G : Reg P call ops U F H Hh H' R) (hcall : CallOk P call) {Fe : Fence} {nn : Nat} (hF : WL Fe) {μ0 : Mu} {w0 : World} {a0 : Act} (fr0 : FrOk U μ0 (H 0) (F 0) a0) (hlo : lo ≤ w0.heap.size)
    {N : Nat} (hN : N ≤ ops.size) (fc : ∀ k, k < N → Facts U ops F H Hh H' k) {D : Nat → Prop} (hDN : ∀ k, D k → k < N) (hcl : Closed ops D) {i : Nat} (hi : i ≤ N) (hD : ¬ D i)
    (hpre : ∀ j, j < i → bitOf (allBits ops.toList []) i j = true → D j) {a : Act} {w : World} (inv : Inv P ops lo F H Hh H' μ0 w0 D a w) {o : Oper} (ho : ops[i]? = some o) (hcalm : Fe.round = none ∨ calmOp o.op = true)
    {next : Act → World → Prop} {Q : Exit → Act → World → Prop} (hnext : ∀ a' w', Inv P ops lo F H Hh H' μ0 w0 (fun k => D k ∨ k = i) a' w' → Facts U ops F H Hh H' i → next a' w') :
    if Region.wanted o (yielded ops a.tmps) then o.wpIn Fe nn P a w next Q else next (a.put o.dst undef) w := by
  have hin := lt_of_op ho
  obtain ⟨μ, post, hsz, htm, hdf⟩ := inv
  have hszk : ∀ k, k ≤ N → (F k).sz ≤ 512 := fun k hk => by rw [(G.fsz fc k hk).1]; exact G.sz
  have later : ∀ k, D k → i < k → i ∈ incAt (allBits ops.toList []) k := by
    intro k hk hik
    refine mem_incAt.2 ⟨hik, ?_⟩
    cases hx : bitOf (allBits ops.toList []) k i with
    | false => rfl
    | true => exact absurd (hcl k (by have := hDN k hk; omega) hk i hik hx) hD
  have earlier : ∀ j, j < i → ¬ D j → j ∈ incAt (allBits ops.toList []) i := by
    intro j hj hnd
    refine mem_incAt.2 ⟨hj, ?_⟩
    cases hx : bitOf (allBits ops.toList []) i j with
    | false => rfl
    | true => exact absurd (hpre j hj hx) hnd
  have lookI : ∀ id, (∀ j, j < i → Tch Hh H' j id → D j) → (∀ k, i < k → D k → ¬ Tch Hh H' k id) → lookD ops H Hh H' D id = (H i).look id := by
    intro id h1 h2
    refine lk_at (m := fun k => (H k).look) (fun k hk ht => G.stays hN fc (by omega) ht) (by omega) h1 fun k hk hkn hDk => ?_
    rcases Nat.lt_or_ge i k with h | h
    · exact h2 k h hDk
    · rw [show k = i from by omega] at hDk; exact absurd hDk hD
  have seen : ∀ id b, (Hh i).look id = some b → lookD ops H Hh H' D id = some b := by
    intro id b hl
    rw [lookI id, (G.sees hN fc hi hin hl).2.2]
    · intro j hj ht
      false_or_by_contra
      rename_i hnd
      rw [(G.apartM hN fc hi hin (earlier j hj hnd) id).1 ht] at hl
      cases hl
    · intro k hk hDk ht
      have hkN := hDN k hDk
      rw [(G.apartM hN fc (by omega) (by omega) (later k hDk hk) id).2.1 ht] at hl
      cases hl
  have okI := G.okI hN fc hi hin
  have satI : Sat P lo μ (Hh i).look w := post.sat.sub seen
  have hloI : lo ≤ w.heap.size := Nat.le_trans hlo post.size
  -- what it looks at
  have tmI : ∀ t, t < 512 → Looks ops o t → tmD ops F D t = getTm t (F i).tm := by
    intro t ht hl
    refine lk_at (m := fun k t => getTm t (F k).tm) (fun k hk hd => (fc k (by omega)).tm_ne (hszk k (by omega)) ht hd) (by omega) ?_ ?_
    · rintro j hj ⟨p, hp, hpd⟩
      false_or_by_contra
      rename_i hnd
      exact (G.apartT ho hp (earlier j hj hnd)).1 hpd hl
    · rintro k hk hkn hDk ⟨p, hp, hpd⟩
      rcases Nat.lt_or_ge i k with h | h
      · exact (G.apartT hp ho (later k hDk h)).2.2 hpd hl
      · rw [show k = i from by omega] at hDk; exact hD hDk
  have hopnd : ∀ x ∈ o.op.operands, okOpnd x = true → a.eval x = ren μ ((F i).eval x) ∧ Stable (Vis (Ui U ops H i) (Hh i)) ((F i).eval x) := by
    intro x hx hok
    cases x with
    | tmp t =>
      have ht : t < 512 := blt_eq.1 hok
      have hl : Looks ops o t := .inl hx
      refine ⟨?_, G.tmI hN fc hi ho fr0 ht hl⟩
      show a.tmps.getD t undef = _
      rw [htm t ht, tmI t ht hl]; rfl
    | const v => exact ⟨(ren_closedA hok μ).symm, stable_closedA hok⟩
    | global g =>
      have hg : g < 1000 := blt_eq.1 hok
      refine ⟨?_, ?_⟩
      · show Value.pointer (some ⟨g, 0, none⟩) = ren μ (.pointer (some ⟨g, 0, none⟩))
        rw [ren_ptrA]; unfold renA; rw [satI.low g hg]; simp
      · refine stable_ptr ⟨Nat.lt_of_lt_of_le hg okI.nx, fun hu => ?_⟩
        have := (okI.unk _ hu).1
        simp only at this; omega
    | func g =>
      refine ⟨?_, ?_⟩
      · show Value.func (.func g) ⟨[]⟩ ⟨[]⟩ = ren μ (.func (.func g) ⟨[]⟩ ⟨[]⟩)
        rw [ren_func]; rfl
      · exact stable_func.2 ⟨by simp, by simp⟩
  have hwant : Region.wanted o (yielded ops a.tmps) = wantedF ops (F i) o.guard := by
    refine wanted_core (μ := μ) (by rw [hsz]; exact G.sz) fun j want t hg hd ht => ?_
    have hl : Looks ops o t := by
      cases hp : ops[j]? with
      | none => rw [hp] at hd; cases hd
      | some p =>
        rw [hp] at hd
        exact .inr ⟨j, want, p, hg, hp, hd⟩
    rw [htm t ht, tmI t ht hl]
  obtain ⟨o', kd, h1, h2, h3, h4, h5⟩ := (G.en i hin).op
  rw [ho] at h1
  cases h1
  refine one_core hcall hF h3 hcalm okI satI hloI hopnd hwant ?_ ?_ ?_
  · intro v h1 μ' w' hput g st
    obtain ⟨_, e1, e2, e3, e4, e5⟩ := putTm_facts hput (hszk i hi)
    subst e1
    have fi : Facts U ops F H Hh H' i := ⟨okI, g.step, g.post.keep, g.post.old, v, o, ho, hput, st⟩
    refine hnext _ w' ?_ fi
    -- the numbers of this step
    have up1 := G.up1 hin fi
    have hnone : ∀ id, Fresh (Hh i) (H' i) id → lookD ops H Hh H' D id = none := by
      intro id hfr
      have hfr' := (G.fresh_iff hin id).1 hfr
      rw [lookI id]
      · rw [look_eq]
        split
        · rfl
        · exact G.top hN fc hi id hfr'.1
      · intro j hj ht
        exfalso
        have hu := G.up hN fc (j := j + 1) i (by omega) hi
        rcases ht with ht | ⟨_, ht⟩
        · rw [G.fresh_iff (by omega)] at ht; omega
        · obtain ⟨b, hb⟩ := Option.isSome_iff_exists.1 ht
          have := (G.sees hN fc (by omega) (by omega) hb).1
          have hu2 := G.up hN fc (j := j) i (by omega) hi
          omega
      · intro k hk hDk ht
        have hkN := hDN k hDk
        exact (G.apartM hN fc (by omega) (by omega) (later k hDk hk) id).2.2 ⟨.inl hfr, ht⟩
    have hKn : ∀ id, Kn U ops H D id → ¬ Fresh (Hh i) (H' i) id := by
      intro id hk hfr
      have hfr' := (G.fresh_iff hin id).1 hfr
      rcases hk with hk | ⟨k, h6, h7, h8, h9⟩
      · have := hk.1
        have hu := G.up hN fc (j := 0) i (Nat.zero_le _) hi
        omega
      · have hkN := hDN k h7
        rcases Nat.lt_trichotomy k i with h | h | h
        · have hu := G.up hN fc (j := k + 1) i (by omega) hi
          omega
        · subst h; exact hD h7
        · have hu := G.up hN fc (j := i + 1) k (by omega) (by omega)
          omega
    have hstB : ∀ id b, lookD ops H Hh H' D id = some b → StB (Kn U ops H D) b := by
      intro id b hl
      rcases lk_from (D := D) (m := fun k => (H k).look) (T := Tch Hh H') ops.size id with h | ⟨k, h6, h7, h8, h9⟩
      · exact (G.ok0.st id b (h.symm.trans hl)).mono fun x hx => .inl hx
      · exact (G.stB hN fc (hDN k h7) h8 (h9.symm.trans hl)).mono fun x hx => G.visK' hN fc hcl (hDN k h7) h7 hx
    have hstT : ∀ t, t < 512 → Stable (Kn U ops H D) (tmD ops F D t) := by
      intro t ht
      rcases lk_from (D := D) (m := fun k t => getTm t (F k).tm) (T := Dst ops) ops.size t with h | ⟨k, h6, h7, h8, h9⟩
      · rw [show tmD ops F D t = getTm t (F 0).tm from h]
        exact (fr0.st t ht).mono fun x hx => .inl hx
      · rw [show tmD ops F D t = getTm t (F (k + 1)).tm from h9]
        exact ((fc k (hDN k h7)).tm (hszk k (by have := hDN k h7; omega)) ht h8).mono fun x hx => G.visK' hN fc hcl (hDN k h7) h7 hx
    have agree : ∀ id, Kn U ops H D id → μ' id = μ id := fun id hk => g.post.agree id (hKn id hk)
    have framed := g.post.framed post.sat seen hnone (S := Kn U ops H D) hKn (fun id b hl _ => hstB id b hl)
    have hlook : besides (Fresh (Hh i) (H' i)) (Hh i).look (H' i).look (lookD ops H Hh H' D) = lookD ops H Hh H' (fun k => D k ∨ k = i) := by
      funext id
      have hput : lookD ops H Hh H' (fun k => D k ∨ k = i) id = @ite _ (Tch Hh H' i id) (Classical.propDecidable _) ((H (i + 1)).look id) (lookD ops H Hh H' D id) := by
        refine @lk_put _ _ D (fun k => (H k).look) (Tch Hh H') ops.size i id hin hD (fun k hk hkn hDk ht1 ht2 => ?_) (Classical.propDecidable _)
        have hkN := hDN k hDk
        exact (G.apartM hN fc (by omega) (by omega) (later k hDk hk) id).2.2 ⟨ht1, ht2⟩
      rw [hput]
      have fcI : ∀ k, k < i + 1 → Facts U ops F H Hh H' k := fun k hk => by
        rcases Nat.lt_or_ge k i with h | h
        · exact fc k (by omega)
        · rw [show k = i from by omega]; exact fi
      by_cases ht : Tch Hh H' i id
      · rw [if_pos ht, ← G.tch_vis (N := i + 1) (by omega) fcI (by omega) ht]
        unfold besides
        rw [if_pos]
        rcases ht with h | ⟨_, h⟩
        · exact .inl h
        · exact .inr h
      · rw [if_neg ht]
        unfold besides
        split
        · rename_i hc
          have hfr : ¬ Fresh (Hh i) (H' i) id := fun h => ht (.inl h)
          have hv := hc.resolve_left hfr
          have hw : ¬ Wr (H' i) id := fun h => ht (.inr ⟨h, hv⟩)
          rw [g.post.keep id hfr hw]
          obtain ⟨b, hb⟩ := Option.isSome_iff_exists.1 hv
          rw [hb, seen id b hb]
        · rfl
    rw [hlook] at framed
    refine ⟨μ', (post.trans framed).mono ?_ ?_ ?_, ?_, ?_, ?_⟩
    · rintro id (⟨k, h6, h7, h8⟩ | h6)
      · exact ⟨k, h6, .inl h7, h8⟩
      · exact ⟨i, hin, .inr rfl, (G.fresh_iff hin id).1 h6⟩
    · rintro id (⟨k, h6, h7, h8⟩ | h6)
      · exact ⟨k, h6, .inl h7, h8⟩
      · exact ⟨i, hin, .inr rfl, h6.1, h6.2⟩
    · rintro id b ⟨k, h6, h7, h8⟩ hn
      exfalso
      rcases h7 with h7 | rfl
      · exact hn (.inl ⟨k, h6, h7, h8⟩)
      · exact hn (.inr ((G.fresh_iff hin id).2 h8))
    · have : (a.put o.dst (ren μ' v)).tmps.size = a.tmps.size := by
        cases o.dst with
        | none => rfl
        | some d => simp [Act.put]
      rw [this, hsz]
    · intro t ht
      rw [act_put_get a o.dst _ t fun d hd => by rw [hsz, ← (G.fsz fc i hi).1]; exact e5 d hd]
      have hput : tmD ops F (fun k => D k ∨ k = i) t = @ite _ (Dst ops i t) (Classical.propDecidable _) (getTm t (F (i + 1)).tm) (tmD ops F D t) := by
        refine @lk_put _ _ D (fun k t => getTm t (F k).tm) (Dst ops) ops.size i t hin hD (fun k hk hkn hDk ht1 ht2 => ?_) (Classical.propDecidable _)
        obtain ⟨p1, q1, q2⟩ := ht1
        obtain ⟨p2, q3, q4⟩ := ht2
        exact (G.apartT q3 q1 (later k hDk hk)).2.1 q2 q4
      rw [hput]
      by_cases hd : o.dst = some t
      · rw [if_pos hd, if_pos ⟨o, ho, hd⟩, e4 t ht, if_pos hd]
      · rw [if_neg hd, if_neg, htm t ht]
        · exact hstT t ht μ μ' fun id hk => (agree id hk).symm
        · rintro ⟨p, hp, hpd⟩
          rw [ho] at hp; cases hp; exact hd hpd
    · have : (a.put o.dst (ren μ' v)).defers = a.defers := by cases o.dst <;> rfl
      rw [this, hdf]
      refine List.map_congr_left fun d hd => ?_
      rcases fr0.dst d hd with ⟨g', cap, args, rfl, s1, s2⟩ | ⟨b, rfl, s1⟩
      rotate_left
      · rw [renD_mark, renD_mark, agree b (.inl s1 : Kn U ops H D b)]
      rw [renD_mk, renD_mk]
      congr 2
      · congr 1
        exact List.map_congr_left fun x hx => ((s1 x hx).mono fun id hk => (.inl hk : Kn U ops H D id)) μ μ' fun id hk => (agree id hk).symm
      · exact List.map_congr_left fun x hx => ((s2 x hx).mono fun id hk => (.inl hk : Kn U ops H D id)) μ μ' fun id hk => (agree id hk).symm
  · intro d hd _ _
    exfalso
    have hk3 := (G.hf hN fc hi hin).k3
    have := evOp_defer (f := F i) (by rw [hd]; trivial : isDefer (evOp o.op P (Hh i) (F i) o))
    rw [h4] at hk3
    simp only at hk3
    rw [this] at h5
    rcases h5 with rfl | ⟨h5, _⟩
    · exact hk3 rfl
    · simp at h5
  · intro v hv
    cases hv

end
end Go.Ev
