/- A verified evaluator: a part of it. -/
import Derived.Test.YtaokhbanpfmkmaaGreatEvN
namespace Go.Ev
set_option linter.unusedVariables false
set_option linter.unusedSimpArgs false

/-! Plain facts for the regions whose order is open. -/

open Classical in
/-- What the last of the steps in D that touch a place has left there. -/
noncomputable def lk {α β : Type} (D : Nat → Prop) (m : Nat → α → β) (T : Nat → α → Prop) : Nat → α → β
  | 0 => m 0
  | k + 1 => fun x => if D k ∧ T k x then m (k + 1) x else lk D m T k x

section
variable {α β : Type} {D : Nat → Prop} {m : Nat → α → β} {T : Nat → α → Prop}

theorem lk_at {n i : Nat} {x : α} (hm : ∀ k, k < i → ¬ T k x → m (k + 1) x = m k x) (hi : i ≤ n) (h1 : ∀ j, j < i → T j x → D j) (h2 : ∀ k, i ≤ k → k < n → D k → ¬ T k x) : lk D m T n x = m i x := by
  have low : ∀ k, k ≤ i → lk D m T k x = m k x := by
    intro k
    induction k with
    | zero => intro _; rfl
    | succ k ih =>
      intro hk
      unfold lk
      split
      · rfl
      · rename_i hn
        rw [ih (by omega), hm k (by omega)]
        intro ht; exact hn ⟨h1 k (by omega) ht, ht⟩
  have high : ∀ d, i + d ≤ n → lk D m T (i + d) x = m i x := by
    intro d
    induction d with
    | zero => intro _; exact low i (Nat.le_refl i)
    | succ d ih =>
      intro hd
      show lk D m T (i + d + 1) x = _
      unfold lk
      rw [if_neg fun hc => h2 (i + d) (by omega) (by omega) hc.1 hc.2]
      exact ih (by omega)
  have := high (n - i) (by omega)
  rwa [show i + (n - i) = n from by omega] at this

theorem lk_put {n i : Nat} {x : α} (hi : i < n) (hD : ¬ D i) (h : ∀ k, i < k → k < n → D k → T i x → ¬ T k x) [Decidable (T i x)] :
    lk (fun k => D k ∨ k = i) m T n x = if T i x then m (i + 1) x else lk D m T n x := by
  have low : ∀ k, k ≤ i → lk (fun k => D k ∨ k = i) m T k x = lk D m T k x := by
    intro k
    induction k with
    | zero => intro _; rfl
    | succ k ih =>
      intro hk
      unfold lk
      rw [ih (by omega)]
      by_cases hc : D k ∧ T k x
      · rw [if_pos hc, if_pos ⟨.inl hc.1, hc.2⟩]
      · rw [if_neg hc, if_neg]
        rintro ⟨h1 | h1, h2⟩
        · exact hc ⟨h1, h2⟩
        · omega
  have high : ∀ d, i + 1 + d ≤ n → lk (fun k => D k ∨ k = i) m T (i + 1 + d) x = if T i x then m (i + 1) x else lk D m T (i + 1 + d) x := by
    intro d
    induction d with
    | zero =>
      intro _
      show lk _ m T (i + 1) x = if T i x then m (i + 1) x else lk D m T (i + 1) x
      unfold lk
      rw [low i (Nat.le_refl i)]
      by_cases ht : T i x
      · simp [ht]
      · simp [ht]
    | succ d ih =>
      intro hd
      show lk _ m T (i + 1 + d + 1) x = if T i x then m (i + 1) x else lk D m T (i + 1 + d + 1) x
      unfold lk
      rw [ih (by omega)]
      by_cases hc : D (i + 1 + d) ∧ T (i + 1 + d) x
      · rw [if_pos ⟨.inl hc.1, hc.2⟩, if_pos hc, if_neg fun ht => h _ (by omega) (by omega) hc.1 ht hc.2]
      · rw [if_neg hc, if_neg]
        rintro ⟨h1 | h1, h2⟩
        · exact hc ⟨h1, h2⟩
        · omega
  have := high (n - (i + 1)) (by omega)
  rwa [show i + 1 + (n - (i + 1)) = n from by omega] at this

theorem lk_from (n : Nat) (x : α) : lk D m T n x = m 0 x ∨ ∃ k, k < n ∧ D k ∧ T k x ∧ lk D m T n x = m (k + 1) x := by
  induction n with
  | zero => exact .inl rfl
  | succ n ih =>
    unfold lk
    split
    · rename_i hc; exact .inr ⟨n, by omega, hc.1, hc.2, rfl⟩
    · rcases ih with h | ⟨k, h1, h2, h3, h4⟩
      · exact .inl h
      · exact .inr ⟨k, by omega, h2, h3, h4⟩

theorem seq_from {n : Nat} {x : α} (hm : ∀ k, k < n → ¬ T k x → m (k + 1) x = m k x) : m n x = m 0 x ∨ ∃ k, k < n ∧ T k x ∧ m n x = m (k + 1) x := by
  induction n with
  | zero => exact .inl rfl
  | succ n ih =>
    by_cases ht : T n x
    · exact .inr ⟨n, by omega, ht, rfl⟩
    · rw [hm n (by omega) ht]
      rcases ih fun k hk => hm k (by omega) with h | ⟨k, h1, h2, h3⟩
      · exact .inl h
      · exact .inr ⟨k, by omega, h2, h3⟩
end

/-! Bits. -/
def bitOf (bs : List Nat) (i j : Nat) : Bool := ((bs[i]?).getD 0).testBit j
noncomputable def predL (bs : List Nat) (l : List Edge) : Nat := List.rec 0 (fun e _ ih => edgeBits bs e ih) l

theorem orec (x : Option Nat) : (Option.rec 0 (fun n => n) x : Nat) = x.getD 0 := by cases x <;> rfl

theorem predBits_bit (bs : List Nat) (o : Oper) (j : Nat) : (predBits bs o).testBit j = true ↔ ∃ e ∈ o.after.toList, Region.binds .any e = true ∧ (e.on = j ∨ bitOf bs e.on j = true) := by
  show (predL bs o.after.toList).testBit j = true ↔ _
  induction o.after.toList with
  | nil => simp [predL]
  | cons e l ih =>
    show (edgeBits bs e (predL bs l)).testBit j = true ↔ _
    unfold edgeBits
    rw [ite'_eq]
    by_cases hb : Region.binds .any e = true
    · rw [if_pos hb]
      simp only [orec, nth_eq]
      have h1 : (Nat.lor (Nat.lor (predL bs l) (Nat.shiftLeft 1 e.on)) ((bs[e.on]?).getD 0)).testBit j =
          (((predL bs l).testBit j || (Nat.shiftLeft 1 e.on).testBit j) || ((bs[e.on]?).getD 0).testBit j) := by
        show (((_ ||| _) ||| _ : Nat)).testBit j = _
        rw [Nat.testBit_or, Nat.testBit_or]
      have h2 : (Nat.shiftLeft 1 e.on).testBit j = decide (e.on = j) := by
        show (1 <<< e.on).testBit j = _
        rw [Nat.one_shiftLeft, Nat.testBit_two_pow]
      rw [h1, h2, Bool.or_eq_true, Bool.or_eq_true, ih]
      simp only [List.mem_cons, decide_eq_true_eq]
      constructor
      · rintro ((⟨e', h3, h4⟩ | h3) | h3)
        · exact ⟨e', .inr h3, h4⟩
        · exact ⟨e, .inl rfl, hb, .inl h3⟩
        · exact ⟨e, .inl rfl, hb, .inr h3⟩
      · rintro ⟨e', rfl | h3, h4, h5⟩
        · rcases h5 with h5 | h5
          · exact .inl (.inr h5)
          · exact .inr h5
        · exact .inl (.inl ⟨e', h3, h4, h5⟩)
    · rw [if_neg hb, ih]
      constructor
      · rintro ⟨e', h3, h4⟩; exact ⟨e', .tail _ h3, h4⟩
      · rintro ⟨e', h3, h4⟩
        rcases List.mem_cons.1 h3 with rfl | h3
        · exact absurd h4.1 hb
        · exact ⟨e', h3, h4⟩

theorem allBits_cons (o : Oper) (l : List Oper) (bs : List Nat) : allBits (o :: l) bs = allBits l (bs ++ [predBits bs o]) := by
  show (Nat.rec (motive := fun _ => List Nat) (allBits l (appL bs [0])) (fun n _ => allBits l (appL bs [Nat.succ n])) (predBits bs o)) = _
  rw [← appL_eq]
  cases predBits bs o <;> rfl

theorem allBits_get : ∀ (l : List Oper) (bs : List Nat), (∃ r, allBits l bs = bs ++ r) ∧ ∀ i o, l[i]? = some o → (allBits l bs)[bs.length + i]? = some (predBits ((allBits l bs).take (bs.length + i)) o) := by
  intro l
  induction l with
  | nil => intro bs; exact ⟨⟨[], by simp [allBits]⟩, by intro i o h; simp at h⟩
  | cons o l ih =>
    intro bs
    rw [allBits_cons]
    obtain ⟨⟨r, h1⟩, h2⟩ := ih (bs ++ [predBits bs o])
    refine ⟨⟨predBits bs o :: r, by rw [h1]; simp⟩, ?_⟩
    intro i o' hi
    cases i with
    | zero =>
      simp at hi; subst hi
      rw [h1]
      simp
    | succ i =>
      have := h2 i o' (by simpa using hi)
      rw [List.length_append, List.length_singleton] at this
      rwa [show bs.length + (i + 1) = bs.length + 1 + i from by omega]

/-- What comes before the i-th operation. -/
theorem bit_iff {ops : Array Oper} {i j : Nat} {o : Oper} (ho : ops[i]? = some o) (he : ∀ e ∈ o.after.toList, Region.binds .any e = true → e.on < i) :
    bitOf (allBits ops.toList []) i j = true ↔ ∃ e ∈ o.after.toList, Region.binds .any e = true ∧ (e.on = j ∨ bitOf (allBits ops.toList []) e.on j = true) := by
  have := (allBits_get ops.toList []).2 i o (by simpa using ho)
  simp only [List.length_nil, Nat.zero_add] at this
  conv => lhs; unfold bitOf
  rw [this, Option.getD_some, predBits_bit]
  have key : ∀ e ∈ o.after.toList, Region.binds .any e = true → bitOf ((allBits ops.toList []).take i) e.on j = bitOf (allBits ops.toList []) e.on j := by
    intro e h1 h2
    unfold bitOf
    rw [List.getElem?_take, if_pos (he e h1 h2)]
  constructor
  · rintro ⟨e, h1, h2, h3⟩
    rw [key e h1 h2] at h3
    exact ⟨e, h1, h2, h3⟩
  · rintro ⟨e, h1, h2, h3⟩
    refine ⟨e, h1, h2, ?_⟩
    rw [key e h1 h2]; exact h3

theorem mem_incAt {bs : List Nat} {i j : Nat} : j ∈ incAt bs i ↔ j < i ∧ bitOf bs i j = false := by
  unfold incAt
  rw [List.mem_filter, List.mem_range, orec, nth_eq]
  unfold bitOf
  simp

theorem edgesOk_at : ∀ (l : List Oper) (k : Nat), edgesOk l k = true → ∀ i o, l[i]? = some o → ∀ e ∈ o.after.toList, Region.binds .any e = true → e.on < k + i := by
  intro l
  induction l with
  | nil => intro k _ i o h; simp at h
  | cons o l ih =>
    intro k hk i o' hi e he hb
    have hk : ite' (allL (fun e => ite' (Region.binds .any e) (Nat.blt e.on k) true) o.after.toList) (edgesOk l (Nat.succ k)) false = true := hk
    rw [ite'_eq] at hk
    split at hk
    · rename_i h1
      cases i with
      | zero =>
        simp at hi; subst hi
        rw [allL_eq, List.all_eq_true] at h1
        have := h1 e he
        rw [ite'_eq, if_pos hb, blt_eq] at this
        omega
      | succ i =>
        have := ih (k + 1) hk i o' (by simpa using hi) e he hb
        omega
    · cases hk

theorem pairsOk_at {ops : Array Oper} : ∀ (l : List Oper) (inc : List (List Nat)), pairsOk ops l inc = true → ∀ (i : Nat) (o : Oper) (js : List Nat), l[i]? = some o → inc[i]? = some js → ∀ j ∈ js, ∃ p, ops[j]? = some p ∧ apartB ops p o = true := by
  intro l
  induction l with
  | nil => intro inc _ i o js h; simp at h
  | cons o l ih =>
    intro inc hk i o' js hi hj j hm
    have hk : ite' (allL (fun j => Option.rec false (fun p => apartB ops p o) (nth ops.toList j)) (List.rec [] (fun a _ _ => a) inc)) (pairsOk ops l (List.tail inc)) false = true := hk
    rw [ite'_eq] at hk
    split at hk
    · rename_i h1
      cases inc with
      | nil => simp at hj
      | cons a inc =>
        cases i with
        | zero =>
          simp at hi hj; subst hi hj
          rw [allL_eq, List.all_eq_true] at h1
          have := h1 j hm
          rw [nth_eq] at this
          cases hp : ops.toList[j]? with
          | none => rw [hp] at this; cases this
          | some p =>
            rw [hp] at this
            exact ⟨p, by simpa using hp, this⟩
        | succ i => exact ih inc hk i o' js (by simpa using hi) (by simpa using hj) j hm
    · cases hk

/-- The temporaries that an operation looks at. -/
def Looks (ops : Array Oper) (o : Oper) (t : Nat) : Prop := Operand.tmp t ∈ o.op.operands ∨ ∃ j want p, o.guard = some (j, want) ∧ ops[j]? = some p ∧ p.dst = some t

theorem dstB_bit (o : Oper) (t : Nat) : (dstB o).testBit t = true ↔ o.dst = some t := by
  unfold dstB
  cases o.dst with
  | none => simp
  | some d =>
    show (1 <<< d).testBit t = true ↔ _
    rw [Nat.one_shiftLeft, Nat.testBit_two_pow]
    simp
theorem opndB_bit (l : List Operand) (t : Nat) : (opndB l).testBit t = true ↔ Operand.tmp t ∈ l := by
  induction l with
  | nil => simp [opndB]
  | cons x l ih =>
    show (Nat.lor (tmpB x) (opndB l)).testBit t = true ↔ _
    have : (Nat.lor (tmpB x) (opndB l)).testBit t = ((tmpB x).testBit t || (opndB l).testBit t) := by
      show ((_ ||| _ : Nat)).testBit t = _
      rw [Nat.testBit_or]
    rw [this, Bool.or_eq_true, ih, List.mem_cons]
    have hx : (tmpB x).testBit t = true ↔ Operand.tmp t = x := by
      cases x with
      | tmp d =>
        show (1 <<< d).testBit t = true ↔ _
        rw [Nat.one_shiftLeft, Nat.testBit_two_pow]
        simp; exact eq_comm
      | _ => simp [tmpB]
    rw [hx]
theorem looksB_bit {ops : Array Oper} {o : Oper} {t : Nat} (h : Looks ops o t) : (looksB ops o).testBit t = true := by
  have : (looksB ops o).testBit t = ((guardB ops o.guard).testBit t || (opndB o.op.operands.toList).testBit t) := by
    show ((_ ||| _ : Nat)).testBit t = _
    rw [Nat.testBit_or]
  rw [this, Bool.or_eq_true]
  rcases h with h | ⟨j, want, p, h1, h2, h3⟩
  · exact .inr ((opndB_bit _ _).2 (by simpa using h))
  · left
    rw [h1]
    show (Option.rec 0 dstB (nth ops.toList j) : Nat).testBit t = true
    rw [nth_eq, Array.getElem?_toList, h2]
    exact (dstB_bit p t).2 h3
theorem land_zero {a b : Nat} (h : Nat.beq (Nat.land a b) 0 = true) (t : Nat) : ¬ (a.testBit t = true ∧ b.testBit t = true) := by
  rw [beq_eq] at h
  rintro ⟨h1, h2⟩
  have : (Nat.land a b).testBit t = (a.testBit t && b.testBit t) := by
    show ((a &&& b : Nat)).testBit t = _
    rw [Nat.testBit_and]
  rw [h, h1, h2] at this
  simp at this
theorem apartB_facts {ops : Array Oper} {a b : Oper} (h : apartB ops a b = true) {t : Nat} :
    (a.dst = some t → ¬ Looks ops b t) ∧ (a.dst = some t → b.dst ≠ some t) ∧ (b.dst = some t → ¬ Looks ops a t) := by
  unfold apartB at h
  rw [ite'_eq] at h
  split at h
  · rename_i h1
    have e1 := land_zero h1 t
    have e2 := land_zero h t
    have e3 : (Nat.lor (looksB ops b) (dstB b)).testBit t = ((looksB ops b).testBit t || (dstB b).testBit t) := by
      show ((_ ||| _ : Nat)).testBit t = _
      rw [Nat.testBit_or]
    rw [e3] at e1
    refine ⟨fun h2 h3 => e1 ⟨(dstB_bit a t).2 h2, ?_⟩, fun h2 h3 => e1 ⟨(dstB_bit a t).2 h2, ?_⟩, fun h2 h3 => e2 ⟨(dstB_bit b t).2 h2, looksB_bit h3⟩⟩
    · rw [looksB_bit h3]; rfl
    · rw [(dstB_bit b t).2 h3]; simp
  · cases h

/-! Hidden ranges. -/
def Asc : Nat → List Rec → Nat → Prop
  | b, [], top => b ≤ top
  | b, r :: l, top => b ≤ r.lo ∧ r.lo ≤ r.hi ∧ Asc r.hi l top

theorem hidden_ranges : ∀ (l : List Rec) (b top : Nat) (acc : List (Nat × Nat)), Asc b l top → Down b acc →
    Down top (rangesOf l acc) ∧ ∀ id, hidden id (rangesOf l acc) = true ↔ (∃ r ∈ l, r.lo ≤ id ∧ id < r.hi) ∨ hidden id acc = true := by
  intro l
  induction l with
  | nil => intro b top acc h1 h2; exact ⟨h2.mono h1, fun id => by simp [rangesOf]⟩
  | cons r l ih =>
    intro b top acc h1 h2
    obtain ⟨h3, h4, h5⟩ := h1
    show Down top (rangesOf l (ite' (Nat.beq r.lo r.hi) acc ((r.lo, r.hi) :: acc))) ∧ _
    have hd : Down r.hi (ite' (Nat.beq r.lo r.hi) acc ((r.lo, r.hi) :: acc)) := by
      rw [ite'_eq]
      split
      · exact h2.mono (by omega)
      · exact ⟨Nat.le_refl _, h4, h2.mono h3⟩
    obtain ⟨h6, h7⟩ := ih r.hi top _ h5 hd
    refine ⟨h6, fun id => ?_⟩
    show hidden id (rangesOf l (ite' (Nat.beq r.lo r.hi) acc ((r.lo, r.hi) :: acc))) = true ↔ _
    rw [h7]
    have hacc : hidden id (ite' (Nat.beq r.lo r.hi) acc ((r.lo, r.hi) :: acc)) = true ↔ (r.lo ≤ id ∧ id < r.hi) ∨ hidden id acc = true := by
      rw [ite'_eq]
      split
      · rename_i he
        rw [beq_eq] at he
        constructor
        · exact .inr
        · rintro (⟨h8, h9⟩ | h8)
          · omega
          · exact h8
      · rw [hidden_cons]
        by_cases h8 : r.hi ≤ id
        · rw [if_pos h8]
          constructor
          · intro h9; cases h9
          · rintro (⟨h9, h10⟩ | h9)
            · omega
            · rw [hidden_above h2 (by omega)] at h9; cases h9
        · rw [if_neg h8]
          by_cases h9 : r.lo ≤ id
          · rw [if_pos h9]; simp; left; omega
          · rw [if_neg h9]; simp; omega
    rw [hacc]
    simp only [List.mem_cons]
    constructor
    · rintro (⟨x, h8, h9⟩ | h8 | h8)
      · exact .inl ⟨x, .inr h8, h9⟩
      · exact .inl ⟨r, .inl rfl, h8⟩
      · exact .inr h8
    · rintro (⟨x, rfl | h8, h9⟩ | h8)
      · exact .inr (.inl h9)
      · exact .inl ⟨x, h8, h9⟩
      · exact .inr (.inr h8)

theorem hidFor_facts {kd : Nat × Nat} {next : Nat} {rg hid' : List (Nat × Nat)} (h : hidFor kd next rg = some hid') (hd : Down next rg) :
    Down next hid' ∧ (∀ id, id < next → hidden id rg = true → hidden id hid' = true) ∧ (kd.1 = 0 → ∀ id, id < next → hidden id hid' = true) ∧ (kd.1 = 1 → ∀ id, id < next → id ≠ kd.2 → hidden id hid' = true) ∧ kd.1 ≠ 3 := by
  unfold hidFor at h
  rw [ite'_eq] at h
  split at h
  · rename_i h0
    rw [beq_eq] at h0
    cases h
    have hall : ∀ id, id < next → hidden id [(0, next)] = true := by
      intro id hi
      rw [hidden_cons, if_neg (by simp only; omega), if_pos (Nat.zero_le _)]
    exact ⟨⟨Nat.le_refl _, Nat.zero_le _, trivial⟩, fun id hi _ => hall id hi, fun _ => hall, fun _ id hi _ => hall id hi, by omega⟩
  · rename_i h0
    rw [beq_eq] at h0
    rw [ite'_eq] at h
    split at h
    · rename_i h1
      rw [beq_eq] at h1
      rw [ite'_eq] at h
      split at h
      · cases h
      · rename_i h2
        obtain ⟨h3, h4⟩ := ite'_eq_some.1 h
        rw [blt_eq] at h3
        cases h4
        have hall : ∀ id, id < next → id ≠ kd.2 → hidden id [(Nat.succ kd.2, next), (0, kd.2)] = true := by
          intro id hi hne
          rw [hidden_cons, if_neg (by simp only; omega)]
          by_cases h5 : Nat.succ kd.2 ≤ id
          · rw [if_pos h5]
          · rw [if_neg h5, hidden_cons, if_neg (by simp only; omega), if_pos (Nat.zero_le _)]
        refine ⟨⟨Nat.le_refl _, h3, Nat.le_succ _, Nat.zero_le _, trivial⟩, fun id hi h5 => ?_, fun h5 => absurd h5 h0, fun _ => hall, by omega⟩
        by_cases he : id = kd.2
        · subst he; exact absurd h5 h2
        · exact hall id hi he
    · rename_i h1
      rw [beq_eq] at h1
      obtain ⟨h2, h3⟩ := ite'_eq_some.1 h
      rw [beq_eq] at h2
      cases h3
      exact ⟨hd, fun _ _ h4 => h4, fun h4 => absurd h4 h0, fun h4 => absurd h4 h1, by omega⟩

theorem insR_facts {b : Nat} : ∀ (l : List (Nat × Nat)) (n : Nat), Down n l → b < n → Down n (insR b l) ∧ ∀ id, hidden id (insR b l) = true ↔ id = b ∨ hidden id l = true := by
  intro l
  induction l with
  | nil =>
    intro n _ hb
    refine ⟨⟨hb, Nat.le_succ _, trivial⟩, fun id => ?_⟩
    show hidden id [(b, Nat.succ b)] = true ↔ _
    rw [hidden_cons]
    simp only
    by_cases h1 : Nat.succ b ≤ id
    · rw [if_pos h1]
      have : hidden id [] = false := rfl
      rw [this]; simp; omega
    · rw [if_neg h1]
      have : hidden id [] = false := rfl
      rw [this]
      by_cases h2 : b ≤ id
      · rw [if_pos h2]; simp; omega
      · rw [if_neg h2]; simp; omega
  | cons p r ih =>
    intro n hd hb
    obtain ⟨d1, d2, d3⟩ := hd
    show Down n (ite' (Nat.ble p.2 b) ((b, Nat.succ b) :: p :: r) (ite' (Nat.ble p.1 b) (p :: r) (p :: insR b r))) ∧ ∀ id, hidden id (ite' (Nat.ble p.2 b) ((b, Nat.succ b) :: p :: r) (ite' (Nat.ble p.1 b) (p :: r) (p :: insR b r))) = true ↔ _
    rw [ite'_eq, ite'_eq]
    simp only [ble_eq]
    split
    · rename_i h1
      refine ⟨⟨hb, Nat.le_succ _, h1, d2, d3⟩, fun id => ?_⟩
      rw [hidden_cons]
      simp only
      by_cases h2 : Nat.succ b ≤ id
      · rw [if_pos h2]
        have : hidden id (p :: r) = false := hidden_above (show Down b (p :: r) from ⟨h1, d2, d3⟩) (by omega)
        rw [this]; simp; omega
      · rw [if_neg h2]
        by_cases h3 : b ≤ id
        · rw [if_pos h3]; simp; left; omega
        · rw [if_neg h3]; simp; omega
    · rename_i h1
      split
      · rename_i h2
        refine ⟨⟨d1, d2, d3⟩, fun id => ⟨.inr, ?_⟩⟩
        rintro (h3 | h3)
        · subst h3; rw [hidden_cons, if_neg h1, if_pos h2]
        · exact h3
      · rename_i h2
        obtain ⟨k1, k2⟩ := ih p.1 d3 (by omega)
        refine ⟨⟨d1, d2, k1⟩, fun id => ?_⟩
        rw [hidden_cons, hidden_cons, ]
        by_cases h3 : p.2 ≤ id
        · rw [if_pos h3, if_pos h3]; simp; omega
        · rw [if_neg h3, if_neg h3]
          by_cases h4 : p.1 ≤ id
          · rw [if_pos h4, if_pos h4]; simp
          · rw [if_neg h4, if_neg h4]; exact k2 id

theorem insAll_facts {n : Nat} : ∀ (mine : List Rec) (l : List (Nat × Nat)), Down n l → Down n (insAll n mine l) ∧ (∀ id, hidden id l = true → hidden id (insAll n mine l) = true) ∧ ∀ r ∈ mine, r.kind = 1 → r.blk < n → hidden r.blk (insAll n mine l) = true := by
  intro mine
  induction mine with
  | nil => intro l hd; exact ⟨hd, fun id h => h, fun r hr => by cases hr⟩
  | cons r mine ih =>
    intro l hd
    obtain ⟨k1, k2, k3⟩ := ih l hd
    show Down n (ite' (ite' (Nat.beq r.kind 1) (Nat.blt r.blk n) false) (insR r.blk (insAll n mine l)) (insAll n mine l)) ∧ _
    have e : insAll n (r :: mine) l = ite' (ite' (Nat.beq r.kind 1) (Nat.blt r.blk n) false) (insR r.blk (insAll n mine l)) (insAll n mine l) := rfl
    rw [e, ite'_eq]
    split
    · rename_i hc
      have hc' : Nat.beq r.kind 1 = true ∧ Nat.blt r.blk n = true := by
        cases h1 : Nat.beq r.kind 1 with
        | false => rw [h1] at hc; cases hc
        | true => rw [h1] at hc; exact ⟨rfl, hc⟩
      rw [beq_eq, blt_eq] at hc'
      obtain ⟨q1, q2⟩ := insR_facts _ n k1 hc'.2
      refine ⟨q1, fun id h => (q2 id).2 (.inr (k2 id h)), fun x hx h1 h2 => ?_⟩
      rcases List.mem_cons.1 hx with rfl | hx
      · exact (q2 _).2 (.inl rfl)
      · exact (q2 _).2 (.inr (k3 x hx h1 h2))
    · rename_i hc
      refine ⟨k1, k2, fun x hx h1 h2 => ?_⟩
      rcases List.mem_cons.1 hx with rfl | hx
      · exfalso
        apply hc
        rw [beq_eq.2 h1]
        exact blt_eq.2 h2
      · exact k3 x hx h1 h2

theorem hidFor4_facts {kd : Nat × Nat} {mine : List Rec} {next : Nat} {rg hid' : List (Nat × Nat)} (h : hidFor4 kd mine next rg = some hid') (hd : Down next rg) :
    Down next hid' ∧ (∀ id, id < next → hidden id rg = true → hidden id hid' = true) ∧ (kd.1 = 0 → ∀ id, id < next → hidden id hid' = true) ∧ (kd.1 = 1 → ∀ id, id < next → id ≠ kd.2 → hidden id hid' = true) ∧ kd.1 ≠ 3 ∧
      (kd.1 = 4 → ∀ r ∈ mine, r.kind = 1 → r.blk < next → hidden r.blk hid' = true) := by
  unfold hidFor4 at h
  rw [ite'_eq] at h
  split at h
  · rename_i h1
    rw [beq_eq] at h1
    cases h
    obtain ⟨k1, k2, k3⟩ := insAll_facts mine rg hd
    exact ⟨k1, fun id _ h => k2 id h, fun h => by omega, fun h => by omega, by omega, fun _ => k3⟩
  · rename_i h1
    rw [beq_eq] at h1
    obtain ⟨k1, k2, k3, k4, k5⟩ := hidFor_facts h hd
    exact ⟨k1, k2, k3, k4, k5, fun h => absurd h h1⟩

theorem selK_or (P : Program) (call : CallK) (ops : Array Oper) (o : Oper) (mine : List Rec) (f : Fr) (m : T Blk) (next : Nat) (hid : List (Nat × Nat)) (kd : Nat × Nat) : selK P call ops o mine f m next hid kd = kd ∨ (kd.1 = 2 ∧ (selK P call ops o mine f m next hid kd).1 = 4) := by
  unfold selK
  rw [ite'_eq]
  split
  · rename_i hc
    have hc' : Nat.beq kd.1 2 = true := by
      cases h1 : Nat.beq kd.1 2 with
      | false => rw [h1] at hc; cases hc
      | true => rfl
    rw [beq_eq] at hc'
    generalize (Option.rec .fail (fun hid' => evOne P call ops o f ⟨m, next, BIG, hid'⟩) (hidFor kd next hid) : Res) = r
    cases r with
    | fail => exact .inl rfl
    | ok e f1 h1 =>
      show ite' (Nat.ble next h1.mw) kd (4, 0) = kd ∨ (kd.1 = 2 ∧ (ite' (Nat.ble next h1.mw) kd (4, 0)).1 = 4)
      rw [ite'_eq]
      split
      · exact .inl rfl
      · exact .inr ⟨hc', rfl⟩
  · exact .inl rfl

theorem compat_facts {a b : Rec} (h : compat a b = true) : (a.pu = true ∨ b.kind = 0 ∨ (a.kind = 1 ∧ b.kind = 1 ∧ a.blk ≠ b.blk)) ∧ (b.pu = true ∨ a.kind = 0 ∨ (a.kind = 1 ∧ b.kind = 1 ∧ a.blk ≠ b.blk) ∨ (a.kind = 1 ∧ b.kind = 4)) := by
  have hap : apartR a b = true → a.kind = 1 ∧ b.kind = 1 ∧ a.blk ≠ b.blk := by
    intro h
    unfold apartR at h
    simp only [ite'_eq] at h
    split at h
    · rename_i h1
      split at h
      · rename_i h2
        rw [beq_eq] at h1 h2
        refine ⟨h1, h2, ?_⟩
        rw [Bool.not_eq_true', beq_ne] at h
        exact h
      · cases h
    · cases h
  unfold compat at h
  rw [ite'_eq] at h
  split at h
  · rename_i h1
    constructor
    · rw [ite'_eq] at h1
      split at h1
      · exact .inl ‹_›
      · rw [ite'_eq] at h1
        split at h1
        · rename_i h2; exact .inr (.inl (beq_eq.1 h2))
        · exact .inr (.inr (hap h1))
    · rw [ite'_eq] at h
      split at h
      · exact .inl ‹_›
      · rw [ite'_eq] at h
        split at h
        · rename_i h2; exact .inr (.inl (beq_eq.1 h2))
        · rw [ite'_eq] at h
          split at h
          · exact .inr (.inr (.inl (hap ‹_›)))
          · rw [ite'_eq] at h
            split at h
            · rename_i h3; exact .inr (.inr (.inr ⟨beq_eq.1 h3, beq_eq.1 h⟩))
            · cases h
  · cases h

end Go.Ev

namespace Go.Ev
set_option linter.unusedVariables false
set_option linter.unusedSimpArgs false

/-! A region whose order is open: the evaluator's trace. -/

structure Entry (P : Program) (call : CallK) (ops : Array Oper) (F : Nat → Fr) (H Hh H' : Nat → Hp) (R : Nat → Rec) (i : Nat) : Prop where
  op : ∃ o kd, ops[i]? = some o ∧ hidFor4 kd ((incAt (allBits ops.toList []) i).map R) (H i).next (rangesOf ((incAt (allBits ops.toList []) i).map R) (H i).hid) = some (Hh i).hid ∧
    evOne P call ops o (F i) (Hh i) = .ok .normal (F (i + 1)) (H' i) ∧ R i = ⟨(H i).next, (H' i).next, Nat.ble (H i).next (H' i).mw, kd.1, kd.2⟩ ∧ (kd = kindOf (F i) o.op ∨ ((kindOf (F i) o.op).1 = 2 ∧ kd.1 = 4))
  hh : Hh i = ⟨(H i).m, (H i).next, BIG, (Hh i).hid⟩
  nx : H (i + 1) = ⟨(H' i).m, (H' i).next, ite' (Nat.ble (H i).next (H' i).mw) (H i).mw (minN (H i).mw (H' i).mw), (H i).hid⟩
  cp : ∀ j ∈ incAt (allBits ops.toList []) i, compat (R j) (R i) = true

theorem Entry.congr {P : Program} [NG P] {call : CallK} {ops : Array Oper} {F F2 : Nat → Fr} {H Hh H' H2 Hh2 H'2 : Nat → Hp} {R : Nat → Rec} {i : Nat} (e : Entry P call ops F H Hh H' R i)
    (h1 : F2 i = F i) (h2 : F2 (i + 1) = F (i + 1)) (h3 : H2 i = H i) (h4 : H2 (i + 1) = H (i + 1)) (h5 : Hh2 i = Hh i) (h6 : H'2 i = H' i) : Entry P call ops F2 H2 Hh2 H'2 R i :=
  ⟨by rw [h1, h2, h3, h5, h6]; exact e.op, by rw [h3, h5]; exact e.hh, by rw [h3, h4, h6]; exact e.nx, e.cp⟩

theorem recsOf_eq {recs : List Rec} {R : Nat → Rec} (hr : ∀ i r, recs[i]? = some r → R i = r) : ∀ (js : List Nat), (∀ j ∈ js, j < recs.length) → recsOf recs js = js.map R := by
  intro js
  induction js with
  | nil => intro _; rfl
  | cons j js ih =>
    intro hj
    show consO (nth recs j) (recsOf recs js) = _
    rw [ih fun x hx => hj x (.tail _ hx), nth_eq]
    have hl := hj j (.head _)
    rw [List.getElem?_eq_getElem hl, List.map_cons, hr j _ (List.getElem?_eq_getElem hl)]
    rfl

theorem trace_of {P : Program} [NG P] {call : CallK} {ops : Array Oper} : ∀ (l : List Oper) (k : Nat) (recs : List Rec) (f : Fr) (h : Hp) (e : Ex) (f' : Fr) (h' : Hp),
    evDraw P call ops l ((incs ops).drop k) recs f h = .ok e f' h' → ops.toList.drop k = l → recs.length = k →
    e = .normal ∧ ∃ (F : Nat → Fr) (H Hh H' : Nat → Hp) (R : Nat → Rec), F k = f ∧ H k = h ∧ F (k + l.length) = f' ∧ H (k + l.length) = h' ∧ (∀ i r, recs[i]? = some r → R i = r) ∧
      ∀ i, k ≤ i → i < k + l.length → Entry P call ops F H Hh H' R i := by
  intro l
  induction l with
  | nil =>
    intro k recs f h e f' h' he _ _
    cases he
    exact ⟨rfl, fun _ => f, fun _ => h, fun _ => h, fun _ => h, fun i => (recs[i]?).getD ⟨0, 0, true, 0, 0⟩, rfl, rfl, rfl, rfl, fun i r hi => by simp [hi], fun i h1 h2 => by simp at h2; omega⟩
  | cons o l ih =>
    intro k recs f h e f' h' he hl hk
    obtain ⟨m, next, mw, hid⟩ := h
    have ho : ops[k]? = some o := by
      have : (ops.toList.drop k)[0]? = some o := by rw [hl]; rfl
      rw [List.getElem?_drop] at this
      simpa using this
    have hkn : k < ops.size := by
      rcases Nat.lt_or_ge k ops.size with h | h
      · exact h
      · rw [Array.getElem?_eq_none h] at ho; cases ho
    have hl' : ops.toList.drop (k + 1) = l := by
      rw [← List.drop_drop, hl]; rfl
    have hinc : (incs ops).drop k = incAt (allBits ops.toList []) k :: (incs ops).drop (k + 1) := by
      have hlen : k < (incs ops).length := by unfold incs; simpa using hkn
      have hget : (incs ops)[k]? = some (incAt (allBits ops.toList []) k) := by
        unfold incs
        rw [List.getElem?_map, List.getElem?_range hkn]; rfl
      rw [List.drop_eq_getElem_cons hlen]
      congr 1
      exact Option.some.inj (by rw [← List.getElem?_eq_getElem hlen, hget])
    replace he : drawGo P call ops o (recsOf recs (headL ((incs ops).drop k))) recs f m next mw hid (evDraw P call ops l (List.tail ((incs ops).drop k)))
        (selK P call ops o (recsOf recs (headL ((incs ops).drop k))) f m next (rangesOf (recsOf recs (headL ((incs ops).drop k))) hid) (kindOf f o.op)) = .ok e f' h' := he
    rw [hinc] at he
    simp only [headL, List.tail_cons] at he
    have hsel := selK_or P call ops o (recsOf recs (incAt (allBits ops.toList []) k)) f m next (rangesOf (recsOf recs (incAt (allBits ops.toList []) k)) hid) (kindOf f o.op)
    generalize selK P call ops o (recsOf recs (incAt (allBits ops.toList []) k)) f m next (rangesOf (recsOf recs (incAt (allBits ops.toList []) k)) hid) (kindOf f o.op) = kd at he hsel
    unfold drawGo at he
    cases hh : hidFor4 kd (recsOf recs (incAt (allBits ops.toList []) k)) next (rangesOf (recsOf recs (incAt (allBits ops.toList []) k)) hid) with
    | none => rw [hh] at he; cases he
    | some hid' =>
      rw [hh] at he
      simp only at he
      cases hr : evOne P call ops o f ⟨m, next, BIG, hid'⟩ with
      | fail => rw [hr] at he; cases he
      | ok e1 f1 h1 =>
        rw [hr] at he
        cases e1 with
        | exit => cases he
        | ret => cases he
        | panic => cases he
        | normal =>
          obtain ⟨m1, next1, mw1, hid1⟩ := h1
          replace he : ite' (allL (fun a => compat a ⟨next, next1, Nat.ble next mw1, kd.1, kd.2⟩) (recsOf recs (incAt (allBits ops.toList []) k)))
            (evDraw P call ops l ((incs ops).drop (k + 1)) (appL recs [⟨next, next1, Nat.ble next mw1, kd.1, kd.2⟩]) f1
              ⟨m1, next1, ite' (Nat.ble next mw1) mw (minN mw mw1), hid⟩) .fail = .ok e f' h' := he
          rw [ite'_eq] at he
          split at he
          · rename_i hc
            rw [appL_eq] at he
            obtain ⟨h2, F, H, Hh, H', R, h3, h4, h5, h6, h7, h8⟩ := ih (k + 1) _ f1 _ e f' h' he hl' (by simp [hk])
            have hRk : R k = ⟨next, next1, Nat.ble next mw1, kd.1, kd.2⟩ := h7 k _ (by rw [← hk]; simp)
            have hRl : ∀ i r, recs[i]? = some r → R i = r := by
              intro i r hi
              refine h7 i r ?_
              have : i < recs.length := by
                rcases Nat.lt_or_ge i recs.length with h | h
                · exact h
                · rw [List.getElem?_eq_none h] at hi; cases hi
              rw [List.getElem?_append_left this]; exact hi
            have hmine : recsOf recs (incAt (allBits ops.toList []) k) = (incAt (allBits ops.toList []) k).map R :=
              recsOf_eq hRl _ fun j hj => by rw [hk]; exact (mem_incAt.1 hj).1
            rw [hmine] at hh hc
            refine ⟨h2, fun i => if i = k then f else F i, fun i => if i = k then ⟨m, next, mw, hid⟩ else H i, fun i => if i = k then ⟨m, next, BIG, hid'⟩ else Hh i, fun i => if i = k then ⟨m1, next1, mw1, hid1⟩ else H' i, R, ?_, ?_, ?_, ?_, hRl, ?_⟩
            · simp
            · simp
            · simp only [List.length_cons]
              rw [if_neg (by omega), ← h5]; congr 1; omega
            · simp only [List.length_cons]
              rw [if_neg (by omega), ← h6]; congr 1; omega
            · intro i h9 h10
              by_cases hik : i = k
              · subst hik
                refine ⟨⟨o, kd, ho, ?_, ?_, ?_, ?_⟩, ?_, ?_, ?_⟩
                · simpa using hh
                · simp only [if_true, if_neg (show ¬ i + 1 = i from by omega), h3]; exact hr
                · simp only [if_true]; exact hRk
                · simp only [if_true]; exact hsel
                · simp
                · simp only [if_true, if_neg (show ¬ i + 1 = i from by omega), h4]
                · intro j hj
                  rw [allL_eq, List.all_eq_true] at hc
                  rw [hRk]
                  exact hc _ (List.mem_map.2 ⟨j, hj, rfl⟩)
              · refine (h8 i (by omega) (by simp only [List.length_cons] at h10; omega)).congr ?_ ?_ ?_ ?_ ?_ ?_
                · exact if_neg hik
                · exact if_neg (by omega)
                · exact if_neg hik
                · exact if_neg (by omega)
                · exact if_neg hik
                · exact if_neg hik
          · cases he

end Go.Ev
