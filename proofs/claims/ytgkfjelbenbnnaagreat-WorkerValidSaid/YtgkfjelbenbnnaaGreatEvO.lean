import Derived.Test.YtgkfjelbenbnnaaGreatEvN
namespace Go.Ev
set_option linter.unusedVariables false
set_option linter.unusedSimpArgs false

/-! Plain facts for the regions whose order is open. -/

open Classical in
/-- What the last of the steps in D that touch a place has left there. -/
noncomputable def lk {α β : Type} (D : Nat → Prop) (m : Nat → α → β) (T : Nat → α → Prop) : Nat → α → β
  | 0 => m 0
  | k + 1 => fun x => if D k ∧ T k x then m (k + 1) x else lk D m T k x

section
variable {α β : Type} {D : Nat → Prop} {m : Nat → α → β} {T : Nat → α → Prop}

theorem lk_at {n i : Nat} {x : α} (hm : ∀ k, k < i → ¬ T k x → m (k + 1) x = m k x) (hi : i ≤ n) (h1 : ∀ j, j < i → T j x → D j) (h2 : ∀ k, i ≤ k → k < n → D k → ¬ T k x) : lk D m T n x = m i x := by
  have low : ∀ k, k ≤ i → lk D m T k x = m k x := by
    intro k
    induction k with
    | zero => intro _; rfl
    | succ k ih =>
      intro hk
      unfold lk
      split
      · rfl
      · rename_i hn
        rw [ih (by omega), hm k (by omega)]
        intro ht; exact hn ⟨h1 k (by omega) ht, ht⟩
  have high : ∀ d, i + d ≤ n → lk D m T (i + d) x = m i x := by
    intro d
    induction d with
    | zero => intro _; exact low i (Nat.le_refl i)
    | succ d ih =>
      intro hd
      show lk D m T (i + d + 1) x = _
      unfold lk
      rw [if_neg fun hc => h2 (i + d) (by omega) (by omega) hc.1 hc.2]
      exact ih (by omega)
  have := high (n - i) (by omega)
  rwa [show i + (n - i) = n from by omega] at this

theorem lk_put {n i : Nat} {x : α} (hi : i < n) (hD : ¬ D i) (h : ∀ k, i < k → k < n → D k → T i x → ¬ T k x) [Decidable (T i x)] :
    lk (fun k => D k ∨ k = i) m T n x = if T i x then m (i + 1) x else lk D m T n x := by
  have low : ∀ k, k ≤ i → lk (fun k => D k ∨ k = i) m T k x = lk D m T k x := by
    intro k
    induction k with
    | zero => intro _; rfl
    | succ k ih =>
      intro hk
      unfold lk
      rw [ih (by omega)]
      by_cases hc : D k ∧ T k x
      · rw [if_pos hc, if_pos ⟨.inl hc.1, hc.2⟩]
      · rw [if_neg hc, if_neg]
        rintro ⟨h1 | h1, h2⟩
        · exact hc ⟨h1, h2⟩
        · omega
  have high : ∀ d, i + 1 + d ≤ n → lk (fun k => D k ∨ k = i) m T (i + 1 + d) x = if T i x then m (i + 1) x else lk D m T (i + 1 + d) x := by
    intro d
    induction d with
    | zero =>
      intro _
      show lk _ m T (i + 1) x = if T i x then m (i + 1) x else lk D m T (i + 1) x
      unfold lk
      rw [low i (Nat.le_refl i)]
      by_cases ht : T i x
      · simp [ht]
      · simp [ht]
    | succ d ih =>
      intro hd
      show lk _ m T (i + 1 + d + 1) x = if T i x then m (i + 1) x else lk D m T (i + 1 + d + 1) x
      unfold lk
      rw [ih (by omega)]
      by_cases hc : D (i + 1 + d) ∧ T (i + 1 + d) x
      · rw [if_pos ⟨.inl hc.1, hc.2⟩, if_pos hc, if_neg fun ht => h _ (by omega) (by omega) hc.1 ht hc.2]
      · rw [if_neg hc, if_neg]
        rintro ⟨h1 | h1, h2⟩
        · exact hc ⟨h1, h2⟩
        · omega
  have := high (n - (i + 1)) (by omega)
  rwa [show i + 1 + (n - (i + 1)) = n from by omega] at this

theorem lk_from (n : Nat) (x : α) : lk D m T n x = m 0 x ∨ ∃ k, k < n ∧ D k ∧ T k x ∧ lk D m T n x = m (k + 1) x := by
  induction n with
  | zero => exact .inl rfl
  | succ n ih =>
    unfold lk
    split
    · rename_i hc; exact .inr ⟨n, by omega, hc.1, hc.2, rfl⟩
    · rcases ih with h | ⟨k, h1, h2, h3, h4⟩
      · exact .inl h
      · exact .inr ⟨k, by omega, h2, h3, h4⟩

theorem seq_from {n : Nat} {x : α} (hm : ∀ k, k < n → ¬ T k x → m (k + 1) x = m k x) : m n x = m 0 x ∨ ∃ k, k < n ∧ T k x ∧ m n x = m (k + 1) x := by
  induction n with
  | zero => exact .inl rfl
  | succ n ih =>
    by_cases ht : T n x
    · exact .inr ⟨n, by omega, ht, rfl⟩
    · rw [hm n (by omega) ht]
      rcases ih fun k hk => hm k (by omega) with h | ⟨k, h1, h2, h3⟩
      · exact .inl h
      · exact .inr ⟨k, by omega, h2, h3⟩
end

/-! Bits. -/
def bitOf (bs : List Nat) (i j : Nat) : Bool := ((bs[i]?).getD 0).testBit j
noncomputable def predL (bs : List Nat) (l : List Edge) : Nat := List.rec 0 (fun e _ ih => edgeBits bs e ih) l

theorem orec (x : Option Nat) : (Option.rec 0 (fun n => n) x : Nat) = x.getD 0 := by cases x <;> rfl

theorem predBits_bit (bs : List Nat) (o : Oper) (j : Nat) : (predBits bs o).testBit j = true ↔ ∃ e ∈ o.after.toList, Region.binds .any e = true ∧ (e.on = j ∨ bitOf bs e.on j = true) := by
  show (predL bs o.after.toList).testBit j = true ↔ _
  induction o.after.toList with
  | nil => simp [predL]
  | cons e l ih =>
    show (edgeBits bs e (predL bs l)).testBit j = true ↔ _
    unfold edgeBits
    rw [ite'_eq]
    by_cases hb : Region.binds .any e = true
    · rw [if_pos hb]
      simp only [orec, nth_eq]
      have h1 : (Nat.lor (Nat.lor (predL bs l) (Nat.shiftLeft 1 e.on)) ((bs[e.on]?).getD 0)).testBit j =
          (((predL bs l).testBit j || (Nat.shiftLeft 1 e.on).testBit j) || ((bs[e.on]?).getD 0).testBit j) := by
        show (((_ ||| _) ||| _ : Nat)).testBit j = _
        rw [Nat.testBit_or, Nat.testBit_or]
      have h2 : (Nat.shiftLeft 1 e.on).testBit j = decide (e.on = j) := by
        show (1 <<< e.on).testBit j = _
        rw [Nat.one_shiftLeft, Nat.testBit_two_pow]
      rw [h1, h2, Bool.or_eq_true, Bool.or_eq_true, ih]
      simp only [List.mem_cons, decide_eq_true_eq]
      constructor
      · rintro ((⟨e', h3, h4⟩ | h3) | h3)
        · exact ⟨e', .inr h3, h4⟩
        · exact ⟨e, .inl rfl, hb, .inl h3⟩
        · exact ⟨e, .inl rfl, hb, .inr h3⟩
      · rintro ⟨e', rfl | h3, h4, h5⟩
        · rcases h5 with h5 | h5
          · exact .inl (.inr h5)
          · exact .inr h5
        · exact .inl (.inl ⟨e', h3, h4, h5⟩)
    · rw [if_neg hb, ih]
      constructor
      · rintro ⟨e', h3, h4⟩; exact ⟨e', .tail _ h3, h4⟩
      · rintro ⟨e', h3, h4⟩
        rcases List.mem_cons.1 h3 with rfl | h3
        · exact absurd h4.1 hb
        · exact ⟨e', h3, h4⟩

theorem allBits_cons (o : Oper) (l : List Oper) (bs : List Nat) : allBits (o :: l) bs = allBits l (bs ++ [predBits bs o]) := by
  show (Nat.rec (motive := fun _ => List Nat) (allBits l (appL bs [0])) (fun n _ => allBits l (appL bs [Nat.succ n])) (predBits bs o)) = _
  rw [← appL_eq]
  cases predBits bs o <;> rfl

theorem allBits_get : ∀ (l : List Oper) (bs : List Nat), (∃ r, allBits l bs = bs ++ r) ∧ ∀ i o, l[i]? = some o → (allBits l bs)[bs.length + i]? = some (predBits ((allBits l bs).take (bs.length + i)) o) := by
  intro l
  induction l with
  | nil => intro bs; exact ⟨⟨[], by simp [allBits]⟩, by intro i o h; simp at h⟩
  | cons o l ih =>
    intro bs
    rw [allBits_cons]
    obtain ⟨⟨r, h1⟩, h2⟩ := ih (bs ++ [predBits bs o])
    refine ⟨⟨predBits bs o :: r, by rw [h1]; simp⟩, ?_⟩
    intro i o' hi
    cases i with
    | zero =>
      simp at hi; subst hi
      rw [h1]
      simp
    | succ i =>
      have := h2 i o' (by simpa using hi)
      rw [List.length_append, List.length_singleton] at this
      rwa [show bs.length + (i + 1) = bs.length + 1 + i from by omega]

/-- What comes before the i-th operation. -/
theorem bit_iff {ops : Array Oper} {i j : Nat} {o : Oper} (ho : ops[i]? = some o) (he : ∀ e ∈ o.after.toList, Region.binds .any e = true → e.on < i) :
    bitOf (allBits ops.toList []) i j = true ↔ ∃ e ∈ o.after.toList, Region.binds .any e = true ∧ (e.on = j ∨ bitOf (allBits ops.toList []) e.on j = true) := by
  have := (allBits_get ops.toList []).2 i o (by simpa using ho)
  simp only [List.length_nil, Nat.zero_add] at this
  conv => lhs; unfold bitOf
  rw [this, Option.getD_some, predBits_bit]
  have key : ∀ e ∈ o.after.toList, Region.binds .any e = true → bitOf ((allBits ops.toList []).take i) e.on j = bitOf (allBits ops.toList []) e.on j := by
    intro e h1 h2
    unfold bitOf
    rw [List.getElem?_take, if_pos (he e h1 h2)]
  constructor
  · rintro ⟨e, h1, h2, h3⟩
    rw [key e h1 h2] at h3
    exact ⟨e, h1, h2, h3⟩
  · rintro ⟨e, h1, h2, h3⟩
    refine ⟨e, h1, h2, ?_⟩
    rw [key e h1 h2]; exact h3

theorem mem_incAt {bs : List Nat} {i j : Nat} : j ∈ incAt bs i ↔ j < i ∧ bitOf bs i j = false := by
  unfold incAt
  rw [List.mem_filter, List.mem_range, orec, nth_eq]
  unfold bitOf
  simp

theorem edgesOk_at : ∀ (l : List Oper) (k : Nat), edgesOk l k = true → ∀ i o, l[i]? = some o → ∀ e ∈ o.after.toList, Region.binds .any e = true → e.on < k + i := by
  intro l
  induction l with
  | nil => intro k _ i o h; simp at h
  | cons o l ih =>
    intro k hk i o' hi e he hb
    have hk : ite' (allL (fun e => ite' (Region.binds .any e) (Nat.blt e.on k) true) o.after.toList) (edgesOk l (Nat.succ k)) false = true := hk
    rw [ite'_eq] at hk
    split at hk
    · rename_i h1
      cases i with
      | zero =>
        simp at hi; subst hi
        rw [allL_eq, List.all_eq_true] at h1
        have := h1 e he
        rw [ite'_eq, if_pos hb, blt_eq] at this
        omega
      | succ i =>
        have := ih (k + 1) hk i o' (by simpa using hi) e he hb
        omega
    · cases hk

theorem pairsOk_at {ops : Array Oper} : ∀ (l : List Oper) (inc : List (List Nat)), pairsOk ops l inc = true → ∀ (i : Nat) (o : Oper) (js : List Nat), l[i]? = some o → inc[i]? = some js → ∀ j ∈ js, ∃ p, ops[j]? = some p ∧ apartB ops p o = true := by
  intro l
  induction l with
  | nil => intro inc _ i o js h; simp at h
  | cons o l ih =>
    intro inc hk i o' js hi hj j hm
    have hk : ite' (allL (fun j => Option.rec false (fun p => apartB ops p o) (nth ops.toList j)) (List.rec [] (fun a _ _ => a) inc)) (pairsOk ops l (List.tail inc)) false = true := hk
    rw [ite'_eq] at hk
    split at hk
    · rename_i h1
      cases inc with
      | nil => simp at hj
      | cons a inc =>
        cases i with
        | zero =>
          simp at hi hj; subst hi hj
          rw [allL_eq, List.all_eq_true] at h1
          have := h1 j hm
          rw [nth_eq] at this
          cases hp : ops.toList[j]? with
          | none => rw [hp] at this; cases this
          | some p =>
            rw [hp] at this
            exact ⟨p, by simpa using hp, this⟩
        | succ i => exact ih inc hk i o' js (by simpa using hi) (by simpa using hj) j hm
    · cases hk

/-- The temporaries that an operation looks at. -/
def Looks (ops : Array Oper) (o : Oper) (t : Nat) : Prop := Operand.tmp t ∈ o.op.operands ∨ ∃ j want p, o.guard = some (j, want) ∧ ops[j]? = some p ∧ p.dst = some t

theorem dstB_bit (o : Oper) (t : Nat) : (dstB o).testBit t = true ↔ o.dst = some t := by
  unfold dstB
  cases o.dst with
  | none => simp
  | some d =>
    show (1 <<< d).testBit t = true ↔ _
    rw [Nat.one_shiftLeft, Nat.testBit_two_pow]
    simp
theorem opndB_bit (l : List Operand) (t : Nat) : (opndB l).testBit t = true ↔ Operand.tmp t ∈ l := by
  induction l with
  | nil => simp [opndB]
  | cons x l ih =>
    show (Nat.lor (tmpB x) (opndB l)).testBit t = true ↔ _
    have : (Nat.lor (tmpB x) (opndB l)).testBit t = ((tmpB x).testBit t || (opndB l).testBit t) := by
      show ((_ ||| _ : Nat)).testBit t = _
      rw [Nat.testBit_or]
    rw [this, Bool.or_eq_true, ih, List.mem_cons]
    have hx : (tmpB x).testBit t = true ↔ Operand.tmp t = x := by
      cases x with
      | tmp d =>
        show (1 <<< d).testBit t = true ↔ _
        rw [Nat.one_shiftLeft, Nat.testBit_two_pow]
        simp; exact eq_comm
      | _ => simp [tmpB]
    rw [hx]
theorem looksB_bit {ops : Array Oper} {o : Oper} {t : Nat} (h : Looks ops o t) : (looksB ops o).testBit t = true := by
  have : (looksB ops o).testBit t = ((guardB ops o.guard).testBit t || (opndB o.op.operands.toList).testBit t) := by
    show ((_ ||| _ : Nat)).testBit t = _
    rw [Nat.testBit_or]
  rw [this, Bool.or_eq_true]
  rcases h with h | ⟨j, want, p, h1, h2, h3⟩
  · exact .inr ((opndB_bit _ _).2 (by simpa using h))
  · left
    rw [h1]
    show (Option.rec 0 dstB (nth ops.toList j) : Nat).testBit t = true
    rw [nth_eq, Array.getElem?_toList, h2]
    exact (dstB_bit p t).2 h3
theorem land_zero {a b : Nat} (h : Nat.beq (Nat.land a b) 0 = true) (t : Nat) : ¬ (a.testBit t = true ∧ b.testBit t = true) := by
  rw [beq_eq] at h
  rintro ⟨h1, h2⟩
  have : (Nat.land a b).testBit t = (a.testBit t && b.testBit t) := by
    show ((a &&& b : Nat)).testBit t = _
    rw [Nat.testBit_and]
  rw [h, h1, h2] at this
  simp at this
theorem apartB_facts {ops : Array Oper} {a b : Oper} (h : apartB ops a b = true) {t : Nat} :
    (a.dst = some t → ¬ Looks ops b t) ∧ (a.dst = some t → b.dst ≠ some t) ∧ (b.dst = some t → ¬ Looks ops a t) := by
  unfold apartB at h
  rw [ite'_eq] at h
  split at h
  · rename_i h1
    have e1 := land_zero h1 t
    have e2 := land_zero h t
    have e3 : (Nat.lor (looksB ops b) (dstB b)).testBit t = ((looksB ops b).testBit t || (dstB b).testBit t) := by
      show ((_ ||| _ : Nat)).testBit t = _
      rw [Nat.testBit_or]
    rw [e3] at e1
    refine ⟨fun h2 h3 => e1 ⟨(dstB_bit a t).2 h2, ?_⟩, fun h2 h3 => e1 ⟨(dstB_bit a t).2 h2, ?_⟩, fun h2 h3 => e2 ⟨(dstB_bit b t).2 h2, looksB_bit h3⟩⟩
    · rw [looksB_bit h3]; rfl
    · rw [(dstB_bit b t).2 h3]; simp
  · cases h

/-! Hidden ranges. -/
def Asc : Nat → List Rec → Nat → Prop
  | b, [], top => b ≤ top
  | b, r :: l, top => b ≤ r.lo ∧ r.lo ≤ r.hi ∧ Asc r.hi l top

theorem hidden_ranges : ∀ (l : List Rec) (b top : Nat) (acc : List (Nat × Nat)), Asc b l top → Down b acc →
    Down top (rangesOf l acc) ∧ ∀ id, hidden id (rangesOf l acc) = true ↔ (∃ r ∈ l, r.lo ≤ id ∧ id < r.hi) ∨ hidden id acc = true := by
  intro l
  induction l with
  | nil => intro b top acc h1 h2; exact ⟨h2.mono h1, fun id => by simp [rangesOf]⟩
  | cons r l ih =>
    intro b top acc h1 h2
    obtain ⟨h3, h4, h5⟩ := h1
    show Down top (rangesOf l (ite' (Nat.beq r.lo r.hi) acc ((r.lo, r.hi) :: acc))) ∧ _
    have hd : Down r.hi (ite' (Nat.beq r.lo r.hi) acc ((r.lo, r.hi) :: acc)) := by
      rw [ite'_eq]
      split
      · exact h2.mono (by omega)
      · exact ⟨Nat.le_refl _, h4, h2.mono h3⟩
    obtain ⟨h6, h7⟩ := ih r.hi top _ h5 hd
    refine ⟨h6, fun id => ?_⟩
    show hidden id (rangesOf l (ite' (Nat.beq r.lo r.hi) acc ((r.lo, r.hi) :: acc))) = true ↔ _
    rw [h7]
    have hacc : hidden id (ite' (Nat.beq r.lo r.hi) acc ((r.lo, r.hi) :: acc)) = true ↔ (r.lo ≤ id ∧ id < r.hi) ∨ hidden id acc = true := by
      rw [ite'_eq]
      split
      · rename_i he
        rw [beq_eq] at he
        constructor
        · exact .inr
        · rintro (⟨h8, h9⟩ | h8)
          · omega
          · exact h8
      · rw [hidden_cons]
        by_cases h8 : r.hi ≤ id
        · rw [if_pos h8]
          constructor
          · intro h9; cases h9
          · rintro (⟨h9, h10⟩ | h9)
            · omega
            · rw [hidden_above h2 (by omega)] at h9; cases h9
        · rw [if_neg h8]
          by_cases h9 : r.lo ≤ id
          · rw [if_pos h9]; simp; left; omega
          · rw [if_neg h9]; simp; omega
    rw [hacc]
    simp only [List.mem_cons]
    constructor
    · rintro (⟨x, h8, h9⟩ | h8 | h8)
      · exact .inl ⟨x, .inr h8, h9⟩
      · exact .inl ⟨r, .inl rfl, h8⟩
      · exact .inr h8
    · rintro (⟨x, rfl | h8, h9⟩ | h8)
      · exact .inr (.inl h9)
      · exact .inl ⟨x, h8, h9⟩
      · exact .inr (.inr h8)

theorem hidFor_facts {kd : Nat × Nat} {next : Nat} {rg hid' : List (Nat × Nat)} (h : hidFor kd next rg = some hid') (hd : Down next rg) :
    Down next hid' ∧ (∀ id, id < next → hidden id rg = true → hidden id hid' = true) ∧ (kd.1 = 0 → ∀ id, id < next → hidden id hid' = true) ∧ (kd.1 = 1 → ∀ id, id < next → id ≠ kd.2 → hidden id hid' = true) ∧ kd.1 ≠ 3 := by
  unfold hidFor at h
  rw [ite'_eq] at h
  split at h
  · rename_i h0
    rw [beq_eq] at h0
    cases h
    have hall : ∀ id, id < next → hidden id [(0, next)] = true := by
      intro id hi
      rw [hidden_cons, if_neg (by simp only; omega), if_pos (Nat.zero_le _)]
    exact ⟨⟨Nat.le_refl _, Nat.zero_le _, trivial⟩, fun id hi _ => hall id hi, fun _ => hall, fun _ id hi _ => hall id hi, by omega⟩
  · rename_i h0
    rw [beq_eq] at h0
    rw [ite'_eq] at h
    split at h
    · rename_i h1
      rw [beq_eq] at h1
      rw [ite'_eq] at h
      split at h
      · cases h
      · rename_i h2
        obtain ⟨h3, h4⟩ := ite'_eq_some.1 h
        rw [blt_eq] at h3
        cases h4
        have hall : ∀ id, id < next → id ≠ kd.2 → hidden id [(Nat.succ kd.2, next), (0, kd.2)] = true := by
          intro id hi hne
          rw [hidden_cons, if_neg (by simp only; omega)]
          by_cases h5 : Nat.succ kd.2 ≤ id
          · rw [if_pos h5]
          · rw [if_neg h5, hidden_cons, if_neg (by simp only; omega), if_pos (Nat.zero_le _)]
        refine ⟨⟨Nat.le_refl _, h3, Nat.le_succ _, Nat.zero_le _, trivial⟩, fun id hi h5 => ?_, fun h5 => absurd h5 h0, fun _ => hall, by omega⟩
        by_cases he : id = kd.2
        · subst he; exact absurd h5 h2
        · exact hall id hi he
    · rename_i h1
      rw [beq_eq] at h1
      obtain ⟨h2, h3⟩ := ite'_eq_some.1 h
      rw [beq_eq] at h2
      cases h3
      exact ⟨hd, fun _ _ h4 => h4, fun h4 => absurd h4 h0, fun h4 => absurd h4 h1, by omega⟩

theorem compat_facts {a b : Rec} (h : compat a b = true) : (a.pu = true ∨ b.kind = 0 ∨ (a.kind = 1 ∧ b.kind = 1 ∧ a.blk ≠ b.blk)) ∧ (b.pu = true ∨ a.kind = 0 ∨ (a.kind = 1 ∧ b.kind = 1 ∧ a.blk ≠ b.blk)) := by
  have hap : apartR a b = true → a.kind = 1 ∧ b.kind = 1 ∧ a.blk ≠ b.blk := by
    intro h
    unfold apartR at h
    simp only [ite'_eq] at h
    split at h
    · rename_i h1
      split at h
      · rename_i h2
        rw [beq_eq] at h1 h2
        refine ⟨h1, h2, ?_⟩
        rw [Bool.not_eq_true', beq_ne] at h
        exact h
      · cases h
    · cases h
  have half : ∀ (x y : Rec), ite' x.pu true (ite' (Nat.beq y.kind 0) true (apartR a b)) = true → x.pu = true ∨ y.kind = 0 ∨ (a.kind = 1 ∧ b.kind = 1 ∧ a.blk ≠ b.blk) := by
    intro x y h
    rw [ite'_eq] at h
    split at h
    · exact .inl ‹_›
    · rw [ite'_eq] at h
      split at h
      · rename_i h1; exact .inr (.inl (beq_eq.1 h1))
      · exact .inr (.inr (hap h))
  unfold compat at h
  rw [ite'_eq] at h
  split at h
  · rename_i h1; exact ⟨half a b h1, half b a h⟩
  · cases h

end Go.Ev
