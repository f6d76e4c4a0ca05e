import Derived.Test.YtgkfjelbenbnnaaGreatEvB
namespace Go.Ev
set_option linter.unusedVariables false
set_option linter.unusedSimpArgs false
variable {U : Ids}

/-! The abstract heap: what can be seen, what holds of it, its steps. -/

/-- Ranges, the later ones on top, all below n. -/
def Down : Nat → List (Nat × Nat) → Prop
  | _, [] => True
  | n, p :: ps => p.2 ≤ n ∧ p.1 ≤ p.2 ∧ Down p.1 ps

theorem Down.mono {n m : Nat} {l : List (Nat × Nat)} (h : Down n l) (hm : n ≤ m) : Down m l := by
  cases l with
  | nil => trivial
  | cons p ps => exact ⟨Nat.le_trans h.1 hm, h.2⟩

theorem hidden_cons (n : Nat) (p : Nat × Nat) (ps : List (Nat × Nat)) : hidden n (p :: ps) = if p.2 ≤ n then false else if p.1 ≤ n then true else hidden n ps := by
  show ite' (Nat.ble p.2 n) false (ite' (Nat.ble p.1 n) true (hidden n ps)) = _
  rw [ite'_eq, ite'_eq]
  simp only [ble_eq]

theorem hidden_above {n : Nat} {l : List (Nat × Nat)} (h : Down n l) {m : Nat} (hm : n ≤ m) : hidden m l = false := by
  cases l with
  | nil => rfl
  | cons p ps => rw [hidden_cons, if_pos (Nat.le_trans h.1 hm)]

/-- The numbers that are known: U: what is not. -/
def Vis (U : Ids) (h : Hp) : Ids := fun id => id < h.next ∧ ¬ U id

theorem look_eq (h : Hp) (id : Nat) : h.look id = if hidden id h.hid = true then none else h.m.get id := by
  show ite' (hidden id h.hid) none (h.m.get id) = _
  rw [ite'_eq]
theorem look_vis {h : Hp} {id : Nat} {b : Blk} (hl : h.look id = some b) : hidden id h.hid = false ∧ h.m.get id = some b := by
  rw [look_eq] at hl
  split at hl
  · cases hl
  · rename_i hn; exact ⟨by simpa using hn, hl⟩
theorem look_of {h : Hp} {id : Nat} (hh : hidden id h.hid = false) : h.look id = h.m.get id := by
  rw [look_eq, if_neg (by simp [hh])]

/-- What always holds of an abstract heap. -/
structure HpOk (U : Ids) (h : Hp) : Prop where
  nx : 1000 ≤ h.next
  top : ∀ id, h.next ≤ id → h.m.get id = none
  down : Down h.next h.hid
  st : ∀ id b, h.look id = some b → StB (Vis U h) b
  unk : ∀ id, U id → 1000 ≤ id ∧ id < h.next ∧ hidden id h.hid = true

theorem HpOk.lt {h : Hp} (ok : HpOk U h) {id : Nat} {b : Blk} (hl : h.look id = some b) : id < h.next := by
  rcases Nat.lt_or_ge id h.next with h1 | h1
  · exact h1
  · have := ok.top id h1
    rw [(look_vis hl).2] at this; cases this
theorem HpOk.vis {h : Hp} (ok : HpOk U h) {id : Nat} {b : Blk} (hl : h.look id = some b) : Vis U h id := ⟨ok.lt hl, fun hu => by have := (ok.unk id hu).2.2; rw [(look_vis hl).1] at this; cases this⟩

/-- A step of the abstract heap. -/
structure Step (U : Ids) (h h' : Hp) : Prop where
  next : h.next ≤ h'.next
  mw : h'.mw ≤ h.mw
  hid : h'.hid = h.hid
  dark : ∀ id, id < h.next → hidden id h.hid = true → h'.m.get id = h.m.get id
  ok : HpOk U h'

theorem Step.refl {h : Hp} (ok : HpOk U h) : Step U h h := ⟨Nat.le_refl _, Nat.le_refl _, rfl, fun _ _ _ => rfl, ok⟩
theorem Step.trans {a b c : Hp} (h : Step U a b) (k : Step U b c) : Step U a c :=
  ⟨Nat.le_trans h.next k.next, Nat.le_trans k.mw h.mw, k.hid.trans h.hid,
    fun id hi hh => (k.dark id (Nat.lt_of_lt_of_le hi h.next) (by rw [h.hid]; exact hh)).trans (h.dark id hi hh), k.ok⟩
theorem Step.vis {h h' : Hp} (s : Step U h h') : ∀ id, Vis U h id → Vis U h' id := fun _ hv => ⟨Nat.lt_of_lt_of_le hv.1 s.next, hv.2⟩

def Fresh (h h' : Hp) : Ids := fun id => h.next ≤ id ∧ id < h'.next
def Wr (h' : Hp) : Ids := fun id => h'.mw ≤ id
instance (h h' : Hp) : DecidablePred (Fresh h h') := fun id => inferInstanceAs (Decidable (_ ∧ _))

/-- A step of both heaps. -/
structure Go2 (P : Program) (U : Ids) (lo : Nat) (μ μ' : Mu) (h h' : Hp) (w w' : World) : Prop where
  step : Step U h h'
  post : Post P lo (Fresh h h') (Wr h') μ μ' h.look h'.look w w'

theorem Go2.refl {P : Program} {lo : Nat} {μ : Mu} {h : Hp} {w : World} (ok : HpOk U h) (s : Sat P lo μ h.look w) : Go2 P U lo μ μ h h w w :=
  ⟨.refl ok, (Post.refl s).mono (fun _ h => h.elim) (fun _ h => h.elim) fun id b hf _ => by unfold Fresh at hf; omega⟩

theorem Go2.trans {P : Program} {lo : Nat} {μ μ1 μ2 : Mu} {h h1 h2 : Hp} {w w1 w2 : World} (a : Go2 P U lo μ μ1 h h1 w w1) (b : Go2 P U lo μ1 μ2 h1 h2 w1 w2) : Go2 P U lo μ μ2 h h2 w w2 := by
  refine ⟨a.step.trans b.step, (a.post.trans b.post).mono ?_ ?_ ?_⟩
  · rintro id (⟨h3, h4⟩ | ⟨h3, h4⟩)
    · exact ⟨h3, Nat.lt_of_lt_of_le h4 b.step.next⟩
    · exact ⟨Nat.le_trans a.step.next h3, h4⟩
  · rintro id (h3 | h3)
    · exact Nat.le_trans b.step.mw h3
    · exact h3
  · rintro id blk ⟨h3, h4⟩ hn
    exact absurd (by rcases Nat.lt_or_ge id h1.next with h5 | h5; exact .inl ⟨h3, h5⟩; exact .inr ⟨h5, h4⟩) hn

theorem Go2.sat {P : Program} {lo : Nat} {μ μ' : Mu} {h h' : Hp} {w w' : World} (g : Go2 P U lo μ μ' h h' w w') : Sat P lo μ' h'.look w' := g.post.sat
theorem Go2.ok {P : Program} {lo : Nat} {μ μ' : Mu} {h h' : Hp} {w w' : World} (g : Go2 P U lo μ μ' h h' w w') : HpOk U h' := g.step.ok
/-- A value from before reads the same. -/
theorem Go2.ren {P : Program} {lo : Nat} {μ μ' : Mu} {h h' : Hp} {w w' : World} (g : Go2 P U lo μ μ' h h' w w') {v : Value} (hv : Stable (Vis U h) v) : Ev.ren μ' v = Ev.ren μ v :=
  hv μ' μ fun id hi => g.post.agree id fun hf => by have := hi.1; unfold Fresh at hf; omega
theorem Go2.stable {P : Program} {lo : Nat} {μ μ' : Mu} {h h' : Hp} {w w' : World} (g : Go2 P U lo μ μ' h h' w w') {v : Value} (hv : Stable (Vis U h) v) : Stable (Vis U h') v :=
  hv.mono g.step.vis

/-! The heap's steps, one by one. -/
def Hp.bump (h : Hp) : Hp := ⟨h.m, Nat.succ h.next, h.mw, h.hid⟩
theorem add_m (h : Hp) (b : Blk) : (h.add b).m = h.m.put h.next (some b) := by cases h; rfl
theorem add_next (h : Hp) (b : Blk) : (h.add b).next = h.next + 1 := by cases h; rfl
theorem add_mw (h : Hp) (b : Blk) : (h.add b).mw = h.mw := by cases h; rfl
theorem add_hid (h : Hp) (b : Blk) : (h.add b).hid = h.hid := by cases h; rfl
theorem put_m (h : Hp) (n : Nat) (b : Option Blk) : (h.put n b).m = h.m.put n b := by cases h; rfl
theorem put_next (h : Hp) (n : Nat) (b : Option Blk) : (h.put n b).next = h.next := by cases h; rfl
theorem put_mw (h : Hp) (n : Nat) (b : Option Blk) : (h.put n b).mw = min n h.mw := by cases h; exact minN_eq _ _
theorem put_hid (h : Hp) (n : Nat) (b : Option Blk) : (h.put n b).hid = h.hid := by cases h; rfl

theorem look_add {h : Hp} (ok : HpOk U h) (b : Blk) (id : Nat) : (h.add b).look id = if id = h.next then some b else h.look id := by
  rw [look_eq, look_eq, add_hid, add_m, put_get]
  by_cases e : id = h.next
  · subst e; rw [hidden_above ok.down (Nat.le_refl _)]; simp
  · simp [e]
theorem look_put {h : Hp} {n : Nat} (hv : hidden n h.hid = false) (b : Option Blk) (id : Nat) : (h.put n b).look id = if id = n then b else h.look id := by
  rw [look_eq, look_eq, put_hid, put_m, put_get]
  by_cases e : id = n
  · subst e; simp [hv]
  · simp [e]

theorem vis_add {h : Hp} (ok : HpOk U h) (b : Blk) (id : Nat) : Vis U (h.add b) id ↔ Vis U h id ∨ id = h.next := by
  unfold Vis
  rw [add_next]
  constructor
  · rintro ⟨h1, h2⟩
    by_cases e : id = h.next
    · exact .inr e
    · exact .inl ⟨by omega, h2⟩
  · rintro (⟨h1, h2⟩ | rfl)
    · exact ⟨by omega, h2⟩
    · exact ⟨by omega, fun hu => by have := (ok.unk _ hu).2.1; omega⟩
theorem vis_put {h : Hp} (n : Nat) (b : Option Blk) (id : Nat) : Vis U (h.put n b) id ↔ Vis U h id := by
  unfold Vis; rw [put_next]

theorem step_add {h : Hp} (ok : HpOk U h) {b : Blk} (hb : StB (Vis U (h.add b)) b) : Step U h (h.add b) := by
  refine ⟨by rw [add_next]; omega, by rw [add_mw]; exact Nat.le_refl _, add_hid h b, ?_, ?_, ?_, ?_, ?_, ?_⟩
  · intro id hi _
    rw [add_m, put_get, if_neg (by omega)]
  · rw [add_next]; have := ok.nx; omega
  · intro id hi
    rw [add_next] at hi
    rw [add_m, put_get, if_neg (by omega)]
    exact ok.top id (by omega)
  · rw [add_next, add_hid]; exact ok.down.mono (by omega)
  · intro id b' hl
    rw [look_add ok] at hl
    split at hl
    · cases hl; exact hb
    · exact (ok.st id b' hl).mono fun i hi => (vis_add ok b i).2 (.inl hi)
  · intro id hu
    have := ok.unk id hu
    rw [add_next, add_hid]
    exact ⟨this.1, by omega, this.2.2⟩

theorem step_put {h : Hp} (ok : HpOk U h) {n : Nat} (hn : n < h.next) (hv : hidden n h.hid = false) {b : Option Blk} (hb : ∀ b', b = some b' → StB (Vis U h) b') : Step U h (h.put n b) := by
  refine ⟨by rw [put_next]; exact Nat.le_refl _, by rw [put_mw]; omega, put_hid h n b, ?_, ?_, ?_, ?_, ?_, ?_⟩
  · intro id hi hh
    rw [put_m, put_get, if_neg]
    rintro rfl; rw [hv] at hh; cases hh
  · rw [put_next]; exact ok.nx
  · intro id hi
    rw [put_next] at hi
    rw [put_m, put_get, if_neg (by omega)]
    exact ok.top id hi
  · rw [put_next, put_hid]; exact ok.down
  · intro id b' hl
    rw [look_put hv] at hl
    split at hl
    · exact (hb b' hl).mono fun i hi => (vis_put n b i).2 hi
    · exact (ok.st id b' hl).mono fun i hi => (vis_put n b i).2 hi
  · rw [put_next, put_hid]; exact ok.unk

/-- The renaming with one new place. -/
def upMu (μ : Mu) (n : Nat) (p : Pl) : Mu := fun id => if id = n then p else μ id
theorem upMu_same (μ : Mu) (n : Nat) (p : Pl) : upMu μ n p n = p := if_pos rfl
theorem upMu_ne {μ : Mu} {n : Nat} {p : Pl} {id : Nat} (h : id ≠ n) : upMu μ n p id = μ id := if_neg h
theorem ren_up {μ : Mu} {h : Hp} {p : Pl} {v : Value} (hv : Stable (Vis U h) v) : ren (upMu μ h.next p) v = ren μ v :=
  hv _ _ fun id hi => upMu_ne (by have := hi.1; omega)
theorem map_ren_up {μ : Mu} {h : Hp} {p : Pl} {l : List Value} (hv : ∀ v ∈ l, Stable (Vis U h) v) : l.map (ren (upMu μ h.next p)) = l.map (ren μ) :=
  List.map_congr_left fun v hm => ren_up (hv v hm)

/-- A new block. -/
theorem go2_add {P : Program} {lo : Nat} {μ : Mu} {h : Hp} {w w' : World} {b : Blk} {o : Obj} {e : Nat} (ok : HpOk U h) (s : Sat P lo μ h.look w) (hlo : lo ≤ w.heap.size)
    (hb : StB (Vis U (h.add b)) b) (hw : w'.heap = w.heap.push o) (hos : w'.os = w.os) (htape : w'.tape = w.tape) (hout : w'.output = w.output)
    (hblk : BlkOk P w' (upMu μ h.next ⟨w.heap.size, 0, e⟩) h.next b) :
    Go2 P U lo μ (upMu μ h.next ⟨w.heap.size, 0, e⟩) h (h.add b) w w' := by
  have hold : ∀ k, k < w.heap.size → w'.heap[k]? = w.heap[k]? := by
    intro k hk
    rw [hw, Array.getElem?_push, if_neg (by omega)]
  have hag : ∀ id, id ≠ h.next → upMu μ h.next ⟨w.heap.size, 0, e⟩ id = μ id := fun id hn => upMu_ne hn
  refine ⟨step_add ok hb, ⟨?_, ⟨?_, ?_, ?_, ?_⟩, ?_, ?_, ?_, ?_, ?_, hos, htape, hout⟩⟩
  · intro id hn
    refine hag id fun e => hn ?_
    subst e; exact ⟨Nat.le_refl _, by rw [add_next]; omega⟩
  · intro id hi
    rw [hag id (by have := ok.nx; omega)]; exact s.low id hi
  · intro id b' hl
    rw [look_add ok] at hl
    split at hl
    · rename_i e; subst e; cases hl; exact hblk
    · rename_i hne
      exact (s.blk id b' hl).move (ok.st id b' hl) (fun i hi => hag i (by have := hi.1; omega)) (hag id hne) (hold _ (s.blk id b' hl).lt)
  · intro id id' b1 b2 h1 h2 e
    rw [look_add ok] at h1 h2
    split at h1 <;> split at h2
    · omega
    · rename_i e1 e2
      rw [e1, upMu_same, hag id' e2] at e
      have := (s.blk id' b2 h2).lt
      simp at e; omega
    · rename_i e1 e2
      rw [e2, upMu_same, hag id e1] at e
      have := (s.blk id b1 h1).lt
      simp at e; omega
    · rename_i e1 e2
      rw [hag id e1, hag id' e2] at e
      exact s.inj id id' b1 b2 h1 h2 e
  · intro id b' hl
    rw [look_add ok] at hl
    split at hl
    · rename_i e; subst e; rw [upMu_same]; exact hlo
    · rename_i hne; rw [hag id hne]; exact s.lo id b' hl
  · intro id hn _
    rw [look_add ok, if_neg]
    rintro rfl; exact hn ⟨Nat.le_refl _, by rw [add_next]; omega⟩
  · intro id b' hn hl
    rw [look_add ok, if_neg] at hl
    · exact ⟨b', hl⟩
    · rintro rfl; exact hn ⟨Nat.le_refl _, by rw [add_next]; omega⟩
  · rw [hw, Array.size_push]; omega
  · intro k hk _; exact hold k hk
  · rintro id b' ⟨h1, h2⟩ _
    rw [add_next] at h2
    have : id = h.next := by omega
    subst this
    rw [upMu_same]; exact .inl (Nat.le_refl _)

/-- A block is written to, or goes. -/
theorem go2_put {P : Program} {lo : Nat} {μ : Mu} {h : Hp} {w w' : World} {n : Nat} {b0 : Blk} {b : Option Blk} (ok : HpOk U h) (s : Sat P lo μ h.look w)
    (hl0 : h.look n = some b0) (hb : ∀ b', b = some b' → StB (Vis U h) b') (hsize : w'.heap.size = w.heap.size) (hw : ∀ k, k ≠ (μ n).blk → w'.heap[k]? = w.heap[k]?)
    (hos : w'.os = w.os) (htape : w'.tape = w.tape) (hout : w'.output = w.output) (hblk : ∀ b', b = some b' → BlkOk P w' μ n b') : Go2 P U lo μ μ h (h.put n b) w w' := by
  have hv : n < h.next ∧ hidden n h.hid = false := ⟨ok.lt hl0, (look_vis hl0).1⟩
  have hnot : ∀ id, ¬ Fresh h (h.put n b) id := by rintro id ⟨h1, h2⟩; rw [put_next] at h2; omega
  refine ⟨step_put ok hv.1 hv.2 hb, ⟨fun _ _ => rfl, ⟨s.low, ?_, ?_, ?_⟩, ?_, ?_, Nat.le_of_eq hsize.symm, ?_, fun id b' hf => (hnot id hf).elim, hos, htape, hout⟩⟩
  · intro id b' hl
    rw [look_put hv.2] at hl
    split at hl
    · rename_i e; subst e; exact hblk b' hl
    · rename_i hne
      refine (s.blk id b' hl).move (ok.st id b' hl) (fun _ _ => rfl) rfl (hw _ fun e => hne (s.inj id n b' b0 hl hl0 e))
  · intro id id' b1 b2 h1 h2 e
    rw [look_put hv.2] at h1 h2
    have back : ∀ {i : Nat} {x : Blk}, (if i = n then b else h.look i) = some x → ∃ y, h.look i = some y := by
      intro i x hx
      split at hx
      · rename_i e; subst e; exact ⟨b0, hl0⟩
      · exact ⟨x, hx⟩
    obtain ⟨y1, hy1⟩ := back h1
    obtain ⟨y2, hy2⟩ := back h2
    exact s.inj id id' y1 y2 hy1 hy2 e
  · intro id b' hl
    rw [look_put hv.2] at hl
    split at hl
    · rename_i e; subst e; exact s.lo id b0 hl0
    · exact s.lo id b' hl
  · intro id _ hnw
    rw [look_put hv.2, if_neg]
    rintro rfl; exact hnw (by unfold Wr; rw [put_mw]; omega)
  · intro id b' _ hl
    rw [look_put hv.2] at hl
    split at hl
    · rename_i e; subst e; exact ⟨b0, hl0⟩
    · exact ⟨b', hl⟩
  · intro k hk hn
    refine hw k fun e => ?_
    exact hn n b0 (by unfold Wr; rw [put_mw]; omega) hl0 e.symm

end Go.Ev
