/- A verified evaluator: a part of it. -/
import Derived.Test.YtaokhbanpfmkmaaGreatEvA
import Derived.Laws.CopyRow
import Derived.Orders
namespace Go.Ev
set_option linter.unusedVariables false
set_option linter.unusedSimpArgs false
variable {U : Ids}

/-! The abstract heap: what can be seen, what holds of it, its steps. -/

/-- Ranges, the later ones on top, all below n. -/
def Down : Nat → List (Nat × Nat) → Prop
  | _, [] => True
  | n, p :: ps => p.2 ≤ n ∧ p.1 ≤ p.2 ∧ Down p.1 ps

theorem Down.mono {n m : Nat} {l : List (Nat × Nat)} (h : Down n l) (hm : n ≤ m) : Down m l := by
  cases l with
  | nil => trivial
  | cons p ps => exact ⟨Nat.le_trans h.1 hm, h.2⟩

theorem hidden_cons (n : Nat) (p : Nat × Nat) (ps : List (Nat × Nat)) : hidden n (p :: ps) = if p.2 ≤ n then false else if p.1 ≤ n then true else hidden n ps := by
  show ite' (Nat.ble p.2 n) false (ite' (Nat.ble p.1 n) true (hidden n ps)) = _
  rw [ite'_eq, ite'_eq]
  simp only [ble_eq]

theorem hidden_above {n : Nat} {l : List (Nat × Nat)} (h : Down n l) {m : Nat} (hm : n ≤ m) : hidden m l = false := by
  cases l with
  | nil => rfl
  | cons p ps => rw [hidden_cons, if_pos (Nat.le_trans h.1 hm)]

/-- The numbers that are known: U: what is not. -/
def Vis (U : Ids) (h : Hp) : Ids := fun id => id < h.next ∧ ¬ U id

theorem look_eq (h : Hp) (id : Nat) : h.look id = if hidden id h.hid = true then none else h.m.get id := by
  show ite' (hidden id h.hid) none (h.m.get id) = _
  rw [ite'_eq]
theorem look_vis {h : Hp} {id : Nat} {b : Blk} (hl : h.look id = some b) : hidden id h.hid = false ∧ h.m.get id = some b := by
  rw [look_eq] at hl
  split at hl
  · cases hl
  · rename_i hn; exact ⟨by simpa using hn, hl⟩
theorem look_of {h : Hp} {id : Nat} (hh : hidden id h.hid = false) : h.look id = h.m.get id := by
  rw [look_eq, if_neg (by simp [hh])]

/-- What always holds of an abstract heap. -/
structure HpOk (U : Ids) (h : Hp) : Prop where
  nx : 1000 ≤ h.next
  top : ∀ id, h.next ≤ id → h.m.get id = none
  down : Down h.next h.hid
  st : ∀ id b, h.look id = some b → StB (Vis U h) b
  unk : ∀ id, U id → 1000 ≤ id ∧ id < h.next ∧ hidden id h.hid = true

theorem HpOk.lt {h : Hp} (ok : HpOk U h) {id : Nat} {b : Blk} (hl : h.look id = some b) : id < h.next := by
  rcases Nat.lt_or_ge id h.next with h1 | h1
  · exact h1
  · have := ok.top id h1
    rw [(look_vis hl).2] at this; cases this
theorem HpOk.vis {h : Hp} (ok : HpOk U h) {id : Nat} {b : Blk} (hl : h.look id = some b) : Vis U h id := ⟨ok.lt hl, fun hu => by have := (ok.unk id hu).2.2; rw [(look_vis hl).1] at this; cases this⟩

/-- A step of the abstract heap. -/
structure Step (U : Ids) (h h' : Hp) : Prop where
  next : h.next ≤ h'.next
  mw : h'.mw ≤ h.mw
  hid : h'.hid = h.hid
  dark : ∀ id, id < h.next → hidden id h.hid = true → h'.m.get id = h.m.get id
  ok : HpOk U h'

theorem Step.refl {h : Hp} (ok : HpOk U h) : Step U h h := ⟨Nat.le_refl _, Nat.le_refl _, rfl, fun _ _ _ => rfl, ok⟩
theorem Step.trans {a b c : Hp} (h : Step U a b) (k : Step U b c) : Step U a c :=
  ⟨Nat.le_trans h.next k.next, Nat.le_trans k.mw h.mw, k.hid.trans h.hid,
    fun id hi hh => (k.dark id (Nat.lt_of_lt_of_le hi h.next) (by rw [h.hid]; exact hh)).trans (h.dark id hi hh), k.ok⟩
theorem Step.vis {h h' : Hp} (s : Step U h h') : ∀ id, Vis U h id → Vis U h' id := fun _ hv => ⟨Nat.lt_of_lt_of_le hv.1 s.next, hv.2⟩

def Fresh (h h' : Hp) : Ids := fun id => h.next ≤ id ∧ id < h'.next
def Wr (h' : Hp) : Ids := fun id => h'.mw ≤ id
instance (h h' : Hp) : DecidablePred (Fresh h h') := fun id => inferInstanceAs (Decidable (_ ∧ _))

/-- A step of both heaps. -/
structure Go2 (P : Program) (U : Ids) (lo : Nat) (μ μ' : Mu) (h h' : Hp) (w w' : World) : Prop where
  step : Step U h h'
  post : Post P lo (Fresh h h') (Wr h') μ μ' h.look h'.look w w'

theorem Go2.refl {P : Program} {lo : Nat} {μ : Mu} {h : Hp} {w : World} (ok : HpOk U h) (s : Sat P lo μ h.look w) : Go2 P U lo μ μ h h w w :=
  ⟨.refl ok, (Post.refl s).mono (fun _ h => h.elim) (fun _ h => h.elim) fun id b hf _ => by unfold Fresh at hf; omega⟩

theorem Go2.trans {P : Program} {lo : Nat} {μ μ1 μ2 : Mu} {h h1 h2 : Hp} {w w1 w2 : World} (a : Go2 P U lo μ μ1 h h1 w w1) (b : Go2 P U lo μ1 μ2 h1 h2 w1 w2) : Go2 P U lo μ μ2 h h2 w w2 := by
  refine ⟨a.step.trans b.step, (a.post.trans b.post).mono ?_ ?_ ?_⟩
  · rintro id (⟨h3, h4⟩ | ⟨h3, h4⟩)
    · exact ⟨h3, Nat.lt_of_lt_of_le h4 b.step.next⟩
    · exact ⟨Nat.le_trans a.step.next h3, h4⟩
  · rintro id (h3 | h3)
    · exact Nat.le_trans b.step.mw h3
    · exact h3
  · rintro id blk ⟨h3, h4⟩ hn
    exact absurd (by rcases Nat.lt_or_ge id h1.next with h5 | h5; exact .inl ⟨h3, h5⟩; exact .inr ⟨h5, h4⟩) hn

theorem Go2.sat {P : Program} {lo : Nat} {μ μ' : Mu} {h h' : Hp} {w w' : World} (g : Go2 P U lo μ μ' h h' w w') : Sat P lo μ' h'.look w' := g.post.sat
theorem Go2.ok {P : Program} {lo : Nat} {μ μ' : Mu} {h h' : Hp} {w w' : World} (g : Go2 P U lo μ μ' h h' w w') : HpOk U h' := g.step.ok
/-- A value from before reads the same. -/
theorem Go2.ren {P : Program} {lo : Nat} {μ μ' : Mu} {h h' : Hp} {w w' : World} (g : Go2 P U lo μ μ' h h' w w') {v : Value} (hv : Stable (Vis U h) v) : Ev.ren μ' v = Ev.ren μ v :=
  hv μ' μ fun id hi => g.post.agree id fun hf => by have := hi.1; unfold Fresh at hf; omega
theorem Go2.stable {P : Program} {lo : Nat} {μ μ' : Mu} {h h' : Hp} {w w' : World} (g : Go2 P U lo μ μ' h h' w w') {v : Value} (hv : Stable (Vis U h) v) : Stable (Vis U h') v :=
  hv.mono g.step.vis

/-! The heap's steps, one by one. -/
def Hp.bump (h : Hp) : Hp := ⟨h.m, Nat.succ h.next, h.mw, h.hid⟩
theorem add_m (h : Hp) (b : Blk) : (h.add b).m = h.m.put h.next (some b) := by cases h; rfl
theorem add_next (h : Hp) (b : Blk) : (h.add b).next = h.next + 1 := by cases h; rfl
theorem add_mw (h : Hp) (b : Blk) : (h.add b).mw = h.mw := by cases h; rfl
theorem add_hid (h : Hp) (b : Blk) : (h.add b).hid = h.hid := by cases h; rfl
theorem put_m (h : Hp) (n : Nat) (b : Option Blk) : (h.put n b).m = h.m.put n b := by cases h; rfl
theorem put_next (h : Hp) (n : Nat) (b : Option Blk) : (h.put n b).next = h.next := by cases h; rfl
theorem put_mw (h : Hp) (n : Nat) (b : Option Blk) : (h.put n b).mw = min n h.mw := by cases h; exact minN_eq _ _
theorem put_hid (h : Hp) (n : Nat) (b : Option Blk) : (h.put n b).hid = h.hid := by cases h; rfl

theorem look_add {h : Hp} (ok : HpOk U h) (b : Blk) (id : Nat) : (h.add b).look id = if id = h.next then some b else h.look id := by
  rw [look_eq, look_eq, add_hid, add_m, put_get]
  by_cases e : id = h.next
  · subst e; rw [hidden_above ok.down (Nat.le_refl _)]; simp
  · simp [e]
theorem look_put {h : Hp} {n : Nat} (hv : hidden n h.hid = false) (b : Option Blk) (id : Nat) : (h.put n b).look id = if id = n then b else h.look id := by
  rw [look_eq, look_eq, put_hid, put_m, put_get]
  by_cases e : id = n
  · subst e; simp [hv]
  · simp [e]

theorem vis_add {h : Hp} (ok : HpOk U h) (b : Blk) (id : Nat) : Vis U (h.add b) id ↔ Vis U h id ∨ id = h.next := by
  unfold Vis
  rw [add_next]
  constructor
  · rintro ⟨h1, h2⟩
    by_cases e : id = h.next
    · exact .inr e
    · exact .inl ⟨by omega, h2⟩
  · rintro (⟨h1, h2⟩ | rfl)
    · exact ⟨by omega, h2⟩
    · exact ⟨by omega, fun hu => by have := (ok.unk _ hu).2.1; omega⟩
theorem vis_put {h : Hp} (n : Nat) (b : Option Blk) (id : Nat) : Vis U (h.put n b) id ↔ Vis U h id := by
  unfold Vis; rw [put_next]

theorem step_add {h : Hp} (ok : HpOk U h) {b : Blk} (hb : StB (Vis U (h.add b)) b) : Step U h (h.add b) := by
  refine ⟨by rw [add_next]; omega, by rw [add_mw]; exact Nat.le_refl _, add_hid h b, ?_, ?_, ?_, ?_, ?_, ?_⟩
  · intro id hi _
    rw [add_m, put_get, if_neg (by omega)]
  · rw [add_next]; have := ok.nx; omega
  · intro id hi
    rw [add_next] at hi
    rw [add_m, put_get, if_neg (by omega)]
    exact ok.top id (by omega)
  · rw [add_next, add_hid]; exact ok.down.mono (by omega)
  · intro id b' hl
    rw [look_add ok] at hl
    split at hl
    · cases hl; exact hb
    · exact (ok.st id b' hl).mono fun i hi => (vis_add ok b i).2 (.inl hi)
  · intro id hu
    have := ok.unk id hu
    rw [add_next, add_hid]
    exact ⟨this.1, by omega, this.2.2⟩

theorem step_put {h : Hp} (ok : HpOk U h) {n : Nat} (hn : n < h.next) (hv : hidden n h.hid = false) {b : Option Blk} (hb : ∀ b', b = some b' → StB (Vis U h) b') : Step U h (h.put n b) := by
  refine ⟨by rw [put_next]; exact Nat.le_refl _, by rw [put_mw]; omega, put_hid h n b, ?_, ?_, ?_, ?_, ?_, ?_⟩
  · intro id hi hh
    rw [put_m, put_get, if_neg]
    rintro rfl; rw [hv] at hh; cases hh
  · rw [put_next]; exact ok.nx
  · intro id hi
    rw [put_next] at hi
    rw [put_m, put_get, if_neg (by omega)]
    exact ok.top id hi
  · rw [put_next, put_hid]; exact ok.down
  · intro id b' hl
    rw [look_put hv] at hl
    split at hl
    · exact (hb b' hl).mono fun i hi => (vis_put n b i).2 hi
    · exact (ok.st id b' hl).mono fun i hi => (vis_put n b i).2 hi
  · rw [put_next, put_hid]; exact ok.unk

/-- The renaming with one new place. -/
def upMu (μ : Mu) (n : Nat) (p : Pl) : Mu := fun id => if id = n then p else μ id
theorem upMu_same (μ : Mu) (n : Nat) (p : Pl) : upMu μ n p n = p := if_pos rfl
theorem upMu_ne {μ : Mu} {n : Nat} {p : Pl} {id : Nat} (h : id ≠ n) : upMu μ n p id = μ id := if_neg h
theorem ren_up {μ : Mu} {h : Hp} {p : Pl} {v : Value} (hv : Stable (Vis U h) v) : ren (upMu μ h.next p) v = ren μ v :=
  hv _ _ fun id hi => upMu_ne (by have := hi.1; omega)
theorem map_ren_up {μ : Mu} {h : Hp} {p : Pl} {l : List Value} (hv : ∀ v ∈ l, Stable (Vis U h) v) : l.map (ren (upMu μ h.next p)) = l.map (ren μ) :=
  List.map_congr_left fun v hm => ren_up (hv v hm)

/-- A new block. -/
theorem go2_add {P : Program} {lo : Nat} {μ : Mu} {h : Hp} {w w' : World} {b : Blk} {o : Obj} {e : Nat} (ok : HpOk U h) (s : Sat P lo μ h.look w) (hlo : lo ≤ w.heap.size)
    (hb : StB (Vis U (h.add b)) b) (hw : w'.heap = w.heap.push o) (hos : w'.os = w.os) (htape : w'.tape = w.tape) (hout : w'.output = w.output)
    (hblk : BlkOk P w' (upMu μ h.next ⟨w.heap.size, 0, e⟩) h.next b) :
    Go2 P U lo μ (upMu μ h.next ⟨w.heap.size, 0, e⟩) h (h.add b) w w' := by
  have hold : ∀ k, k < w.heap.size → w'.heap[k]? = w.heap[k]? := by
    intro k hk
    rw [hw, Array.getElem?_push, if_neg (by omega)]
  have hag : ∀ id, id ≠ h.next → upMu μ h.next ⟨w.heap.size, 0, e⟩ id = μ id := fun id hn => upMu_ne hn
  refine ⟨step_add ok hb, ⟨?_, ⟨?_, ?_, ?_, ?_⟩, ?_, ?_, ?_, ?_, ?_, hos, htape, hout⟩⟩
  · intro id hn
    refine hag id fun e => hn ?_
    subst e; exact ⟨Nat.le_refl _, by rw [add_next]; omega⟩
  · intro id hi
    rw [hag id (by have := ok.nx; omega)]; exact s.low id hi
  · intro id b' hl
    rw [look_add ok] at hl
    split at hl
    · rename_i e; subst e; cases hl; exact hblk
    · rename_i hne
      exact (s.blk id b' hl).move (ok.st id b' hl) (fun i hi => hag i (by have := hi.1; omega)) (hag id hne) (hold _ (s.blk id b' hl).lt)
  · intro id id' b1 b2 h1 h2 e
    rw [look_add ok] at h1 h2
    split at h1 <;> split at h2
    · omega
    · rename_i e1 e2
      rw [e1, upMu_same, hag id' e2] at e
      have := (s.blk id' b2 h2).lt
      simp at e; omega
    · rename_i e1 e2
      rw [e2, upMu_same, hag id e1] at e
      have := (s.blk id b1 h1).lt
      simp at e; omega
    · rename_i e1 e2
      rw [hag id e1, hag id' e2] at e
      exact s.inj id id' b1 b2 h1 h2 e
  · intro id b' hl
    rw [look_add ok] at hl
    split at hl
    · rename_i e; subst e; rw [upMu_same]; exact hlo
    · rename_i hne; rw [hag id hne]; exact s.lo id b' hl
  · intro id hn _
    rw [look_add ok, if_neg]
    rintro rfl; exact hn ⟨Nat.le_refl _, by rw [add_next]; omega⟩
  · intro id b' hn hl
    rw [look_add ok, if_neg] at hl
    · exact ⟨b', hl⟩
    · rintro rfl; exact hn ⟨Nat.le_refl _, by rw [add_next]; omega⟩
  · rw [hw, Array.size_push]; omega
  · intro k hk _; exact hold k hk
  · rintro id b' ⟨h1, h2⟩ _
    rw [add_next] at h2
    have : id = h.next := by omega
    subst this
    rw [upMu_same]; exact .inl (Nat.le_refl _)

/-- A block is written to, or goes. -/
theorem go2_put {P : Program} {lo : Nat} {μ : Mu} {h : Hp} {w w' : World} {n : Nat} {b0 : Blk} {b : Option Blk} (ok : HpOk U h) (s : Sat P lo μ h.look w)
    (hl0 : h.look n = some b0) (hb : ∀ b', b = some b' → StB (Vis U h) b') (hsize : w'.heap.size = w.heap.size) (hw : ∀ k, k ≠ (μ n).blk → w'.heap[k]? = w.heap[k]?)
    (hos : w'.os = w.os) (htape : w'.tape = w.tape) (hout : w'.output = w.output) (hblk : ∀ b', b = some b' → BlkOk P w' μ n b') : Go2 P U lo μ μ h (h.put n b) w w' := by
  have hv : n < h.next ∧ hidden n h.hid = false := ⟨ok.lt hl0, (look_vis hl0).1⟩
  have hnot : ∀ id, ¬ Fresh h (h.put n b) id := by rintro id ⟨h1, h2⟩; rw [put_next] at h2; omega
  refine ⟨step_put ok hv.1 hv.2 hb, ⟨fun _ _ => rfl, ⟨s.low, ?_, ?_, ?_⟩, ?_, ?_, Nat.le_of_eq hsize.symm, ?_, fun id b' hf => (hnot id hf).elim, hos, htape, hout⟩⟩
  · intro id b' hl
    rw [look_put hv.2] at hl
    split at hl
    · rename_i e; subst e; exact hblk b' hl
    · rename_i hne
      refine (s.blk id b' hl).move (ok.st id b' hl) (fun _ _ => rfl) rfl (hw _ fun e => hne (s.inj id n b' b0 hl hl0 e))
  · intro id id' b1 b2 h1 h2 e
    rw [look_put hv.2] at h1 h2
    have back : ∀ {i : Nat} {x : Blk}, (if i = n then b else h.look i) = some x → ∃ y, h.look i = some y := by
      intro i x hx
      split at hx
      · rename_i e; subst e; exact ⟨b0, hl0⟩
      · exact ⟨x, hx⟩
    obtain ⟨y1, hy1⟩ := back h1
    obtain ⟨y2, hy2⟩ := back h2
    exact s.inj id id' y1 y2 hy1 hy2 e
  · intro id b' hl
    rw [look_put hv.2] at hl
    split at hl
    · rename_i e; subst e; exact s.lo id b0 hl0
    · exact s.lo id b' hl
  · intro id _ hnw
    rw [look_put hv.2, if_neg]
    rintro rfl; exact hnw (by unfold Wr; rw [put_mw]; omega)
  · intro id b' _ hl
    rw [look_put hv.2] at hl
    split at hl
    · rename_i e; subst e; exact ⟨b0, hl0⟩
    · exact ⟨b', hl⟩
  · intro k hk hn
    refine hw k fun e => ?_
    exact hn n b0 (by unfold Wr; rw [put_mw]; omega) hl0 e.symm

end Go.Ev

namespace Go.Ev
set_option linter.unusedVariables false
set_option linter.unusedSimpArgs false
variable {U : Ids}

/-! The operations that look at memory, one by one: what the evaluator gives is what the model's run gives. -/

theorem boolOf_some {v : Value} {b : Bool} : boolOf? v = some b ↔ v = .bool b := by cases v <;> simp [boolOf?]
theorem intOf_some {v : Value} {x : IntKind × Int} : intOf? v = some x ↔ v = .int x.1 x.2 := by
  cases v <;> simp [intOf?]
  constructor
  · rintro rfl; exact ⟨rfl, rfl⟩
  · rintro ⟨rfl, rfl⟩; rfl
theorem natOf_some {v : Value} {n : Nat} : natOf? v = some n ↔ ∃ k, v = .int k (.ofNat n) := by
  cases v <;> simp [natOf?]
  rename_i k m
  cases m with
  | ofNat m => simp [natI]; omega
  | negSucc m => simp [natI]
theorem addrOf_some {v : Value} {a : Addr} : addrOf? v = some a ↔ v = .pointer (some a) := by cases v <;> simp [addrOf?]
theorem sliceOf_some {v : Value} {x : Option Addr × Nat × Nat} : sliceOf? v = some x ↔ v = .slice x.1 x.2.1 x.2.2 := by
  cases v <;> simp [sliceOf?]
  constructor
  · rintro rfl; exact ⟨rfl, rfl, rfl⟩
  · rintro ⟨rfl, rfl, rfl⟩; rfl
theorem aggOf_some {v : Value} {l : List Value} : aggOf? v = some l ↔ v = .agg ⟨l⟩ := by
  cases v <;> simp [aggOf?]
  rename_i cs; cases cs; simp
theorem tupleOf_some {v : Value} {l : List Value} : tupleOf? v = some l ↔ v = .tuple ⟨l⟩ := by
  cases v <;> simp [tupleOf?]
  rename_i cs; cases cs; simp
theorem cellsOf_eq (v : Value) : cellsOf v = v.cells.toList := by cases v <;> rfl
theorem isPlain_eq (v : Value) : isPlain v = v.oneCell' := by cases v <;> rfl
theorem cells_ren (μ : Mu) (v : Value) : (ren μ v).cells.toList = v.cells.toList.map (ren μ) := by
  cases v
  case agg cs => rw [ren]; exact renArr_toList μ cs
  case slice a n c => cases a <;> rfl
  case float => rfl
  case complex => rfl
  case pointer a => cases a <;> rfl
  case map r => cases r <;> rfl
  case chan r => cases r <;> rfl
  case func f a b => obtain ⟨a⟩ := a; obtain ⟨b⟩ := b; rfl
  case tuple vs => obtain ⟨l⟩ := vs; rfl
  all_goals rfl
theorem plain_ren (μ : Mu) {v : Value} (h : isPlain v = true) : (ren μ v).oneCell' = true := by
  cases v
  case agg => simp [isPlain] at h
  case tuple => simp [isPlain] at h
  case slice a n c => cases a <;> rfl
  case pointer a => cases a <;> rfl
  case map r => cases r <;> rfl
  case chan r => cases r <;> rfl
  case func f a b => obtain ⟨a⟩ := a; obtain ⟨b⟩ := b; rfl
  all_goals rfl
theorem stable_cells {S : Ids} {v : Value} (h : Stable S v) : ∀ c ∈ v.cells.toList, Stable S c := by
  cases v
  case agg cs => obtain ⟨l⟩ := cs; exact stable_agg.1 h
  all_goals (intro c hc; simp [Value.cells] at hc; subst hc; exact h)

section
variable {P : Program} {lo : Nat} {μ : Mu} {h : Hp} {w : World}

theorem info_of_size {t : TypeId} {n : Nat} (hs : sizeT P t = some n) : ∃ i, P.info? t = some i ∧ i.size = n := by
  unfold sizeT at hs
  obtain ⟨i, h1, h2⟩ := om_eq_some.1 hs
  exact ⟨i, h1, h2⟩
theorem run_size {t : TypeId} {n : Nat} (hs : sizeT P t = some n) (w : World) : (sizeOf t).run P w = .ok n w := by
  obtain ⟨i, h1, h2⟩ := info_of_size hs
  simp [sizeOf, typeInfo, h1, h2]
theorem run_agg {t : TypeId} {b : Bool} (hs : aggT P t = some b) (w : World) : (isAgg t).run P w = .ok b w := by
  unfold aggT at hs
  obtain ⟨d, h1, h2⟩ := om_eq_some.1 hs
  unfold isAgg
  rw [Sem.run_bind, run_underlying h1]
  subst h2
  cases d <;> rfl
theorem run_zeroV {t : TypeId} {z : Value} (hz : zeroV P t = some z) (w : World) : (zeroValue t).run P w = .ok z w ∧ closedA z = true := by
  unfold zeroV at hz
  obtain ⟨z', h1, h2⟩ := ob_eq_some.1 hz
  obtain ⟨h3, h4⟩ := ite'_eq_some.1 h2
  cases h4
  unfold zeroOf at h1
  obtain ⟨i, h5, h6⟩ := ob_eq_some.1 h1
  refine ⟨?_, h3⟩
  simp [zeroValue, typeInfo, h5, h6]
theorem run_zeroCells {t : TypeId} {z : List Value} (hz : zeroCellsOf P t = some z) (w : World) :
    ∃ v, (zeroValue t).run P w = .ok v w ∧ v.cells.toList = z ∧ closedL z = true ∧ sizeT P t = some z.length := by
  unfold zeroCellsOf at hz
  obtain ⟨z', h1, h2⟩ := ob_eq_some.1 hz
  obtain ⟨n, h0, h2⟩ := ob_eq_some.1 h2
  obtain ⟨h3, h4⟩ := ite'_eq_some.1 h2
  obtain ⟨h7, h8⟩ := ite'_eq_some.1 h4
  cases h8
  rw [beq_eq, lenL_eq] at h7
  unfold zeroOf at h1
  obtain ⟨i, h5, h6⟩ := ob_eq_some.1 h1
  exact ⟨z', by simp [zeroValue, typeInfo, h5, h6], rfl, h3, by rw [h0, h7]⟩

theorem renA_wf (n : Nat) (a : Addr) : renA μ (wf n a) = (renA μ a).add n := by
  unfold renA wf Addr.add
  split
  · rename_i e; subst e; simp
  · simp [Nat.add_assoc]

/-- The row at a visible address. -/
theorem row_at {a : Addr} {cs : List Value} (s : Sat P lo μ h.look w) (hr : Ev.rowAt h a = some cs) :
    ∃ e o c, h.look a.block = some (.row cs e o) ∧ w.heap[(μ a.block).blk]? = some (.cells c e (0, 0)) ∧ (∀ i v, cs[i]? = some v → c[(μ a.block).base + i]? = some (ren μ v)) := by
  unfold Ev.rowAt at hr
  obtain ⟨b, h1, h2⟩ := ob_eq_some.1 hr
  cases b with
  | row cs' e o =>
    simp only [rowOf, Option.some.injEq] at h2
    subst h2
    obtain ⟨c, h3, h4, _⟩ := s.blk _ _ h1
    exact ⟨e, o, c, h1, h3, h4⟩
  | map es c => simp [rowOf] at h2
  | iter => simp [rowOf] at h2
  | loop => simp [rowOf] at h2
  | defb => simp [rowOf] at h2

theorem cell_at {a : Addr} {cs : List Value} (s : Sat P lo μ h.look w) (hr : Ev.rowAt h a = some cs) {i : Nat} {v : Value} (hv : cs[i]? = some v) :
    w.cell? ⟨(μ a.block).blk, (μ a.block).base + i, none⟩ = some (ren μ v) := by
  obtain ⟨e, o, c, _, h3, h4⟩ := row_at s hr
  simp [World.cell?, h3, h4 i v hv]

theorem rd_some {a : Addr} {n : Nat} {l : List Value} (hr : rd h a n = some l) : ∃ cs, Ev.rowAt h a = some cs ∧ a.off + n ≤ cs.length + (if n = 0 then a.off else 0) ∧ l = (cs.drop a.off).take n ∧ l.length = n := by
  unfold rd at hr
  obtain ⟨cs, h1, h2⟩ := ob_eq_some.1 hr
  rw [dropL_eq] at h2
  obtain ⟨h3, h4⟩ := takeN_some.1 h2
  refine ⟨cs, h1, ?_, h4, ?_⟩
  · simp at h3; split <;> omega
  · rw [h4, List.length_take]; omega

theorem rd_get {a : Addr} {n : Nat} {l cs : List Value} (hl : l = (cs.drop a.off).take n) {j : Nat} {v : Value} (hv : l[j]? = some v) : cs[a.off + j]? = some v := by
  subst hl
  rw [List.getElem?_take] at hv
  split at hv
  · rw [List.getElem?_drop] at hv; exact hv
  · cases hv

theorem run_rd {a : Addr} {n : Nat} {l : List Value} (s : Sat P lo μ h.look w) (hr : rd h a n = some l) :
    (loadCells (renA μ a) n).run P w = .ok (l.map (ren μ)).toArray w := by
  obtain ⟨cs, h1, _, h3, h4⟩ := rd_some hr
  have := run_loadCells_list (P := P) w (renA μ a) (l.map (ren μ)) fun j v hv => by
    rw [List.getElem?_map] at hv
    cases hj : l[j]? with
    | none => rw [hj] at hv; cases hv
    | some x =>
      rw [hj] at hv
      cases hv
      have hc := cell_at s h1 (rd_get h3 hj)
      rw [← renA_wf]
      unfold renA wf
      simpa using hc
  rwa [List.length_map, h4] at this

theorem st_row {a : Addr} {cs : List Value} (ok : HpOk U h) (hr : Ev.rowAt h a = some cs) : ∀ v ∈ cs, Stable (Vis U h) v := by
  unfold Ev.rowAt at hr
  obtain ⟨b, h1, h2⟩ := ob_eq_some.1 hr
  have := ok.st _ _ h1
  cases b with
  | row cs' e o => simp only [rowOf, Option.some.injEq] at h2; subst h2; exact this
  | map es c => simp [rowOf] at h2
  | iter => simp [rowOf] at h2
  | loop => simp [rowOf] at h2
  | defb => simp [rowOf] at h2

theorem st_rd {a : Addr} {n : Nat} {l : List Value} (ok : HpOk U h) (hr : rd h a n = some l) : ∀ v ∈ l, Stable (Vis U h) v := by
  obtain ⟨cs, h1, _, h3, _⟩ := rd_some hr
  intro v hv
  subst h3
  exact st_row ok h1 v (List.mem_of_mem_drop (List.mem_of_mem_take hv))

theorem load_ok {t : TypeId} {v r : Value} (ok : HpOk U h) (s : Sat P lo μ h.look w) (he : evLoad P h t v = some r) :
    (Instr.loadAt t (ren μ v)).run P w = .ok (ren μ r) w ∧ Stable (Vis U h) r := by
  unfold evLoad at he
  obtain ⟨a, h1, h2⟩ := ob_eq_some.1 he
  rw [addrOf_some] at h1
  subst h1
  unfold lb at h2
  cases hg : aggT P t with
  | none => simp [hg, lbNo] at h2
  | some b =>
    simp only [hg] at h2
    cases b with
    | true =>
      simp only [ite'_true] at h2
      cases hs : sizeT P t with
      | none => simp [hs, lbNo] at h2
      | some n =>
        simp only [hs, ldAgg] at h2
        obtain ⟨l, h3, h4⟩ := om_eq_some.1 h2
        subst h4
        refine ⟨?_, stable_agg.2 (st_rd ok h3)⟩
        rw [ren_ptrA, ren_agg]
        simp [Instr.loadAt, Instr.sureAddr, loadVar, run_agg hg, run_size hs, run_rd s h3]
    | false =>
      simp only [ite'_false, rd1] at h2
      obtain ⟨cs, h3, h4⟩ := ob_eq_some.1 h2
      rw [nth_eq] at h4
      refine ⟨?_, st_row ok h3 r (List.mem_of_getElem? h4)⟩
      have hc := cell_at s h3 h4
      rw [ren_ptrA]
      simp [Instr.loadAt, Instr.sureAddr, loadVar, run_agg hg, renA, hc]

theorem append_map_get {f : Value → Value} {cs vs : List Value} {off : Nat} (h : off + vs.length ≤ cs.length) (i : Nat) :
    (cs.take off ++ (vs ++ cs.drop (off + vs.length)))[i]? = if i < off then cs[i]? else if i < off + vs.length then vs[i - off]? else cs[i]? := by
  by_cases h1 : i < off
  · rw [if_pos h1, List.getElem?_append_left (by simp; omega), List.getElem?_take, if_pos h1]
  · rw [if_neg h1, List.getElem?_append_right (by simp; omega)]
    simp only [List.length_take, Nat.min_eq_left (show off ≤ cs.length by omega)]
    by_cases h2 : i < off + vs.length
    · rw [if_pos h2, List.getElem?_append_left (by omega)]
    · rw [if_neg h2, List.getElem?_append_right (by omega), List.getElem?_drop]
      congr 1; omega

theorem setRow_facts {w : World} {g : Nat} {c c' : Array Value} {e : TypeId} (hg : w.heap[g]? = some (.cells c e (0, 0))) :
    (w.setRow g c').heap.size = w.heap.size ∧ (w.setRow g c').os = w.os ∧ (w.setRow g c').tape = w.tape ∧ (w.setRow g c').output = w.output ∧ (w.setRow g c').drawn = w.drawn := by
  unfold World.setRow
  simp

/-- Cells are written. -/
theorem wr_ok {a : Addr} {vs : List Value} {h' : Hp} (ok : HpOk U h) (s : Sat P lo μ h.look w) (hw : wr h a vs = some h') (hp : ∀ v ∈ vs, isPlain v = true) (hst : ∀ v ∈ vs, Stable (Vis U h) v) :
    ∃ w', (storeCells (renA μ a) (vs.map (ren μ))).run P w = .ok () w' ∧ Go2 P U lo μ μ h h' w w' := by
  unfold wr at hw
  obtain ⟨b, h1, h2⟩ := ob_eq_some.1 hw
  cases b with
  | map es c => simp [wrBlk] at h2
  | iter => simp [wrBlk] at h2
  | loop => simp [wrBlk] at h2
  | defb => simp [wrBlk] at h2
  | row cs e o =>
    simp only [wrBlk] at h2
    obtain ⟨r, h3, h4⟩ := om_eq_some.1 h2
    obtain ⟨h5, h6⟩ := setL_some.1 h3
    subst h4
    obtain ⟨c, hc1, hc2, hc3, hc4⟩ := s.blk _ _ h1
    have hrun := run_storeCells_at P (μ a.block).blk ((μ a.block).base + a.off) e (vs.map (ren μ)) 0 c w hc1 (by simp; omega) (by
      intro v hv
      obtain ⟨x, hx, rfl⟩ := List.mem_map.1 hv
      exact plain_ren μ (hp x hx))
    refine ⟨_, hrun, ?_⟩
    obtain ⟨f1, f2, f3, f4, _⟩ := setRow_facts (c' := (c.toList.take ((μ a.block).base + a.off + 0) ++ vs.map (ren μ) ++ c.toList.drop ((μ a.block).base + a.off + 0 + (vs.map (ren μ)).length)).toArray) hc1
    refine go2_put ok s h1 ?_ f1 (fun k hk => setRow_other w _ k _ hk) f2 f3 f4 ?_
    · intro b' hb'
      cases hb'
      intro v hv
      subst h6
      have hall := ok.st _ _ h1
      simp only [List.mem_append] at hv
      rcases hv with hv | hv | hv
      · exact hall v (List.mem_of_mem_take hv)
      · exact hst v hv
      · exact hall v (List.mem_of_mem_drop hv)
    · intro b' hb'
      cases hb'
      refine ⟨_, setRow_heap w _ c _ e (0, 0) hc1, ?_, ?_, ?_⟩
      · intro i v hv
        subst h6
        rw [append_map_get (f := id) h5] at hv
        have hl : c.toList.length = c.size := by simp
        rw [List.getElem?_toArray, List.append_assoc, append_map_get (f := id) (by simp; omega)]
        simp only [List.length_map, Nat.add_zero]
        by_cases h1' : i < a.off
        · rw [if_pos h1'] at hv
          rw [if_pos (by omega)]
          simpa using hc2 i v hv
        · rw [if_neg h1'] at hv
          rw [if_neg (by omega)]
          by_cases h2' : i < a.off + vs.length
          · rw [if_pos h2'] at hv
            rw [if_pos (by omega), List.getElem?_map, show (μ a.block).base + i - ((μ a.block).base + a.off) = i - a.off from by omega, hv]
            rfl
          · rw [if_neg h2'] at hv
            rw [if_neg (by omega)]
            simpa using hc2 i v hv
      · subst h6; simp; omega
      · cases o with
        | false => trivial
        | true =>
          simp only [if_true] at hc4 ⊢
          obtain ⟨sz, g1, g2, g3⟩ := hc4
          refine ⟨sz, g1, g2, ?_⟩
          subst h6; simp; omega

theorem store_ok {t : TypeId} {a v : Value} {h' : Hp} (ok : HpOk U h) (s : Sat P lo μ h.look w) (hv : Stable (Vis U h) v) (he : evStore P h t a v = some h') :
    ∃ w', (Instr.storeAt t (ren μ a) (ren μ v)).run P w = .ok () w' ∧ Go2 P U lo μ μ h h' w w' := by
  unfold evStore at he
  obtain ⟨a, h1, h2⟩ := ob_eq_some.1 he
  rw [addrOf_some] at h1
  subst h1
  obtain ⟨n, h3, h4⟩ := ob_eq_some.1 h2
  obtain ⟨h5, h6⟩ := ite'_eq_some.1 h4
  obtain ⟨h7, h8⟩ := ite'_eq_some.1 h6
  rw [beq_eq, lenL_eq, cellsOf_eq] at h5
  rw [allL_eq, List.all_eq_true, cellsOf_eq] at h7
  rw [cellsOf_eq] at h8
  obtain ⟨w', hr, hg⟩ := wr_ok ok s h8 h7 (stable_cells hv)
  refine ⟨w', ?_, hg⟩
  rw [ren_ptrA]
  have hc : (ren μ v).cells.size = n := by
    have := congrArg List.length (cells_ren μ v)
    simp at this; simp at h5; omega
  simp [Instr.storeAt, Instr.sureAddr, storeVar, run_size h3, hc, cells_ren, hr]

/-! Addresses. -/
theorem run_asIntOf {k : IntKind} {n : Int} (w : World) : (asIntOf (.int k n)).run P w = .ok (k, n) w := rfl

theorem ixAt_ok {i : Nat} {a : Addr} {len : Nat} {e : TypeId} {r : Value} (ha : Vis U h a.block) (he : ixAt P i a len e = some r) :
    ∃ s, sizeT P e = some s ∧ i < len ∧ r = .pointer (some (wf (i * s) a)) ∧ Stable (Vis U h) r := by
  unfold ixAt at he
  obtain ⟨h1, h2⟩ := ite'_eq_some.1 he
  rw [blt_eq] at h1
  obtain ⟨s, h3, h4⟩ := om_eq_some.1 h2
  subst h4
  exact ⟨s, h3, h1, rfl, stable_ptr ha⟩

theorem indexAddr_ok {t : TypeId} {x ix r : Value} (hx : Stable (Vis U h) x) (he : evIndexAddr P t x ix = some r) :
    (Instr.indexAt t (ren μ x) (ren μ ix)).run P w = .ok (ren μ r) w ∧ Stable (Vis U h) r := by
  unfold evIndexAddr at he
  obtain ⟨i, h1, h2⟩ := ob_eq_some.1 he
  obtain ⟨k, rfl⟩ := natOf_some.1 h1
  unfold ixB at h2
  cases hd : P.underlying t with
  | none => simp [hd, ixNo] at h2
  | some d =>
    simp only [hd] at h2
    cases d <;> simp only [ixD, ixNo] at h2 <;> try cases h2
    case slice e =>
      unfold ixSl at h2
      obtain ⟨y, h3, h4⟩ := ob_eq_some.1 h2
      rw [sliceOf_some] at h3
      obtain ⟨b, len, cap⟩ := y
      simp only at h3
      subst h3
      unfold ixS at h4
      simp only at h4
      obtain ⟨a, rfl, h6⟩ := ob_eq_some.1 h4
      obtain ⟨sz, g1, g2, rfl, g4⟩ := ixAt_ok (h := h) (stable_slice_inv hx) h6
      refine ⟨?_, g4⟩
      have hlt : (i : Int) < (len : Int) := by omega
      simp [Instr.indexAt, asIntOf, run_underlying hd, run_size g1, hlt, renA_wf]
      intro hh; omega
    case array len e =>
      unfold ixArr at h2
      obtain ⟨a, h3, h4⟩ := ob_eq_some.1 h2
      rw [addrOf_some] at h3
      subst h3
      obtain ⟨sz, g1, g2, rfl, g4⟩ := ixAt_ok (h := h) (stable_ptr_inv hx) h4
      refine ⟨?_, g4⟩
      have hlt : (i : Int) < (len : Int) := by omega
      simp [Instr.indexAt, asIntOf, Instr.sureAddr, run_underlying hd, run_size g1, hlt, renA_wf]
      intro hh; omega

theorem fieldOf_some {s : TypeId} {i : Nat} {f : Field} (hf : fieldOf P s i = some f) : ∃ fs, P.underlying s = some (.struct fs) ∧ fs[i]? = some f := by
  unfold fieldOf at hf
  obtain ⟨d, h1, h2⟩ := ob_eq_some.1 hf
  obtain ⟨fs, h3, h4⟩ := ob_eq_some.1 h2
  cases d <;> simp [structOf] at h3
  rename_i fields
  subst h3
  rw [nth_eq] at h4
  exact ⟨fields, h1, by simpa using h4⟩

theorem fieldAddr_ok {t : TypeId} {x r : Value} {i : Nat} (hx : Stable (Vis U h) x) (he : evFieldAddr P t x i = some r) :
    (Instr.fieldAt t (ren μ x) i).run P w = .ok (ren μ r) w ∧ Stable (Vis U h) r := by
  unfold evFieldAddr at he
  obtain ⟨n, h1, h2⟩ := ob_eq_some.1 he
  obtain ⟨a, h3, h4⟩ := om_eq_some.1 h2
  subst h4
  rw [addrOf_some] at h3
  subst h3
  unfold fb at h1
  cases hf : fieldOf P t i with
  | none => simp [hf] at h1
  | some f =>
    obtain ⟨fs, g1, g2⟩ := fieldOf_some hf
    simp only [hf, fbF] at h1
    cases hs : sizeT P f.type with
    | none => simp [hs] at h1
    | some m =>
      simp only [hs] at h1
      rw [ite'_eq] at h1
      split at h1
      · cases h1
      · rename_i hm
        rw [Bool.not_eq_true, beq_ne] at hm
        simp only [Option.some.injEq] at h1
        subst h1
        refine ⟨?_, stable_ptr (a := wf f.offset a) (show Vis U h a.block from stable_ptr_inv hx)⟩
        simp [Instr.fieldAt, run_underlying g1, g2, Instr.sureAddr, fieldPlace, run_size hs, hm, renA_wf]

theorem part_ok {t : TypeId} {cs : List Value} {off : Nat} {r : Value} (hc : ∀ v ∈ cs, Stable (Vis U h) v) (he : partOf P t cs off = some r) :
    (part t ⟨cs.map (ren μ)⟩ off).run P w = .ok (ren μ r) w ∧ Stable (Vis U h) r := by
  unfold partOf at he
  obtain ⟨b, h1, h2⟩ := ob_eq_some.1 he
  cases b with
  | true =>
    simp only [ite'_true] at h2
    obtain ⟨n, h3, h4⟩ := ob_eq_some.1 h2
    obtain ⟨l, h5, h6⟩ := om_eq_some.1 h4
    rw [dropL_eq] at h5
    obtain ⟨h7, h8⟩ := takeN_some.1 h5
    subst h6
    refine ⟨?_, stable_agg.2 fun v hv => hc v ?_⟩
    · rw [ren_agg]
      simp only [part, Sem.run_bind, run_agg h1, Result.andThen_ok, run_size h3, if_true, Sem.run_pure]
      congr 2
      apply Array.ext'
      subst h8
      simp [List.extract_eq_take_drop, List.map_take, List.map_drop]
    · subst h8; exact List.mem_of_mem_drop (List.mem_of_mem_take hv)
  | false =>
    simp only [ite'_false, nth_eq] at h2
    refine ⟨?_, hc r (List.mem_of_getElem? h2)⟩
    simp [part, run_agg h1, h2]

theorem field_ok {t : TypeId} {x r : Value} {i : Nat} (hx : Stable (Vis U h) x) (he : evField P t x i = some r) :
    (Instr.field t (ren μ x) i).run P w = .ok (ren μ r) w ∧ Stable (Vis U h) r := by
  unfold evField at he
  obtain ⟨f, h1, h2⟩ := ob_eq_some.1 he
  obtain ⟨cs, h3, h4⟩ := ob_eq_some.1 h2
  rw [aggOf_some] at h3
  subst h3
  obtain ⟨fs, g1, g2⟩ := fieldOf_some h1
  obtain ⟨p1, p2⟩ := part_ok (μ := μ) (w := w) (stable_agg.1 hx) h4
  refine ⟨?_, p2⟩
  rw [ren_agg]
  simp [Instr.field, run_underlying g1, g2, asAgg, p1]

theorem indexAgg_ok {t : TypeId} {cs : List Value} {ix r : Value} (hx : ∀ v ∈ cs, Stable (Vis U h) v) (he : evIndexAgg P t cs ix = some r) :
    (Instr.index t (ren μ (.agg ⟨cs⟩)) (ren μ ix)).run P w = .ok (ren μ r) w ∧ Stable (Vis U h) r := by
  unfold evIndexAgg at he
  obtain ⟨i, h1, h2⟩ := ob_eq_some.1 he
  obtain ⟨k, rfl⟩ := natOf_some.1 h1
  obtain ⟨d, h3, h4⟩ := ob_eq_some.1 h2
  obtain ⟨ne, h5, h6⟩ := ob_eq_some.1 h4
  obtain ⟨h7, h8⟩ := ite'_eq_some.1 h6
  obtain ⟨sz, h9, h10⟩ := ob_eq_some.1 h8
  cases d <;> simp [arrOf] at h5
  rename_i len elem
  subst h5
  simp only at h7 h9 h10
  rw [blt_eq] at h7
  obtain ⟨p1, p2⟩ := part_ok (μ := μ) (w := w) hx h10
  refine ⟨?_, p2⟩
  rw [ren_agg, ren_int]
  have hlt : (i : Int) < (len : Int) := by omega
  simp [Instr.index, asIntOf, run_underlying h3, run_size h9, h7]
  simpa using p1

end
end Go.Ev
