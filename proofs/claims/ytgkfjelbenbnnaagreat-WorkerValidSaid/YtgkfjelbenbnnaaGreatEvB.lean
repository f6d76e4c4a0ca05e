import Derived.Test.YtgkfjelbenbnnaaGreatEvA
namespace Go.Ev
set_option linter.unusedVariables false
set_option linter.unusedSimpArgs false

/-! Renaming: where an abstract block lies. -/

structure Pl where
  blk : Nat
  base : Nat
  ext : Nat

abbrev Mu := Nat → Pl
abbrev Ids := Nat → Prop
abbrev Look := Nat → Option Blk

def renA (μ : Mu) (a : Addr) : Addr := ⟨(μ a.block).blk, (μ a.block).base + a.off, none⟩
def renCap (μ : Mu) (a : Addr) (cap : Nat) : Nat := if OPEN ≤ cap then cap - OPEN + (μ a.block).ext else cap

mutual
def ren (μ : Mu) : Value → Value
  | .bool b => .bool b
  | .int k n => .int k n
  | .float k n => .float k n
  | .complex k a b => .complex k a b
  | .string s => .string s
  | .pointer a => .pointer (a.map (renA μ))
  | .slice none n c => .slice none n c
  | .slice (some a) n c => .slice (some (renA μ a)) n (renCap μ a c)
  | .map r => .map (r.map fun r => (μ r).blk)
  | .chan r => .chan r
  | .func f a b => .func f (renArr μ a) (renArr μ b)
  | .nilFunc => .nilFunc
  | .iface t v => .iface t (ren μ v)
  | .nilIface => .nilIface
  | .agg cs => .agg (renArr μ cs)
  | .tuple vs => .tuple (renArr μ vs)
def renArr (μ : Mu) : Array Value → Array Value
  | ⟨l⟩ => ⟨renL μ l⟩
def renL (μ : Mu) : List Value → List Value
  | [] => []
  | v :: l => ren μ v :: renL μ l
end

theorem renL_eq (μ : Mu) (l : List Value) : renL μ l = l.map (ren μ) := by
  induction l with
  | nil => simp [renL]
  | cons a l ih => simp [renL, ih]
theorem renArr_eq (μ : Mu) (a : Array Value) : renArr μ a = a.map (ren μ) := by
  cases a; simp [renArr, renL_eq]
theorem renArr_toList (μ : Mu) (a : Array Value) : (renArr μ a).toList = a.toList.map (ren μ) := by
  cases a; simp [renArr, renL_eq]
theorem renArr_mk (μ : Mu) (l : List Value) : renArr μ ⟨l⟩ = ⟨l.map (ren μ)⟩ := by simp [renArr, renL_eq]
theorem ren_agg (μ : Mu) (l : List Value) : ren μ (.agg ⟨l⟩) = .agg ⟨l.map (ren μ)⟩ := by rw [ren, renArr_mk]
theorem ren_tuple (μ : Mu) (l : List Value) : ren μ (.tuple ⟨l⟩) = .tuple ⟨l.map (ren μ)⟩ := by rw [ren, renArr_mk]
theorem ren_func (μ : Mu) (f : Fn) (a b : List Value) : ren μ (.func f ⟨a⟩ ⟨b⟩) = .func f ⟨a.map (ren μ)⟩ ⟨b.map (ren μ)⟩ := by rw [ren, renArr_mk, renArr_mk]
@[simp] theorem ren_bool (μ : Mu) (b : Bool) : ren μ (.bool b) = .bool b := by rw [ren]
@[simp] theorem ren_int (μ : Mu) (k : IntKind) (n : Int) : ren μ (.int k n) = .int k n := by rw [ren]
@[simp] theorem ren_string (μ : Mu) (s : ByteArray) : ren μ (.string s) = .string s := by rw [ren]
@[simp] theorem ren_undef (μ : Mu) : ren μ undef = undef := by rw [undef, ren_tuple]; rfl
@[simp] theorem ren_ptr (μ : Mu) (id off : Nat) : ren μ (ptr id off) = .pointer (some ⟨(μ id).blk, (μ id).base + off, none⟩) := by rw [ptr, ren]; rfl
@[simp] theorem ren_ptrA (μ : Mu) (a : Addr) : ren μ (.pointer (some a)) = .pointer (some (renA μ a)) := by rw [ren]; rfl
@[simp] theorem ren_ptr0 (μ : Mu) : ren μ (.pointer none) = .pointer none := by rw [ren]; rfl
@[simp] theorem ren_map0 (μ : Mu) : ren μ (.map none) = .map none := by rw [ren]; rfl
@[simp] theorem ren_map1 (μ : Mu) (r : Nat) : ren μ (.map (some r)) = .map (some (μ r).blk) := by rw [ren]; rfl
@[simp] theorem ren_slice0 (μ : Mu) (n c : Nat) : ren μ (.slice none n c) = .slice none n c := by rw [ren]
@[simp] theorem ren_slice1 (μ : Mu) (a : Addr) (n c : Nat) : ren μ (.slice (some a) n c) = .slice (some (renA μ a)) n (renCap μ a c) := by rw [ren]
@[simp] theorem ren_nilFunc (μ : Mu) : ren μ .nilFunc = .nilFunc := by rw [ren]
@[simp] theorem ren_nilIface (μ : Mu) : ren μ .nilIface = .nilIface := by rw [ren]
@[simp] theorem ren_iface (μ : Mu) (t : TypeId) (v : Value) : ren μ (.iface t v) = .iface t (ren μ v) := by rw [ren]

/-- The value does not look at the renaming outside S. -/
def Stable (S : Ids) (v : Value) : Prop := ∀ μ μ' : Mu, (∀ id, S id → μ id = μ' id) → ren μ v = ren μ' v

theorem Stable.mono {S S' : Ids} {v : Value} (h : Stable S v) (hs : ∀ id, S id → S' id) : Stable S' v := fun _ _ e => h _ _ fun id hi => e id (hs id hi)
theorem stable_of_const {S : Ids} {v : Value} (h : ∀ μ, ren μ v = v) : Stable S v := fun μ μ' _ => by rw [h, h]
theorem stable_list {S : Ids} {l : List Value} (h : ∀ v ∈ l, Stable S v) (μ μ' : Mu) (e : ∀ id, S id → μ id = μ' id) : l.map (ren μ) = l.map (ren μ') :=
  List.map_congr_left fun v hv => h v hv μ μ' e
theorem stable_of_list {S : Ids} {l : List Value} (h : ∀ μ μ' : Mu, (∀ id, S id → μ id = μ' id) → l.map (ren μ) = l.map (ren μ')) : ∀ v ∈ l, Stable S v := by
  intro v hv μ μ' e
  have := h μ μ' e
  exact List.map_inj_left.1 this v hv
theorem stable_agg {S : Ids} {l : List Value} : Stable S (.agg ⟨l⟩) ↔ ∀ v ∈ l, Stable S v := by
  constructor
  · intro h
    refine stable_of_list fun μ μ' e => ?_
    have := h μ μ' e
    rw [ren_agg, ren_agg] at this
    simpa using this
  · intro h μ μ' e
    rw [ren_agg, ren_agg, stable_list h μ μ' e]
theorem stable_tuple {S : Ids} {l : List Value} : Stable S (.tuple ⟨l⟩) ↔ ∀ v ∈ l, Stable S v := by
  constructor
  · intro h
    refine stable_of_list fun μ μ' e => ?_
    have := h μ μ' e
    rw [ren_tuple, ren_tuple] at this
    simpa using this
  · intro h μ μ' e
    rw [ren_tuple, ren_tuple, stable_list h μ μ' e]
theorem stable_func {S : Ids} {f : Fn} {a b : List Value} : Stable S (.func f ⟨a⟩ ⟨b⟩) ↔ (∀ v ∈ a, Stable S v) ∧ ∀ v ∈ b, Stable S v := by
  constructor
  · intro h
    constructor
    · refine stable_of_list fun μ μ' e => ?_
      have := h μ μ' e
      rw [ren_func, ren_func] at this
      simpa using (Value.func.inj this).2.1
    · refine stable_of_list fun μ μ' e => ?_
      have := h μ μ' e
      rw [ren_func, ren_func] at this
      simpa using (Value.func.inj this).2.2
  · rintro ⟨h1, h2⟩ μ μ' e
    rw [ren_func, ren_func, stable_list h1 μ μ' e, stable_list h2 μ μ' e]
theorem stable_iface {S : Ids} {t : TypeId} {v : Value} : Stable S (.iface t v) ↔ Stable S v := by
  constructor
  · intro h μ μ' e
    have := h μ μ' e
    rw [ren_iface, ren_iface] at this
    exact (Value.iface.inj this).2
  · intro h μ μ' e
    rw [ren_iface, ren_iface, h μ μ' e]
/-- A place's number is looked at by a pointer. -/
theorem stable_ptr {S : Ids} {a : Addr} (h : S a.block) : Stable S (.pointer (some a)) := fun μ μ' e => by
  rw [ren_ptrA, ren_ptrA]; unfold renA; rw [e _ h]
theorem stable_slice {S : Ids} {a : Addr} {n c : Nat} (h : S a.block) : Stable S (.slice (some a) n c) := fun μ μ' e => by
  rw [ren_slice1, ren_slice1]; unfold renA renCap; rw [e _ h]
theorem stable_map {S : Ids} {r : Nat} (h : S r) : Stable S (.map (some r)) := fun μ μ' e => by
  rw [ren_map1, ren_map1, e _ h]
theorem stable_ptr_inv {S : Ids} {a : Addr} (h : Stable S (.pointer (some a))) : S a.block := by
  false_or_by_contra
  rename_i hn
  have := h (fun id => if id = a.block then ⟨1, 0, 0⟩ else ⟨0, 0, 0⟩) (fun _ => ⟨0, 0, 0⟩) fun id hi => by
    rw [if_neg (by rintro rfl; exact hn hi)]
  simp [renA] at this
theorem stable_slice_inv {S : Ids} {a : Addr} {n c : Nat} (h : Stable S (.slice (some a) n c)) : S a.block := by
  false_or_by_contra
  rename_i hn
  have := h (fun id => if id = a.block then ⟨1, 0, 0⟩ else ⟨0, 0, 0⟩) (fun _ => ⟨0, 0, 0⟩) fun id hi => by
    rw [if_neg (by rintro rfl; exact hn hi)]
  simp [renA] at this
theorem stable_map_inv {S : Ids} {r : Nat} (h : Stable S (.map (some r))) : S r := by
  false_or_by_contra
  rename_i hn
  have := h (fun id => if id = r then ⟨1, 0, 0⟩ else ⟨0, 0, 0⟩) (fun _ => ⟨0, 0, 0⟩) fun id hi => by
    rw [if_neg (by rintro rfl; exact hn hi)]
  simp at this

/-! Values without addresses. -/
theorem ren_closed {v : Value} (h : closed v = true) (μ : Mu) : ren μ v = v := by
  unfold closed at h
  split at h <;> simp at h ⊢
theorem ren_closedL {l : List Value} (h : closedL l = true) (μ : Mu) : l.map (ren μ) = l := by
  unfold closedL at h
  rw [allL_eq, List.all_eq_true] at h
  conv => rhs; rw [← List.map_id l]
  exact List.map_congr_left fun v hv => ren_closed (h v hv) μ
theorem ren_closedA {v : Value} (h : closedA v = true) (μ : Mu) : ren μ v = v := by
  unfold closedA at h
  split at h
  · rename_i cs; obtain ⟨l⟩ := cs; rw [ren_agg, ren_closedL h]
  · rw [ren_iface, ren_closed h]
  · rename_i vs; obtain ⟨l⟩ := vs; rw [ren_tuple, ren_closedL h]
  · exact ren_closed h μ
theorem stable_closed {S : Ids} {v : Value} (h : closed v = true) : Stable S v := stable_of_const (ren_closed h)
theorem stable_closedA {S : Ids} {v : Value} (h : closedA v = true) : Stable S v := stable_of_const (ren_closedA h)

/-! Blocks. -/
def renE (μ : Mu) (e : MapEntry) : MapEntry := { key := ren μ e.key, val := ren μ e.val, born := e.born }
def StableE (S : Ids) (e : MapEntry) : Prop := Stable S e.key ∧ Stable S e.val

/-- What lies in memory for an abstract block. -/
def BlkOk (P : Program) (w : World) (μ : Mu) (id : Nat) : Blk → Prop
  | .row cs e o => ∃ c, w.heap[(μ id).blk]? = some (.cells c e (0, 0)) ∧ (∀ i v, cs[i]? = some v → c[(μ id).base + i]? = some (ren μ v)) ∧ (μ id).base + cs.length ≤ c.size ∧
      (if o then ∃ s, sizeT P e = some s ∧ 0 < s ∧ c.size = (μ id).base + cs.length + (μ id).ext * s else True)
  | .map es clock => w.heap[(μ id).blk]? = some (.map (es.map (renE μ)).toArray clock)
  | .iter m since seen st => (μ id).base = 0 ∧ w.heap[(μ id).blk]? = some (.mapIter (m.map fun r => (μ r).blk) since seen.toArray st)

def StB (S : Ids) : Blk → Prop
  | .row cs _ _ => ∀ v ∈ cs, Stable S v
  | .map es _ => ∀ e ∈ es, StableE S e
  | .iter m _ _ _ => ∀ r, m = some r → S r

theorem StB.mono {S S' : Ids} {b : Blk} (h : StB S b) (hs : ∀ id, S id → S' id) : StB S' b := by
  cases b with
  | row cs e o => exact fun v hv => (h v hv).mono hs
  | map es c => exact fun e he => ⟨(h e he).1.mono hs, (h e he).2.mono hs⟩
  | iter m a b c => exact fun r hr => hs r (h r hr)

/-- The block reads the same under another renaming and in another world. -/
theorem BlkOk.move {P : Program} {w w' : World} {μ μ' : Mu} {id : Nat} {b : Blk} {S : Ids} (h : BlkOk P w μ id b) (hst : StB S b) (hS : ∀ i, S i → μ' i = μ i) (hid : μ' id = μ id)
    (hw : w'.heap[(μ id).blk]? = w.heap[(μ id).blk]?) : BlkOk P w' μ' id b := by
  cases b with
  | row cs e o =>
    obtain ⟨c, h1, h2, h3⟩ := h
    refine ⟨c, by rw [hid, hw, h1], ?_, by rw [hid]; exact h3⟩
    intro i v hv
    rw [hid, h2 i v hv, hst v (List.mem_of_getElem? hv) μ' μ hS]
  | map es clock =>
    have h' : w.heap[(μ id).blk]? = some (.map (es.map (renE μ)).toArray clock) := h
    show w'.heap[(μ' id).blk]? = some (.map (es.map (renE μ')).toArray clock)
    rw [hid, hw, h']
    congr 3
    refine List.map_congr_left fun e he => ?_
    unfold renE
    rw [(hst e he).1 μ μ' fun i hi => (hS i hi).symm, (hst e he).2 μ μ' fun i hi => (hS i hi).symm]
  | iter m since seen st =>
    obtain ⟨h0, h1⟩ := h
    refine ⟨by rw [hid, h0], ?_⟩
    rw [hid, hw, h1]
    cases m with
    | none => rfl
    | some r => simp [hS r (hst r rfl)]

theorem BlkOk.lt {P : Program} {w : World} {μ : Mu} {id : Nat} {b : Blk} (h : BlkOk P w μ id b) : (μ id).blk < w.heap.size := by
  have key : ∀ o, w.heap[(μ id).blk]? = some o → (μ id).blk < w.heap.size := by
    intro o ho
    rcases Nat.lt_or_ge (μ id).blk w.heap.size with h | h
    · exact h
    · rw [Array.getElem?_eq_none h] at ho; cases ho
  cases b with
  | row cs e o => obtain ⟨c, h1, _⟩ := h; exact key _ h1
  | map es c => exact key _ h
  | iter m a b c => exact key _ h.2

/-- The abstract blocks that can be seen lie in memory, each in a block of its own, from lo on. -/
structure Sat (P : Program) (lo : Nat) (μ : Mu) (look : Look) (w : World) : Prop where
  low : ∀ id, id < 1000 → μ id = ⟨id, 0, 0⟩
  blk : ∀ id b, look id = some b → BlkOk P w μ id b
  inj : ∀ id id' b b', look id = some b → look id' = some b' → (μ id).blk = (μ id').blk → id = id'
  lo : ∀ id b, look id = some b → lo ≤ (μ id).blk

/-- What has come of the world behind a step: F: the new numbers; W: the old ones that may have been written to. -/
structure Post (P : Program) (lo : Nat) (F W : Ids) (μ μ' : Mu) (look look' : Look) (w w' : World) : Prop where
  agree : ∀ id, ¬ F id → μ' id = μ id
  sat : Sat P lo μ' look' w'
  keep : ∀ id, ¬ F id → ¬ W id → look' id = look id
  old : ∀ id b', ¬ F id → look' id = some b' → ∃ b, look id = some b
  size : w.heap.size ≤ w'.heap.size
  frame : ∀ b, b < w.heap.size → (∀ id blk, W id → look id = some blk → (μ id).blk ≠ b) → w'.heap[b]? = w.heap[b]?
  fresh : ∀ id b', F id → look' id = some b' → w.heap.size ≤ (μ' id).blk ∨ ∃ id0 b0, W id0 ∧ look id0 = some b0 ∧ (μ id0).blk = (μ' id).blk
  os : w'.os = w.os
  tape : w'.tape = w.tape
  output : w'.output = w.output

theorem Post.refl {P : Program} {lo : Nat} {μ : Mu} {look : Look} {w : World} (h : Sat P lo μ look w) : Post P lo (fun _ => False) (fun _ => False) μ μ look look w w where
  agree _ _ := rfl
  sat := h
  keep _ _ _ := rfl
  old _ b _ h := ⟨b, h⟩
  size := Nat.le_refl _
  frame _ _ _ := rfl
  fresh _ _ h := h.elim
  os := rfl
  tape := rfl
  output := rfl

theorem Post.mono {P : Program} {lo : Nat} {F F' W W' : Ids} {μ μ' : Mu} {look look' : Look} {w w' : World} (h : Post P lo F W μ μ' look look' w w')
    (hF : ∀ id, F id → F' id) (hW : ∀ id, W id → W' id) (hF' : ∀ id b, F' id → ¬ F id → look' id ≠ some b) : Post P lo F' W' μ μ' look look' w w' where
  agree id hn := h.agree id fun hf => hn (hF id hf)
  sat := h.sat
  keep id hn hw := h.keep id (fun hf => hn (hF id hf)) fun hf => hw (hW id hf)
  old id b' hn := h.old id b' fun hf => hn (hF id hf)
  size := h.size
  frame b hb hn := h.frame b hb fun id blk hw hl => hn id blk (hW id hw) hl
  fresh id b' hf hl := by
    by_cases hF0 : F id
    · rcases h.fresh id b' hF0 hl with h1 | ⟨id0, b0, h1, h2, h3⟩
      · exact .inl h1
      · exact .inr ⟨id0, b0, hW _ h1, h2, h3⟩
    · exact absurd hl (hF' id b' hf hF0)
  os := h.os
  tape := h.tape
  output := h.output

theorem Post.trans {P : Program} {lo : Nat} {F1 F2 W1 W2 : Ids} {μ μ1 μ2 : Mu} {look look1 look2 : Look} {w w1 w2 : World}
    (h1 : Post P lo F1 W1 μ μ1 look look1 w w1) (h2 : Post P lo F2 W2 μ1 μ2 look1 look2 w1 w2) :
    Post P lo (fun id => F1 id ∨ F2 id) (fun id => W1 id ∨ W2 id) μ μ2 look look2 w w2 where
  agree id hn := (h2.agree id fun h => hn (.inr h)).trans (h1.agree id fun h => hn (.inl h))
  sat := h2.sat
  keep id hn hw := (h2.keep id (fun h => hn (.inr h)) fun h => hw (.inr h)).trans (h1.keep id (fun h => hn (.inl h)) fun h => hw (.inl h))
  old id b' hn hl := by
    obtain ⟨b, hb⟩ := h2.old id b' (fun h => hn (.inr h)) hl
    exact h1.old id b (fun h => hn (.inl h)) hb
  size := Nat.le_trans h1.size h2.size
  frame b hb hn := by
    rw [h2.frame b (Nat.lt_of_lt_of_le hb h1.size) ?_, h1.frame b hb fun id blk hw hl => hn id blk (.inl hw) hl]
    intro id blk hw hl
    by_cases hf : F1 id
    · rcases h1.fresh id blk hf hl with h | ⟨id0, b0, h3, h4, h5⟩
      · omega
      · rw [← h5]; exact hn id0 b0 (.inl h3) h4
    · obtain ⟨b0, hb0⟩ := h1.old id blk hf hl
      rw [h1.agree id hf]
      exact hn id b0 (.inr hw) hb0
  fresh id b' hf hl := by
    by_cases hf2 : F2 id
    · rcases h2.fresh id b' hf2 hl with h | ⟨id0, b0, h3, h4, h5⟩
      · exact .inl (Nat.le_trans h1.size h)
      · by_cases hf1 : F1 id0
        · rcases h1.fresh id0 b0 hf1 h4 with h | ⟨id1, b1, h6, h7, h8⟩
          · exact .inl (by omega)
          · exact .inr ⟨id1, b1, .inl h6, h7, by omega⟩
        · obtain ⟨b1, hb1⟩ := h1.old id0 b0 hf1 h4
          exact .inr ⟨id0, b1, .inr h3, hb1, by rw [← h5, h1.agree id0 hf1]⟩
    · have hf1 : F1 id := hf.resolve_right hf2
      obtain ⟨b1, hb1⟩ := h2.old id b' hf2 hl
      rw [h2.agree id hf2]
      rcases h1.fresh id b1 hf1 hb1 with h | ⟨id1, b2, h6, h7, h8⟩
      · exact .inl h
      · exact .inr ⟨id1, b2, .inl h6, h7, h8⟩
  os := h2.os.trans h1.os
  tape := h2.tape.trans h1.tape
  output := h2.output.trans h1.output

/-- What can be seen beside what a step sees. -/
def besides (F : Ids) [DecidablePred F] (look look' lookD : Look) : Look := fun id => if F id ∨ (look id).isSome then look' id else lookD id

/-- A step that sees less holds where more can be seen. -/
theorem Post.framed {P : Program} {lo : Nat} {F W : Ids} [DecidablePred F] {μ μ' : Mu} {look look' lookD : Look} {w w' : World} {S : Ids}
    (h : Post P lo F W μ μ' look look' w w') (hD : Sat P lo μ lookD w) (hsub : ∀ id b, look id = some b → lookD id = some b) (hF : ∀ id, F id → lookD id = none)
    (hS : ∀ id, S id → ¬ F id) (hst : ∀ id b, lookD id = some b → look id = none → StB S b) :
    Post P lo F (fun id => W id ∧ (look id).isSome) μ μ' lookD (besides F look look' lookD) w w' := by
  have rest : ∀ id b, ¬ (F id ∨ (look id).isSome) → lookD id = some b → BlkOk P w' μ' id b := by
    intro id b hn hb
    have hl : look id = none := by
      cases e : look id with
      | none => rfl
      | some x => exact absurd (.inr (by simp [e])) hn
    refine (hD.blk id b hb).move (hst id b hb hl) (fun i hi => h.agree i (hS i hi)) (h.agree id fun hf => hn (.inl hf)) ?_
    refine h.frame _ (hD.blk id b hb).lt ?_
    intro id1 blk1 _ hl1 e
    have := hD.inj id1 id blk1 b (hsub _ _ hl1) hb e
    subst this
    rw [hl] at hl1; cases hl1
  refine ⟨h.agree, ⟨h.sat.low, ?_, ?_, ?_⟩, ?_, ?_, h.size, ?_, ?_, h.os, h.tape, h.output⟩
  · intro id b hb
    unfold besides at hb
    split at hb
    · exact h.sat.blk id b hb
    · rename_i hn; exact rest id b hn hb
  · have mixed : ∀ id id' b b', (F id ∨ (look id).isSome) → ¬ (F id' ∨ (look id').isSome) → look' id = some b → lookD id' = some b' → (μ' id).blk = (μ' id').blk → False := by
      intro id id' b b' hy hn hb hb' e
      rw [h.agree id' fun hf => hn (.inl hf)] at e
      have hl' : look id' = none := by
        cases e : look id' with
        | none => rfl
        | some x => exact absurd (.inr (by simp [e])) hn
      by_cases hf : F id
      · rcases h.fresh id b hf hb with h1 | ⟨id0, b0, h1, h2, h3⟩
        · have := (hD.blk id' b' hb').lt; omega
        · have := hD.inj id0 id' b0 b' (hsub _ _ h2) hb' (by omega)
          subst this
          rw [hl'] at h2; cases h2
      · obtain ⟨b0, hb0⟩ := h.old id b hf hb
        rw [h.agree id hf] at e
        have := hD.inj id id' b0 b' (hsub _ _ hb0) hb' e
        subst this
        rw [hl'] at hb0; cases hb0
    intro id id' b b' hb hb' e
    unfold besides at hb hb'
    split at hb <;> split at hb'
    · exact h.sat.inj id id' b b' hb hb' e
    · rename_i hy hn; exact (mixed id id' b b' hy hn hb hb' e).elim
    · rename_i hn hy; exact (mixed id' id b' b hy hn hb' hb e.symm).elim
    · rename_i hn hn'
      rw [h.agree id fun hf => hn (.inl hf), h.agree id' fun hf => hn' (.inl hf)] at e
      exact hD.inj id id' b b' hb hb' e
  · intro id b hb
    unfold besides at hb
    split at hb
    · exact h.sat.lo id b hb
    · rename_i hn
      rw [h.agree id fun hf => hn (.inl hf)]
      exact hD.lo id b hb
  · intro id hn hw
    unfold besides
    split
    · rename_i hy
      have hy' := hy.resolve_left hn
      obtain ⟨x, hx⟩ := Option.isSome_iff_exists.1 hy'
      rw [h.keep id hn fun hw' => hw ⟨hw', hy'⟩, hx, hsub _ _ hx]
    · rfl
  · intro id b' hn hl
    unfold besides at hl
    split at hl
    · obtain ⟨b, hb⟩ := h.old id b' hn hl
      exact ⟨b, hsub _ _ hb⟩
    · exact ⟨b', hl⟩
  · intro b hb hn
    refine h.frame b hb fun id blk hw hl => hn id blk ⟨hw, by simp [hl]⟩ (hsub _ _ hl)
  · intro id b' hf hl
    unfold besides at hl
    rw [if_pos (.inl hf)] at hl
    rcases h.fresh id b' hf hl with h1 | ⟨id0, b0, h1, h2, h3⟩
    · exact .inl h1
    · exact .inr ⟨id0, b0, ⟨h1, by simp [h2]⟩, hsub _ _ h2, h3⟩

end Go.Ev
