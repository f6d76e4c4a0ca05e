/- A verified evaluator: a part of it. -/
import Derived.Test.YtaokhbanpfmkmaaGreatEvY
namespace Go.Ev
set_option linter.unusedVariables false
set_option linter.unusedSimpArgs false

/-! Calls that are run once: renamed arguments, a small heap of their own. -/

noncomputable section
def ridA (κ : Nat → Nat) (a : Addr) : Addr := ⟨κ a.block, a.off, none⟩
def omap {α β : Type} (k : α → β) (x : Option α) : Option β := Option.rec none (fun a => some (k a)) x
/-- The numbers in a value, renamed. -/
def rid (κ : Nat → Nat) (v : Value) : Value :=
  Value.rec (motive_1 := fun _ => Value) (motive_2 := fun _ => List Value) (motive_3 := fun _ => List Value)
    (fun b => .bool b) (fun k n => .int k n) (fun k n => .float k n) (fun k a b => .complex k a b) (fun s => .string s)
    (fun a => .pointer (omap (ridA κ) a)) (fun a n c => .slice (omap (ridA κ) a) n c) (fun r => .map (omap κ r)) (fun r => .chan (omap κ r))
    (fun f _ _ a b => .func f ⟨a⟩ ⟨b⟩) .nilFunc (fun t _ v => .iface t v) .nilIface (fun _ l => .agg ⟨l⟩) (fun _ l => .tuple ⟨l⟩)
    (fun _ l => l) [] (fun _ _ v l => v :: l) v
def ridE (κ : Nat → Nat) (e : MapEntry) : MapEntry := { key := rid κ e.key, val := rid κ e.val, born := e.born }
def ridB (κ : Nat → Nat) : Blk → Blk
  | .row cs e o => .row (mapL (rid κ) cs) e o
  | .map es c => .map (mapL (ridE κ) es) c
  | b => b

def putL (l : List (Option Blk)) : Nat → T Blk → T Blk :=
  List.rec (motive := fun _ => Nat → T Blk → T Blk) (fun _ t => t) (fun b _ ih n t => ih (Nat.succ n) (t.put n b)) l
def putAt (ids : List Nat) : List (Option Blk) → T Blk → T Blk :=
  List.rec (motive := fun _ => List (Option Blk) → T Blk → T Blk) (fun _ t => t) (fun a _ ih bs t => List.rec (motive := fun _ => T Blk) t (fun b r _ => ih r (t.put a b)) bs) ids
def minL (l : List Nat) (n : Nat) : Nat := List.rec (motive := fun _ => Nat) n (fun a _ ih => minN a ih) l
def someL (l : List Blk) : List (Option Blk) := mapL some l
def hpOf (pre : List Blk) : Hp := ⟨putL (someL pre) 1000 .nil, Nat.add 1000 (lenL pre), BIG, []⟩

/-- A known call's end: its value, its old blocks from number 1000 + j on, its new ones. -/
structure Said where
  v : Value
  j : Nat
  tail : List (Option Blk)
  new : List Blk

def hpSaid (pre : List Blk) (s : Said) : Hp :=
  ⟨putL (someL s.new) (Nat.add 1000 (lenL pre)) (putL s.tail (Nat.add 1000 s.j) (putL (someL pre) 1000 .nil)), Nat.add (Nat.add 1000 (lenL pre)) (lenL s.new), Nat.add 1000 s.j, []⟩

def kapN (io : List Nat) (k next : Nat) (id : Nat) : Nat := ite' (Nat.blt id (Nat.add 1000 k)) (kap io id) (Nat.add next (Nat.sub id (Nat.add 1000 k)))
def newHp (h : Hp) (io : List Nat) (s : Said) : Hp :=
  ⟨putL (mapL (fun b => some (ridB (kapN io (lenL io) h.next) b)) s.new) h.next (putAt (dropL io s.j) (mapL (omap (ridB (kapN io (lenL io) h.next))) s.tail) h.m), Nat.add h.next (lenL s.new), minL (dropL io s.j) h.mw, h.hid⟩

def memL (a : Nat) (l : List Nat) : Bool := List.rec (motive := fun _ => Bool) false (fun b _ ih => ite' (Nat.beq a b) true ih) l
def nodupL (l : List Nat) : Bool := List.rec (motive := fun _ => Bool) true (fun a r ih => ite' (memL a r) false ih) l
def allBig (l : List Nat) : Bool := allL (fun a => Nat.ble 1000 a) l

def mPre (h : Hp) (pre : List Blk) : Nat → MS :=
  List.rec (motive := fun _ => Nat → MS) (fun _ => mOk) (fun b _ ih i io => ob (nth io i) fun a => ob (h.look a) fun ba => ob (mBlk b ba io) (ih (Nat.succ i))) pre
def matchAll (argsc : List Value) (pre : List Blk) (args : List Value) (h : Hp) : Option (List Nat) :=
  ob (mVals argsc args []) fun io => ob (mPre h pre 0 io) fun io => ite' (Nat.beq (lenL io) (lenL pre)) (ite' (nodupL io) (ite' (allBig io) (some io) none) none) none

def idL (k : Nat) : List Nat := Nat.rec (motive := fun _ => Nat → List Nat) (fun _ => []) (fun _ ih n => n :: ih (Nat.succ n)) k 1000
def mTail (h : Hp) (tail : List (Option Blk)) : Nat → MS :=
  List.rec (motive := fun _ => Nat → MS) (fun _ => mOk) (fun b _ ih n io => Option.rec (ih (Nat.succ n) io) (fun b => ob (h.look n) fun br => ob (mBlk b br io) (ih (Nat.succ n))) b) tail
/-- What is said of a run is so. -/
def ckRet (pre : List Blk) (s : Said) (vr : Value) (hr : Hp) : Bool :=
  ite' (Nat.ble (Nat.add 1000 s.j) hr.mw) (ite' (Nat.beq (Nat.add s.j (lenL s.tail)) (lenL pre))
    (Option.rec false (fun io => ite' (Nat.beq (lenL io) (Nat.add (lenL pre) (lenL s.new))) (nodupL io) false)
      (ob (mVal s.v vr (idL (lenL pre))) fun io => ob (mTail hr s.tail (Nat.add 1000 s.j) io) fun io => mPre hr s.new (lenL pre) io)) false) false
def ck (pre : List Blk) (s : Said) (r : CRes) : Bool := CRes.rec (motive := fun _ => Bool) (fun v h => ckRet pre s v h) (fun _ _ => false) false r
end

/-! Renamed values and blocks. -/
theorem omap_eq {α β : Type} (k : α → β) (x : Option α) : omap k x = x.map k := by cases x <;> rfl

theorem ren_rid (κ : Nat → Nat) (v : Value) : ∀ μ : Mu, ren μ (rid κ v) = ren (fun id => μ (κ id)) v := by
  refine Value.rec (motive_1 := fun v => ∀ μ : Mu, ren μ (rid κ v) = ren (fun id => μ (κ id)) v) (motive_2 := fun (a : Array Value) => ∀ μ : Mu, (mapL (rid κ) a.toList).map (ren μ) = a.toList.map (ren fun id => μ (κ id)))
    (motive_3 := fun l => ∀ μ : Mu, (mapL (rid κ) l).map (ren μ) = l.map (ren fun id => μ (κ id))) ?_ ?_ ?_ ?_ ?_ ?_ ?_ ?_ ?_ ?_ ?_ ?_ ?_ ?_ ?_ ?_ ?_ ?_ v
  · intro b μ; rw [show rid κ (.bool b) = .bool b from rfl]; simp
  · intro k n μ; rw [show rid κ (.int k n) = .int k n from rfl]; simp
  · intro k n μ; rw [show rid κ (.float k n) = .float k n from rfl, ren, ren]
  · intro k a b μ; rw [show rid κ (.complex k a b) = .complex k a b from rfl, ren, ren]
  · intro s μ; rw [show rid κ (.string s) = .string s from rfl]; simp
  · intro a μ
    cases a with
    | none => rw [show rid κ (.pointer none) = .pointer none from rfl]; simp
    | some a => rw [show rid κ (.pointer (some a)) = .pointer (some (ridA κ a)) from rfl, ren_ptrA, ren_ptrA]; rfl
  · intro a n c μ
    cases a with
    | none => rw [show rid κ (.slice none n c) = .slice none n c from rfl]; simp
    | some a => rw [show rid κ (.slice (some a) n c) = .slice (some (ridA κ a)) n c from rfl, ren_slice1, ren_slice1]; rfl
  · intro r μ
    cases r with
    | none => rw [show rid κ (.map none) = .map none from rfl]; simp
    | some r => rw [show rid κ (.map (some r)) = .map (some (κ r)) from rfl, ren_map1, ren_map1]
  · intro r μ
    cases r with
    | none => rw [show rid κ (.chan none) = .chan none from rfl, ren, ren]
    | some r => rw [show rid κ (.chan (some r)) = .chan (some (κ r)) from rfl, ren_yield, ren_yield]
  · intro f a b iha ihb μ
    obtain ⟨a⟩ := a; obtain ⟨b⟩ := b
    have ha := iha μ
    have hb := ihb μ
    rw [ren_func, ← ha, ← hb, ← ren_func]
    congr 1
    show Value.func f ⟨_⟩ ⟨_⟩ = Value.func f ⟨_⟩ ⟨_⟩
    congr 2
    · clear ha hb iha ihb; induction a with
      | nil => rfl
      | cons x l ih => show _ :: _ = _ :: _; congr 1
    · clear ha hb iha ihb; induction b with
      | nil => rfl
      | cons x l ih => show _ :: _ = _ :: _; congr 1
  · intro μ; rw [show rid κ .nilFunc = .nilFunc from rfl]; simp
  · intro t v ih μ; rw [show rid κ (.iface t v) = .iface t (rid κ v) from rfl, ren_iface, ren_iface, ih μ]
  · intro μ; rw [show rid κ .nilIface = .nilIface from rfl]; simp
  · intro cs ih μ
    obtain ⟨cs⟩ := cs
    have h := ih μ
    rw [ren_agg, ← h, ← ren_agg]
    congr 1
    show Value.agg ⟨_⟩ = Value.agg ⟨_⟩
    congr 2
    clear h ih; induction cs with
      | nil => rfl
      | cons x l ih => show _ :: _ = _ :: _; congr 1
  · intro cs ih μ
    obtain ⟨cs⟩ := cs
    have h := ih μ
    rw [ren_tuple, ← h, ← ren_tuple]
    congr 1
    show Value.tuple ⟨_⟩ = Value.tuple ⟨_⟩
    congr 2
    clear h ih; induction cs with
      | nil => rfl
      | cons x l ih => show _ :: _ = _ :: _; congr 1
  · intro l ih; exact ih
  · intro μ; rfl
  · intro v l ihv ihl μ
    show (rid κ v :: mapL (rid κ) l).map (ren μ) = _
    rw [List.map_cons, List.map_cons, ihv μ, ihl μ]

theorem rel_rid (κ : Nat → Nat) (v : Value) : Rel κ v (rid κ v) := ren_rid κ v
theorem Stable.rid {S S' : Ids} {κ : Nat → Nat} {v : Value} (h : Stable S v) (hs : ∀ id, S id → S' (κ id)) : Stable S' (Ev.rid κ v) := fun μ μ' e => by
  rw [ren_rid, ren_rid]
  exact h _ _ fun id hi => e _ (hs id hi)

/-- A known block against one in the heap. -/
def BRel (κ : Nat → Nat) : Blk → Blk → Prop
  | .row cs e o, .row ds e' o' => e = e' ∧ o = o' ∧ RelL κ cs ds
  | .map es c, .map fs d => c = d ∧ ∀ μ : Mu, fs.map (renE μ) = es.map (renE fun id => μ (κ id))
  | _, _ => False

theorem ridB_rel (κ : Nat → Nat) {b b0 : Blk} {κ0 : Nat → Nat} (h : BRel κ0 b b0) : BRel κ b (ridB κ b) := by
  cases b with
  | row cs e o =>
    refine ⟨rfl, rfl, fun μ => ?_⟩
    rw [mapL_eq, List.map_map]
    exact List.map_congr_left fun v _ => ren_rid κ v μ
  | map es c =>
    refine ⟨rfl, fun μ => ?_⟩
    rw [mapL_eq, List.map_map]
    refine List.map_congr_left fun e _ => ?_
    show renE μ (ridE κ e) = _
    unfold renE ridE
    simp only [ren_rid]
  | iter => cases b0 <;> cases h
  | loop => cases b0 <;> cases h
  | defb => cases b0 <;> cases h

theorem ridB_st {κ : Nat → Nat} {b b0 : Blk} {κ0 : Nat → Nat} {S S' : Ids} (h : BRel κ0 b b0) (hst : StB S b) (hs : ∀ id, S id → S' (κ id)) : StB S' (ridB κ b) := by
  cases b with
  | row cs e o =>
    intro v hv
    rw [mapL_eq] at hv
    obtain ⟨u, hu, rfl⟩ := List.mem_map.1 hv
    exact (hst u hu).rid hs
  | map es c =>
    intro e he
    rw [mapL_eq] at he
    obtain ⟨u, hu, rfl⟩ := List.mem_map.1 he
    exact ⟨(hst u hu).1.rid hs, (hst u hu).2.rid hs⟩
  | iter => cases b0 <;> cases h
  | loop => cases b0 <;> cases h
  | defb => cases b0 <;> cases h

theorem row_iff {c : Array Value} {b : Nat} {cs : List Value} {μ : Mu} : (∀ i v, cs[i]? = some v → c[b + i]? = some (ren μ v)) ↔ ∀ i x, (cs.map (ren μ))[i]? = some x → c[b + i]? = some x := by
  constructor
  · intro h i x hx
    rw [List.getElem?_map] at hx
    obtain ⟨v, h1, h2⟩ := Option.map_eq_some_iff.1 hx
    rw [← h2]; exact h i v h1
  · intro h i v hv
    exact h i _ (by rw [List.getElem?_map, hv]; rfl)

/-- The known block lies where the other one does. -/
theorem blk_rel {P : Program} {w : World} {μ : Mu} {κ : Nat → Nat} {id : Nat} {bc ba : Blk} (h : BRel κ bc ba) : BlkOk P w μ (κ id) ba ↔ BlkOk P w (fun id => μ (κ id)) id bc := by
  cases bc with
  | row cs e o =>
    cases ba with
    | row ds e' o' =>
      obtain ⟨rfl, rfl, h3⟩ := h
      have hl : ds.length = cs.length := by
        have := congrArg List.length (h3 μ)
        simpa using this
      show (∃ c, _ ∧ _ ∧ _ ∧ _) ↔ (∃ c, _ ∧ _ ∧ _ ∧ _)
      simp only [row_iff, h3 μ, hl]
    | _ => cases h
  | map es c =>
    cases ba with
    | map fs d =>
      obtain ⟨rfl, h3⟩ := h
      show _ = some (Obj.map (fs.map (renE μ)).toArray _) ↔ _ = some (Obj.map (es.map (renE fun id => μ (κ id))).toArray _)
      rw [h3 μ]
    | _ => cases h
  | iter => cases ba <;> cases h
  | loop => cases ba <;> cases h
  | defb => cases ba <;> cases h

theorem mEnts_ok : ∀ (es fs : List MapEntry) (io io' : List Nat), mEnts es fs io = some io' → MP (fun κ => ∀ μ : Mu, fs.map (renE μ) = es.map (renE fun id => μ (κ id))) (fun T => ∀ e ∈ es, StableE T e) io io' := by
  intro es
  induction es with
  | nil =>
    intro fs io io' h
    cases fs with
    | nil => cases h; exact .same (fun κ μ => rfl) (fun T e he => by cases he)
    | cons => cases h
  | cons e es ih =>
    intro fs io io' h
    cases fs with
    | nil => cases h
    | cons f fs =>
      obtain ⟨h1, h2⟩ := ite'_eq_some.1 (show ite' (Nat.beq e.born f.born) (ob (mVal e.key f.key io) fun io => ob (mVal e.val f.val io) fun io => mEnts es fs io) none = some io' from h)
      rw [beq_eq] at h1
      obtain ⟨io1, h3, h4⟩ := ob_eq_some.1 h2
      obtain ⟨io2, h5, h6⟩ := ob_eq_some.1 h4
      have a := mVal_ok e.key f.key io io1 h3
      have b := mVal_ok e.val f.val io1 io2 h5
      have c := ih fs io2 io' h6
      have ab : MP (fun κ => Rel κ e.key f.key ∧ Rel κ e.val f.val) (fun T => StableE T e) io io2 := a.seq b (fun κ p q => ⟨p, q⟩) (fun T T' hT p q => ⟨p.mono hT, q⟩)
      refine ab.seq c (fun κ p q μ => ?_) (fun T T' hT p q => ?_)
      · rw [List.map_cons, List.map_cons, q μ]
        congr 1
        unfold renE
        rw [p.1 μ, p.2 μ, h1]
      · intro x hx
        rcases List.mem_cons.1 hx with rfl | hx
        · exact ⟨p.1.mono hT, p.2.mono hT⟩
        · exact q x hx

theorem mBlk_ok {bc ba : Blk} {io io' : List Nat} (h : mBlk bc ba io = some io') : MP (fun κ => BRel κ bc ba) (fun T => StB T bc) io io' := by
  unfold mBlk at h
  split at h
  · obtain ⟨h1, h2⟩ := ms_if h
    obtain ⟨h3, h4⟩ := ms_if h2
    rw [beq_eq] at h1
    have := mVals_ok _ _ _ _ h4
    exact ⟨this.ext, this.st, fun t => ⟨h1, eqB_eq h3, this.rel t⟩⟩
  · obtain ⟨h1, h2⟩ := ms_if h
    rw [beq_eq] at h1
    have := mEnts_ok _ _ _ _ h2
    exact ⟨this.ext, this.st, fun t => ⟨h1, this.rel t⟩⟩
  · cases h

/-! Trees and lists. -/
theorem putL_get : ∀ (l : List (Option Blk)) (n : Nat) (t : T Blk) (m : Nat), (putL l n t).get m = if n ≤ m ∧ m < n + l.length then l.getD (m - n) none else t.get m := by
  intro l
  induction l with
  | nil => intro n t m; rw [if_neg (by simp only [List.length_nil]; omega)]; rfl
  | cons b l ih =>
    intro n t m
    show (putL l (n + 1) (t.put n b)).get m = _
    rw [ih, put_get]
    simp only [List.length_cons]
    by_cases h1 : m = n
    · subst h1
      rw [if_neg (by omega), if_pos rfl, if_pos (by omega)]
      simp
    · by_cases h2 : n + 1 ≤ m ∧ m < n + 1 + l.length
      · rw [if_pos h2, if_pos (by omega), show m - n = (m - (n + 1)) + 1 from by omega]
        simp
      · rw [if_neg h2, if_neg h1, if_neg (by omega)]

theorem putAt_get : ∀ (ids : List Nat) (bs : List (Option Blk)) (t : T Blk) (m : Nat), ids.length = bs.length → ids.Nodup → (∀ i, ids[i]? = some m → (putAt ids bs t).get m = bs.getD i none) ∧ (m ∉ ids → (putAt ids bs t).get m = t.get m) := by
  intro ids
  induction ids with
  | nil => intro bs t m _ _; exact ⟨fun i hi => by simp at hi, fun _ => rfl⟩
  | cons a ids ih =>
    intro bs t m hl hn
    cases bs with
    | nil => simp at hl
    | cons b bs =>
      rw [List.nodup_cons] at hn
      have := ih bs (t.put a b) m (by simpa using hl) hn.2
      refine ⟨fun i hi => ?_, fun hm => ?_⟩
      · show (putAt ids bs (t.put a b)).get m = _
        cases i with
        | zero =>
          simp only [List.getElem?_cons_zero, Option.some.injEq] at hi
          subst hi
          rw [this.2 hn.1, put_get, if_pos rfl]; rfl
        | succ i =>
          simp only [List.getElem?_cons_succ] at hi
          rw [this.1 i hi]; rfl
      · show (putAt ids bs (t.put a b)).get m = _
        rw [List.mem_cons, not_or] at hm
        rw [this.2 hm.2, put_get, if_neg hm.1]

theorem memL_iff {a : Nat} {l : List Nat} : memL a l = true ↔ a ∈ l := by
  induction l with
  | nil => simp [memL]
  | cons b l ih =>
    show ite' (Nat.beq a b) true (memL a l) = true ↔ _
    rw [ite'_eq]
    by_cases h : a = b
    · subst h; simp
    · rw [if_neg (by rw [beq_eq]; exact h), ih]; simp [h]
theorem nodupL_ok {l : List Nat} (h : nodupL l = true) : l.Nodup := by
  induction l with
  | nil => exact List.nodup_nil
  | cons a l ih =>
    have h' : ite' (memL a l) false (nodupL l) = true := h
    rw [ite'_eq] at h'
    split at h'
    · cases h'
    · rename_i hm
      rw [memL_iff] at hm
      exact List.nodup_cons.2 ⟨hm, ih h'⟩
theorem minL_le {l : List Nat} {n : Nat} : minL l n ≤ n ∧ ∀ a ∈ l, minL l n ≤ a := by
  induction l with
  | nil => exact ⟨Nat.le_refl _, fun a ha => by cases ha⟩
  | cons b l ih =>
    show minN b (minL l n) ≤ n ∧ ∀ a ∈ b :: l, minN b (minL l n) ≤ a
    rw [minN_eq]
    refine ⟨by omega, fun a ha => ?_⟩
    rcases List.mem_cons.1 ha with rfl | ha
    · omega
    · have := ih.2 a ha; omega
theorem idL_eq (k : Nat) : idL k = List.range' 1000 k := by
  unfold idL
  suffices ∀ n, (Nat.rec (motive := fun _ => Nat → List Nat) (fun _ => []) (fun _ ih n => n :: ih (Nat.succ n)) k : Nat → List Nat) n = List.range' n k from this 1000
  induction k with
  | zero => intro n; rfl
  | succ k ih => intro n; rw [List.range'_succ]; exact congrArg (n :: ·) (ih (n + 1))
theorem someL_eq (l : List Blk) : someL l = l.map some := mapL_eq _ _

theorem mPre_ok {h : Hp} : ∀ (pre : List Blk) (i : Nat) (io io' : List Nat), mPre h pre i io = some io' →
    (∃ t, io' = io ++ t) ∧ (∀ j b, pre[j]? = some b → ∃ a ba, io'[i + j]? = some a ∧ h.look a = some ba ∧ ∀ t, BRel (kap (io' ++ t)) b ba) ∧ ∀ b ∈ pre, StB (Upto io'.length) b := by
  intro pre
  induction pre with
  | nil => intro i io io' he; cases he; exact ⟨⟨[], by simp⟩, fun j b hb => by simp at hb, fun b hb => by cases hb⟩
  | cons b pre ih =>
    intro i io io' he
    obtain ⟨a, h1, h2⟩ := ob_eq_some.1 (show ob (nth io i) (fun a => ob (h.look a) fun ba => ob (mBlk b ba io) (mPre h pre (i + 1))) = some io' from he)
    obtain ⟨ba, h3, h4⟩ := ob_eq_some.1 h2
    obtain ⟨io1, h5, h6⟩ := ob_eq_some.1 h4
    have m := mBlk_ok h5
    obtain ⟨⟨t1, e1⟩, h7, h8⟩ := ih (i + 1) io1 io' h6
    obtain ⟨t0, e0⟩ := m.ext
    have hlen : io1.length ≤ io'.length := by rw [e1]; simp
    rw [nth_eq] at h1
    refine ⟨⟨t0 ++ t1, by rw [e1, e0, List.append_assoc]⟩, ?_, ?_⟩
    · intro j b' hb'
      cases j with
      | zero =>
        simp only [List.getElem?_cons_zero, Option.some.injEq] at hb'
        subst hb'
        refine ⟨a, ba, ?_, h3, fun t => ?_⟩
        · have hi : i < io.length := by
            rcases Nat.lt_or_ge i io.length with h | h
            · exact h
            · rw [List.getElem?_eq_none h] at h1; cases h1
          rw [Nat.add_zero, e1, e0, List.append_assoc, List.getElem?_append_left hi, h1]
        · have := m.rel (t1 ++ t)
          rwa [← List.append_assoc, ← e1] at this
      | succ j =>
        simp only [List.getElem?_cons_succ] at hb'
        have := h7 j b' hb'
        rwa [show i + (j + 1) = i + 1 + j from by omega]
    · intro b' hb'
      rcases List.mem_cons.1 hb' with rfl | hb'
      · exact m.st.mono (Upto.mono hlen)
      · exact h8 b' hb'

theorem mTail_ok {h : Hp} : ∀ (tail : List (Option Blk)) (n : Nat) (io io' : List Nat), mTail h tail n io = some io' →
    (∃ t, io' = io ++ t) ∧ (∀ j b, tail[j]? = some (some b) → ∃ ba, h.look (n + j) = some ba ∧ ∀ t, BRel (kap (io' ++ t)) b ba) ∧ ∀ b, some b ∈ tail → StB (Upto io'.length) b := by
  intro tail
  induction tail with
  | nil => intro n io io' he; cases he; exact ⟨⟨[], by simp⟩, fun j b hb => by simp at hb, fun b hb => by cases hb⟩
  | cons x tail ih =>
    intro n io io' he
    cases x with
    | none =>
      obtain ⟨h1, h2, h3⟩ := ih (n + 1) io io' he
      refine ⟨h1, fun j b hb => ?_, fun b hb => h3 b (by simpa using hb)⟩
      cases j with
      | zero => simp at hb
      | succ j =>
        simp only [List.getElem?_cons_succ] at hb
        have := h2 j b hb
        rwa [show n + (j + 1) = n + 1 + j from by omega]
    | some b =>
      obtain ⟨ba, h3, h4⟩ := ob_eq_some.1 (show ob (h.look n) (fun br => ob (mBlk b br io) (mTail h tail (n + 1))) = some io' from he)
      obtain ⟨io1, h5, h6⟩ := ob_eq_some.1 h4
      have m := mBlk_ok h5
      obtain ⟨⟨t1, e1⟩, h7, h8⟩ := ih (n + 1) io1 io' h6
      obtain ⟨t0, e0⟩ := m.ext
      have hlen : io1.length ≤ io'.length := by rw [e1]; simp
      refine ⟨⟨t0 ++ t1, by rw [e1, e0, List.append_assoc]⟩, ?_, ?_⟩
      · intro j b' hb'
        cases j with
        | zero =>
          simp only [List.getElem?_cons_zero, Option.some.injEq] at hb'
          subst hb'
          refine ⟨ba, h3, fun t => ?_⟩
          have := m.rel (t1 ++ t)
          rwa [← List.append_assoc, ← e1] at this
        | succ j =>
          simp only [List.getElem?_cons_succ] at hb'
          have := h7 j b' hb'
          rwa [show n + (j + 1) = n + 1 + j from by omega]
      · intro b' hb'
        rcases List.mem_cons.1 hb' with e | hb'
        · cases e; exact m.st.mono (Upto.mono hlen)
        · exact h8 b' hb'

end Go.Ev
