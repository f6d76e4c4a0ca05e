/- A verified evaluator: a part of it. -/
import Derived.Test.YtaokhbanpfmkmaaGreatEvX
namespace Go.Ev
set_option linter.unusedVariables false
set_option linter.unusedSimpArgs false

/-! Matching a call with a known one; renaming of numbers. -/

noncomputable section
def eqFn : Fn → Fn → Bool
  | .func a, .func b => Nat.beq a b
  | _, _ => false
def eqB (a b : Bool) : Bool := Bool.rec (not b) b a
def eqI (a b : Int) : Bool := Int.rec (fun a => Int.rec (fun b => Nat.beq a b) (fun _ => false) b) (fun a => Int.rec (fun _ => false) (fun b => Nat.beq a b) b) a
def eqNs (l : List Nat) : List Nat → Bool :=
  List.rec (motive := fun _ => List Nat → Bool) (fun m => isNil m) (fun a _ ih m => List.rec (motive := fun _ => Bool) false (fun b r _ => ite' (Nat.beq a b) (ih r) false) m) l
def bytesN (s : ByteArray) : List Nat := mapL UInt8.toNat s.data.toList

def isO (x : Option Nat) (a : Nat) : Bool := Option.rec false (fun b => Nat.beq b a) x
/-- The numbers 1000, 1001 .. stand for those of the list. -/
def kap (io : List Nat) (id : Nat) : Nat := ite' (Nat.blt id 1000) id (Option.rec 0 (fun n => n) (nth io (Nat.sub id 1000)))
abbrev MS := List Nat → Option (List Nat)
def mOk : MS := fun io => some io
def mNo : MS := fun _ => none
def mIf (b : Bool) : MS := fun io => ite' b (some io) none
def mId (c a : Nat) : MS := fun io =>
  ite' (Nat.blt c 1000) (ite' (Nat.beq c a) (some io) none)
    (ite' (Nat.blt (Nat.sub c 1000) (lenL io)) (ite' (isO (nth io (Nat.sub c 1000)) a) (some io) none)
      (ite' (Nat.beq (Nat.sub c 1000) (lenL io)) (some (appL io [a])) none))
def mAddr (c a : Addr) : MS := ite' (Nat.beq c.off a.off) (mId c.block a.block) mNo
def mOA (c a : Option Addr) : MS := Option.rec (Option.rec mOk (fun _ => mNo) a) (fun c => Option.rec mNo (fun a => mAddr c a) a) c
def mON (c a : Option Nat) : MS := Option.rec (Option.rec mOk (fun _ => mNo) a) (fun c => Option.rec mNo (fun a => mId c a) a) c

def ptrOf? : Value → Option (Option Addr)
  | .pointer a => some a
  | _ => none
def strOf? : Value → Option ByteArray
  | .string s => some s
  | _ => none
def mapOf? : Value → Option (Option Nat)
  | .map r => some r
  | _ => none
def funcOf? : Value → Option (Fn × List Value × List Value)
  | .func f a b => some (f, a.toList, b.toList)
  | _ => none
def isNilF : Value → Bool
  | .nilFunc => true
  | _ => false
def isNilI : Value → Bool
  | .nilIface => true
  | _ => false
def ifaceOf? : Value → Option (TypeId × Value)
  | .iface t v => some (t, v)
  | _ => none

abbrev MV := Value → MS
abbrev ML := List Value → MS
def mvOb {α : Type} (x : Option α) (k : α → MS) : MS := Option.rec mNo k x
def mvSlice (a : Option Addr) (n c : Nat) : MV := fun va => mvOb (sliceOf? va) fun x => ite' (Nat.beq n x.2.1) (ite' (Nat.beq c x.2.2) (mOA a x.1) mNo) mNo
def mvFunc (f : Fn) (iha ihb : ML) : MV := fun va => mvOb (funcOf? va) fun x => ite' (eqFn f x.1) (fun io => ob (iha x.2.1 io) (ihb x.2.2)) mNo
def mvNil : ML := fun l => List.rec (motive := fun _ => MS) mOk (fun _ _ _ => mNo) l
def mvCons (ihv : MV) (ihl : ML) : ML := fun l => List.rec (motive := fun _ => MS) mNo (fun x r _ io => ob (ihv x io) (ihl r)) l

/-- A known value against one: the numbers that it holds. -/
def mVal (vc : Value) : MV :=
  Value.rec (motive_1 := fun _ => MV) (motive_2 := fun _ => ML) (motive_3 := fun _ => ML)
    (fun b va => mvOb (boolOf? va) fun b' => mIf (eqB b b'))
    (fun k n va => mvOb (intOf? va) fun x => mIf (ite' (sameKind k x.1) (eqI n x.2) false))
    (fun _ _ _ => mNo) (fun _ _ _ _ => mNo)
    (fun s va => mvOb (strOf? va) fun t => mIf (eqNs (bytesN s) (bytesN t)))
    (fun a va => mvOb (ptrOf? va) fun x => mOA a x)
    mvSlice
    (fun r va => mvOb (mapOf? va) fun x => mON r x)
    (fun _ _ => mNo)
    (fun f _ _ iha ihb => mvFunc f iha ihb)
    (fun va => mIf (isNilF va))
    (fun t _ ih va => mvOb (ifaceOf? va) fun x => ite' (Nat.beq t x.1) (ih x.2) mNo)
    (fun va => mIf (isNilI va))
    (fun _ ih va => mvOb (aggOf? va) ih)
    (fun _ ih va => mvOb (tupleOf? va) ih)
    (fun _ ih => ih)
    mvNil (fun _ _ ihv ihl => mvCons ihv ihl) vc
def mVals (l : List Value) : ML :=
  Value.rec_2 (motive_1 := fun _ => MV) (motive_2 := fun _ => ML) (motive_3 := fun _ => ML)
    (fun b va => mvOb (boolOf? va) fun b' => mIf (eqB b b'))
    (fun k n va => mvOb (intOf? va) fun x => mIf (ite' (sameKind k x.1) (eqI n x.2) false))
    (fun _ _ _ => mNo) (fun _ _ _ _ => mNo)
    (fun s va => mvOb (strOf? va) fun t => mIf (eqNs (bytesN s) (bytesN t)))
    (fun a va => mvOb (ptrOf? va) fun x => mOA a x)
    mvSlice
    (fun r va => mvOb (mapOf? va) fun x => mON r x)
    (fun _ _ => mNo)
    (fun f _ _ iha ihb => mvFunc f iha ihb)
    (fun va => mIf (isNilF va))
    (fun t _ ih va => mvOb (ifaceOf? va) fun x => ite' (Nat.beq t x.1) (ih x.2) mNo)
    (fun va => mIf (isNilI va))
    (fun _ ih va => mvOb (aggOf? va) ih)
    (fun _ ih va => mvOb (tupleOf? va) ih)
    (fun _ ih => ih)
    mvNil (fun _ _ ihv ihl => mvCons ihv ihl) l

def mEnts (l : List MapEntry) : List MapEntry → MS :=
  List.rec (motive := fun _ => List MapEntry → MS) (fun m => List.rec (motive := fun _ => MS) mOk (fun _ _ _ => mNo) m)
    (fun e _ ih m => List.rec (motive := fun _ => MS) mNo (fun x r _ io => ite' (Nat.beq e.born x.born) (ob (mVal e.key x.key io) fun io => ob (mVal e.val x.val io) fun io => ih r io) none) m) l
def mBlk : Blk → Blk → MS
  | .row cs e o, .row ds e' o' => ite' (Nat.beq e e') (ite' (eqB o o') (mVals cs ds) mNo) mNo
  | .map es c, .map fs d => ite' (Nat.beq c d) (mEnts es fs) mNo
  | _, _ => mNo
end

/-! What a match says. -/
def Rel (κ : Nat → Nat) (vc va : Value) : Prop := ∀ μ : Mu, ren μ va = ren (fun id => μ (κ id)) vc
def RelL (κ : Nat → Nat) (lc la : List Value) : Prop := ∀ μ : Mu, la.map (ren μ) = lc.map (ren fun id => μ (κ id))
def Upto (n : Nat) : Ids := fun id => id < 1000 + n
/-- A step of a match: the list goes on; what holds of it stays. -/
structure MP (R : (Nat → Nat) → Prop) (S : Ids → Prop) (io io' : List Nat) : Prop where
  ext : ∃ t, io' = io ++ t
  st : S (Upto io'.length)
  rel : ∀ t, R (kap (io' ++ t))

theorem MP.len {R : (Nat → Nat) → Prop} {S : Ids → Prop} {io io' : List Nat} (h : MP R S io io') : io.length ≤ io'.length := by
  obtain ⟨t, rfl⟩ := h.ext; simp
theorem Upto.mono {n m : Nat} (h : n ≤ m) : ∀ id, Upto n id → Upto m id := fun id hi => by unfold Upto at *; omega

theorem MP.seq {R1 R2 R : (Nat → Nat) → Prop} {S1 S2 S : Ids → Prop} {io io1 io2 : List Nat} (a : MP R1 S1 io io1) (b : MP R2 S2 io1 io2) (hR : ∀ κ, R1 κ → R2 κ → R κ) (hS : ∀ T : Ids, (∀ T' : Ids, (∀ id, T' id → T id) → S1 T' → S2 T → S T)) : MP R S io io2 := by
  obtain ⟨t1, h1⟩ := a.ext
  obtain ⟨t2, h2⟩ := b.ext
  refine ⟨⟨t1 ++ t2, by rw [h2, h1, List.append_assoc]⟩, hS _ _ (Upto.mono b.len) a.st b.st, fun t => hR _ ?_ (b.rel t)⟩
  have := a.rel (t2 ++ t)
  rwa [← List.append_assoc, ← h2] at this
theorem MP.same {R : (Nat → Nat) → Prop} {S : Ids → Prop} {io : List Nat} (hR : ∀ κ, R κ) (hS : ∀ T, S T) : MP R S io io := ⟨⟨[], by simp⟩, hS _, fun _ => hR _⟩

theorem kap_lo {io : List Nat} {id : Nat} (h : id < 1000) : kap io id = id := by
  unfold kap
  rw [ite'_eq, if_pos (blt_eq.2 h)]
theorem kap_at {io : List Nat} {i a : Nat} (h : io[i]? = some a) : kap io (1000 + i) = a := by
  unfold kap
  rw [ite'_eq, if_neg (by rw [blt_eq]; omega), nth_eq, show Nat.sub (1000 + i) 1000 = i from Nat.add_sub_cancel_left _ _, h]

theorem mId_ok {c a : Nat} {io io' : List Nat} (h : mId c a io = some io') : MP (fun κ => κ c = a) (fun T => T c) io io' := by
  unfold mId at h
  rw [ite'_eq] at h
  split at h
  · rename_i h1
    rw [blt_eq] at h1
    obtain ⟨h2, h3⟩ := ite'_eq_some.1 h
    cases h3
    rw [beq_eq] at h2
    subst h2
    exact ⟨⟨[], by simp⟩, by unfold Upto; omega, fun t => kap_lo h1⟩
  · rename_i h1
    rw [blt_eq] at h1
    obtain ⟨i, rfl⟩ : ∃ i, c = 1000 + i := ⟨c - 1000, by omega⟩
    rw [show Nat.sub (1000 + i) 1000 = i from Nat.add_sub_cancel_left _ _, lenL_eq, nth_eq, appL_eq, ite'_eq] at h
    split at h
    · rename_i h2
      rw [blt_eq] at h2
      obtain ⟨h3, h4⟩ := ite'_eq_some.1 h
      cases h4
      have h5 : io[i]? = some a := by
        unfold isO at h3
        cases hx : io[i]? with
        | none => rw [hx] at h3; cases h3
        | some b => rw [hx] at h3; replace h3 : Nat.beq b a = true := h3; rw [beq_eq] at h3; rw [h3]
      refine ⟨⟨[], by simp⟩, by unfold Upto; omega, fun t => kap_at ?_⟩
      rw [List.getElem?_append_left h2]; exact h5
    · obtain ⟨h3, h4⟩ := ite'_eq_some.1 h
      cases h4
      rw [beq_eq] at h3
      refine ⟨⟨[a], rfl⟩, by unfold Upto; simp; omega, fun t => kap_at ?_⟩
      subst h3
      simp

theorem mAddr_ok {c a : Addr} {io io' : List Nat} (h : mAddr c a io = some io') : MP (fun κ => κ c.block = a.block ∧ c.off = a.off) (fun T => T c.block) io io' := by
  unfold mAddr at h
  rw [ite'_eq] at h
  split at h
  · rename_i h1
    rw [beq_eq] at h1
    have := mId_ok h
    exact ⟨this.ext, this.st, fun t => ⟨this.rel t, h1⟩⟩
  · cases h

theorem mOA_ok {c a : Option Addr} {io io' : List Nat} (h : mOA c a io = some io') :
    MP (fun κ => (c = none ∧ a = none) ∨ ∃ x y, c = some x ∧ a = some y ∧ κ x.block = y.block ∧ x.off = y.off) (fun T => ∀ x, c = some x → T x.block) io io' := by
  cases c with
  | none =>
    cases a with
    | none => cases h; exact .same (fun _ => .inl ⟨rfl, rfl⟩) (fun _ x hx => by cases hx)
    | some y => cases h
  | some x =>
    cases a with
    | none => cases h
    | some y =>
      have := mAddr_ok (show mAddr x y io = some io' from h)
      exact ⟨this.ext, fun z hz => by cases hz; exact this.st, fun t => .inr ⟨x, y, rfl, rfl, this.rel t⟩⟩
theorem mON_ok {c a : Option Nat} {io io' : List Nat} (h : mON c a io = some io') :
    MP (fun κ => (c = none ∧ a = none) ∨ ∃ x y, c = some x ∧ a = some y ∧ κ x = y) (fun T => ∀ x, c = some x → T x) io io' := by
  cases c with
  | none =>
    cases a with
    | none => cases h; exact .same (fun _ => .inl ⟨rfl, rfl⟩) (fun _ x hx => by cases hx)
    | some y => cases h
  | some x =>
    cases a with
    | none => cases h
    | some y =>
      have := mId_ok (show mId x y io = some io' from h)
      exact ⟨this.ext, fun z hz => by cases hz; exact this.st, fun t => .inr ⟨x, y, rfl, rfl, this.rel t⟩⟩

theorem eqB_eq {a b : Bool} (h : eqB a b = true) : a = b := by cases a <;> cases b <;> first | rfl | cases h
theorem eqI_eq {a b : Int} (h : eqI a b = true) : a = b := by
  cases a with
  | ofNat a => cases b with
    | ofNat b => rw [show a = b from beq_eq.1 h]
    | negSucc b => cases h
  | negSucc a => cases b with
    | ofNat b => cases h
    | negSucc b => rw [show a = b from beq_eq.1 h]
theorem eqNs_eq : ∀ {l m : List Nat}, eqNs l m = true → l = m := by
  intro l
  induction l with
  | nil => intro m h; cases m with
    | nil => rfl
    | cons => cases h
  | cons a l ih => intro m h; cases m with
    | nil => cases h
    | cons b m =>
      obtain ⟨h1, h2⟩ := ite'_and (show ite' (Nat.beq a b) (eqNs l m) false = true from h)
      rw [beq_eq] at h1
      rw [h1, ih h2]
theorem bytesN_inj {s t : ByteArray} (h : bytesN s = bytesN t) : s = t := by
  obtain ⟨⟨s⟩⟩ := s; obtain ⟨⟨t⟩⟩ := t
  unfold bytesN at h
  rw [mapL_eq, mapL_eq] at h
  congr 2
  exact (List.map_inj_right (f := UInt8.toNat) (fun a b => UInt8.toNat_inj.1)).1 h
theorem eqFn_eq {a b : Fn} (h : eqFn a b = true) : a = b := by
  unfold eqFn at h
  split at h
  · rw [beq_eq] at h; rw [h]
  · cases h

def VP (vc : Value) (m : MV) : Prop := ∀ va io io', m va io = some io' → MP (fun κ => Rel κ vc va) (fun T => Stable T vc) io io'
def LP (lc : List Value) (m : ML) : Prop := ∀ la io io', m la io = some io' → MP (fun κ => RelL κ lc la) (fun T => ∀ v ∈ lc, Stable T v) io io'

theorem mvOb_some {α : Type} {x : Option α} {k : α → MS} {io io' : List Nat} (h : mvOb x k io = some io') : ∃ a, x = some a ∧ k a io = some io' := by
  cases x with
  | none => cases h
  | some a => exact ⟨a, rfl, h⟩
theorem mIf_some {b : Bool} {io io' : List Nat} (h : mIf b io = some io') : b = true ∧ io' = io := by
  obtain ⟨h1, h2⟩ := ite'_eq_some.1 h
  cases h2
  exact ⟨h1, rfl⟩
theorem ms_if {b : Bool} {x : MS} {io io' : List Nat} (h : (ite' b x mNo) io = some io') : b = true ∧ x io = some io' := by
  cases b with
  | true => exact ⟨rfl, h⟩
  | false => cases h

theorem vp_closed {v : Value} {io : List Nat} (h : closed v = true) : MP (fun κ => Rel κ v v) (fun T => Stable T v) io io :=
  .same (fun κ μ => by rw [ren_closed h, ren_closed h]) (fun T => stable_closed h)

theorem lp_nil : LP [] mvNil := by
  intro la io io' h
  cases la with
  | nil => cases h; exact .same (fun κ μ => rfl) (fun T v hv => by cases hv)
  | cons => cases h
theorem lp_cons {v : Value} {l : List Value} {m : MV} {ms : ML} (hv : VP v m) (hl : LP l ms) : LP (v :: l) (mvCons m ms) := by
  intro la io io' h
  cases la with
  | nil => cases h
  | cons x r =>
    obtain ⟨io1, h1, h2⟩ := ob_eq_some.1 (show ob (m x io) (ms r) = some io' from h)
    refine (hv x io io1 h1).seq (hl r io1 io' h2) (fun κ a b μ => ?_) (fun T T' hT a b => ?_)
    · rw [List.map_cons, List.map_cons, a μ, b μ]
    · intro u hu
      rcases List.mem_cons.1 hu with rfl | hu
      · exact a.mono hT
      · exact b u hu

theorem mVal_ok (vc : Value) : VP vc (mVal vc) := by
  refine Value.rec (motive_1 := fun vc => VP vc (mVal vc)) (motive_2 := fun (a : Array Value) => LP a.toList (mVals a.toList)) (motive_3 := fun l => LP l (mVals l)) ?_ ?_ ?_ ?_ ?_ ?_ ?_ ?_ ?_ ?_ ?_ ?_ ?_ ?_ ?_ ?_ ?_ ?_ vc
  · intro b va io io' h
    obtain ⟨b', h1, h2⟩ := mvOb_some (show mvOb (boolOf? va) (fun b' => mIf (eqB b b')) io = some io' from h)
    obtain ⟨h3, rfl⟩ := mIf_some h2
    rw [boolOf_some] at h1
    rw [h1, eqB_eq h3]
    exact vp_closed rfl
  · intro k n va io io' h
    obtain ⟨x, h1, h2⟩ := mvOb_some (show mvOb (intOf? va) (fun x => mIf (ite' (sameKind k x.1) (eqI n x.2) false)) io = some io' from h)
    obtain ⟨h3, rfl⟩ := mIf_some h2
    obtain ⟨h4, h5⟩ := ite'_and h3
    obtain ⟨k', n'⟩ := x
    rw [intOf_some] at h1
    rw [h1, sameKind_eq h4, eqI_eq h5]
    exact vp_closed rfl
  · intro k n va io io' h; cases h
  · intro k a b va io io' h; cases h
  · intro s va io io' h
    obtain ⟨t, h1, h2⟩ := mvOb_some (show mvOb (strOf? va) (fun t => mIf (eqNs (bytesN s) (bytesN t))) io = some io' from h)
    obtain ⟨h3, rfl⟩ := mIf_some h2
    have : va = .string t := by cases va <;> simp [strOf?] at h1; rw [h1]
    rw [this, bytesN_inj (eqNs_eq h3)]
    exact vp_closed rfl
  · intro a va io io' h
    obtain ⟨x, h1, h2⟩ := mvOb_some (show mvOb (ptrOf? va) (fun x => mOA a x) io = some io' from h)
    have : va = .pointer x := by cases va <;> simp [ptrOf?] at h1; rw [h1]
    subst this
    have := mOA_ok h2
    refine ⟨this.ext, ?_, fun t μ => ?_⟩
    · cases a with
      | none => exact stable_closed rfl
      | some a => exact stable_ptr (this.st a rfl)
    · rcases this.rel t with ⟨rfl, rfl⟩ | ⟨y, z, rfl, rfl, e1, e2⟩
      · simp
      · rw [ren_ptrA, ren_ptrA]; unfold renA; simp only [e1, e2]
  · intro a n c va io io' h
    obtain ⟨x, h1, h2⟩ := mvOb_some (show mvOb (sliceOf? va) (fun x => ite' (Nat.beq n x.2.1) (ite' (Nat.beq c x.2.2) (mOA a x.1) mNo) mNo) io = some io' from h)
    obtain ⟨x1, x2, x3⟩ := x
    rw [sliceOf_some] at h1
    subst h1
    obtain ⟨h3, h4⟩ := ms_if h2
    obtain ⟨h5, h6⟩ := ms_if h4
    simp only [beq_eq] at h3 h5
    subst h3 h5
    have := mOA_ok h6
    refine ⟨this.ext, ?_, fun t μ => ?_⟩
    · cases a with
      | none => exact stable_of_const fun μ => ren_slice0 μ _ _
      | some a => exact stable_slice (this.st a rfl)
    · rcases this.rel t with ⟨rfl, hx⟩ | ⟨y, z, rfl, hx, e1, e2⟩
      · simp only at hx; subst hx; simp
      · simp only at hx; subst hx
        rw [ren_slice1, ren_slice1]; unfold renA renCap; simp only [e1, e2]
  · intro r va io io' h
    obtain ⟨x, h1, h2⟩ := mvOb_some (show mvOb (mapOf? va) (fun x => mON r x) io = some io' from h)
    have : va = .map x := by cases va <;> simp [mapOf?] at h1; rw [h1]
    subst this
    have := mON_ok h2
    refine ⟨this.ext, ?_, fun t μ => ?_⟩
    · cases r with
      | none => exact stable_closed rfl
      | some a => exact stable_map (this.st a rfl)
    · rcases this.rel t with ⟨rfl, rfl⟩ | ⟨y, z, rfl, rfl, e1⟩
      · simp
      · rw [ren_map1, ren_map1]; simp only [e1]
  · intro r va io io' h; cases h
  · intro f a b iha ihb va io io' h
    obtain ⟨x, h1, h2⟩ := mvOb_some (show mvOb (funcOf? va) (fun x => ite' (eqFn f x.1) (fun io => ob (mVals a.toList x.2.1 io) (mVals b.toList x.2.2)) mNo) io = some io' from h)
    obtain ⟨h3, h4⟩ := ms_if h2
    obtain ⟨io1, h5, h6⟩ := ob_eq_some.1 h4
    obtain ⟨x1, x2, x3⟩ := x
    have hva : va = .func x1 ⟨x2⟩ ⟨x3⟩ := by
      cases va <;> simp [funcOf?] at h1
      rename_i f' a' b'
      obtain ⟨a'⟩ := a'; obtain ⟨b'⟩ := b'
      obtain ⟨rfl, rfl, rfl⟩ := h1
      rfl
    subst hva
    obtain ⟨a⟩ := a; obtain ⟨b⟩ := b
    simp only at h3
    have := eqFn_eq h3
    subst this
    refine (iha _ _ _ h5).seq (ihb _ _ _ h6) (fun κ p q μ => ?_) (fun T T' hT p q => stable_func.2 ⟨fun v hv => (p v hv).mono hT, q⟩)
    rw [ren_func, ren_func, p μ, q μ]
  · intro va io io' h
    obtain ⟨h3, rfl⟩ := mIf_some (show mIf (isNilF va) io = some io' from h)
    have : va = .nilFunc := by cases va <;> simp [isNilF] at h3; rfl
    subst this
    exact vp_closed rfl
  · intro t v ih va io io' h
    obtain ⟨x, h1, h2⟩ := mvOb_some (show mvOb (ifaceOf? va) (fun x => ite' (Nat.beq t x.1) (mVal v x.2) mNo) io = some io' from h)
    obtain ⟨h3, h4⟩ := ms_if h2
    obtain ⟨x1, x2⟩ := x
    have hva : va = .iface x1 x2 := by
      cases va <;> simp [ifaceOf?] at h1
      obtain ⟨rfl, rfl⟩ := h1; rfl
    subst hva
    simp only [beq_eq] at h3
    subst h3
    have := ih _ _ _ h4
    refine ⟨this.ext, stable_iface.2 this.st, fun s μ => ?_⟩
    rw [ren_iface, ren_iface, this.rel s μ]
  · intro va io io' h
    obtain ⟨h3, rfl⟩ := mIf_some (show mIf (isNilI va) io = some io' from h)
    have : va = .nilIface := by cases va <;> simp [isNilI] at h3; rfl
    subst this
    exact vp_closed rfl
  · intro cs ih va io io' h
    obtain ⟨x, h1, h2⟩ := mvOb_some (show mvOb (aggOf? va) (mVals cs.toList) io = some io' from h)
    have hva : va = .agg ⟨x⟩ := by
      cases va <;> simp [aggOf?] at h1
      rename_i y; obtain ⟨y⟩ := y; rw [← h1]
    subst hva
    have := ih _ _ _ h2
    obtain ⟨cs⟩ := cs
    refine ⟨this.ext, stable_agg.2 this.st, fun s μ => ?_⟩
    rw [ren_agg, ren_agg, this.rel s μ]
  · intro cs ih va io io' h
    obtain ⟨x, h1, h2⟩ := mvOb_some (show mvOb (tupleOf? va) (mVals cs.toList) io = some io' from h)
    rw [tupleOf_some] at h1
    subst h1
    have := ih _ _ _ h2
    obtain ⟨cs⟩ := cs
    refine ⟨this.ext, stable_tuple.2 this.st, fun s μ => ?_⟩
    rw [ren_tuple, ren_tuple, this.rel s μ]
  · intro l ih; exact ih
  · exact lp_nil
  · intro v l ihv ihl; exact lp_cons ihv ihl

theorem mVals_ok (l : List Value) : LP l (mVals l) := by
  induction l with
  | nil => exact lp_nil
  | cons v l ih => exact lp_cons (mVal_ok v) ih

end Go.Ev
