/- A verified evaluator: a part of it. -/
import Derived.Test.YtaokhbanpfmkmaaGreatEvZa
import Derived.WalkKit
namespace Go.Ev
set_option linter.unusedVariables false
set_option linter.unusedSimpArgs false

/-! A call's key; calls that are run once a key. -/
noncomputable section
structure ES where
  it : List Nat
  io : List Nat
abbrev EC := ES → ES
def push (n : Nat) : EC := fun s => ES.rec (motive := fun _ => ES) (fun it io => ⟨n :: it, io⟩) s
def idx (a : Nat) (l : List Nat) : Nat := List.rec (motive := fun _ => Nat) 0 (fun b _ ih => ite' (Nat.beq a b) 0 (Nat.succ ih)) l
def encIx (i a : Nat) : EC := fun s => ES.rec (motive := fun _ => ES) (fun it io => ⟨Nat.add 1000 i :: it, ite' (Nat.blt i (lenL io)) io (appL io [a])⟩) s
def encId (a : Nat) : EC := fun s => ite' (Nat.blt a 1000) (push a s) (encIx (idx a s.io) a s)
def encBytes (l : List Nat) : EC := List.rec (motive := fun _ => EC) (fun s => s) (fun b _ ih s => ih (push b s)) l
def eBad : EC := push 15
def encFn (f : Fn) (k : Nat → EC) : EC := Fn.rec (motive := fun _ => EC) k (fun _ => eBad) (fun _ _ => eBad) (fun _ _ _ _ => eBad) (fun _ => eBad) f
def encV (v : Value) : EC :=
  Value.rec (motive_1 := fun _ => EC) (motive_2 := fun _ => EC) (motive_3 := fun _ => EC)
    (fun b => push (Bool.rec 0 1 b)) (fun k n => Int.rec (fun m s => push m (push (Nat.add 20 (kindNo k)) s)) (fun m s => push m (push (Nat.add 30 (kindNo k)) s)) n)
    (fun _ _ => eBad) (fun _ _ _ => eBad) (fun b s => encBytes (bytesN b) (push (lenL (bytesN b)) (push 2 s)))
    (fun a => Option.rec (push 3) (fun a s => push a.off (encId a.block (push 4 s))) a)
    (fun a n c => Option.rec (fun s => push c (push n (push 5 s))) (fun a s => push a.off (push c (push n (encId a.block (push 6 s))))) a)
    (fun r => Option.rec (push 7) (fun r s => encId r (push 8 s)) r) (fun _ => eBad)
    (fun f a b iha ihb => encFn f fun g s => ihb (iha (push (lenL b.toList) (push (lenL a.toList) (push g (push 9 s))))))
    (push 10) (fun t _ ih s => ih (push t (push 11 s))) (push 12) (fun cs ih s => ih (push (lenL cs.toList) (push 13 s))) (fun cs ih s => ih (push (lenL cs.toList) (push 14 s)))
    (fun _ ih => ih) (fun s => s) (fun _ _ ihv ihl s => ihl (ihv s)) v
def encL (l : List Value) : EC := List.rec (motive := fun _ => EC) (fun s => s) (fun v _ ih s => ih (encV v s)) l
def encEs (l : List MapEntry) : EC := List.rec (motive := fun _ => EC) (fun s => s) (fun e _ ih s => ih (push e.born (encV e.val (encV e.key s)))) l
def encB : Blk → EC
  | .row cs e o => fun s => encL cs (push (lenL cs) (push e (push (Bool.rec 1 2 o) s)))
  | .map es c => fun s => encEs es (push (lenL es) (push c (push 3 s)))
  | _ => eBad
def encBo (b : Option Blk) : EC := Option.rec eBad encB b
def encHp (h : Hp) (n : Nat) : Nat → EC :=
  Nat.rec (motive := fun _ => Nat → EC) (fun _ s => eBad s) (fun _ ih i s => Option.rec s (fun a => ih (Nat.succ i) (encBo (h.look a) s)) (nth s.io i)) n
/-- A call's key, the last number first. -/
def enc (g : FuncId) (args : List Value) (h : Hp) : List Nat := (encHp h 2000 0 (encL args (push (lenL args) ⟨[g], []⟩))).it

/-! Back. -/
abbrev NS := List Nat
structure DV (α : Type) where
  v : α
  s : NS
abbrev DK := NS → Option (DV Value)
def kindAt (k : Nat) : IntKind := ite' (Nat.beq k 0) .i8 (ite' (Nat.beq k 1) .i16 (ite' (Nat.beq k 2) .i32 (ite' (Nat.beq k 3) .i64 (ite' (Nat.beq k 4) .u8 (ite' (Nat.beq k 5) .u16 (ite' (Nat.beq k 6) .u32 .u64))))))
/-- One number, and what follows. -/
def one_ {α : Type} (s : NS) (k : Nat → NS → Option α) : Option α := List.rec (motive := fun _ => Option α) none (fun x r _ => k x r) s
def decN {α : Type} (dv : NS → Option (DV α)) (n : Nat) : NS → Option (DV (List α)) :=
  Nat.rec (motive := fun _ => NS → Option (DV (List α))) (fun s => some ⟨[], s⟩) (fun _ ih s => ob (dv s) fun x => om (ih x.s) fun r => ⟨x.v :: r.v, r.s⟩) n
def decNat : NS → Option (DV Nat) := fun s => one_ s fun x r => some ⟨x, r⟩
def decInt (t : Nat) (s : NS) : Option (DV Value) := one_ s fun m r => ite' (Nat.blt t 30) (some ⟨.int (kindAt (Nat.sub t 20)) (.ofNat m), r⟩) (some ⟨.int (kindAt (Nat.sub t 30)) (.negSucc m), r⟩)
def decPos (t : Nat) (s : NS) (dv : DK) : Option (DV Value) :=
  ite' (Nat.ble 20 t) (decInt t s)
  (ite' (Nat.blt t 5)
    (ite' (Nat.blt t 2) (some ⟨.bool (Nat.beq t 1), s⟩)
      (ite' (Nat.beq t 2) (one_ s fun p s => om (decN decNat p s) fun r => ⟨.string ⟨(mapL UInt8.ofNat r.v).toArray⟩, r.s⟩)
        (ite' (Nat.beq t 3) (some ⟨.pointer none, s⟩) (one_ s fun b s => one_ s fun o s => some ⟨.pointer (some ⟨b, o, none⟩), s⟩))))
    (ite' (Nat.blt t 9)
      (ite' (Nat.beq t 5) (one_ s fun n s => one_ s fun c s => some ⟨.slice none n c, s⟩)
        (ite' (Nat.beq t 6) (one_ s fun b s => one_ s fun n s => one_ s fun c s => one_ s fun o s => some ⟨.slice (some ⟨b, o, none⟩) n c, s⟩)
          (ite' (Nat.beq t 7) (some ⟨.map none, s⟩) (one_ s fun b s => some ⟨.map (some b), s⟩))))
      (ite' (Nat.blt t 12)
        (ite' (Nat.beq t 9) (one_ s fun g s => one_ s fun na s => one_ s fun nb s => ob (decN dv na s) fun a => om (decN dv nb a.s) fun b => ⟨.func (.func g) ⟨a.v⟩ ⟨b.v⟩, b.s⟩)
          (ite' (Nat.beq t 10) (some ⟨.nilFunc, s⟩) (one_ s fun t s => om (dv s) fun v => ⟨.iface t v.v, v.s⟩)))
        (ite' (Nat.beq t 12) (some ⟨.nilIface, s⟩) (ite' (Nat.beq t 13) (one_ s fun p s => om (decN dv p s) fun r => ⟨.agg ⟨r.v⟩, r.s⟩) (ite' (Nat.beq t 14) (one_ s fun p s => om (decN dv p s) fun r => ⟨.tuple ⟨r.v⟩, r.s⟩) none))))))
def decV (n : Nat) : DK := Nat.rec (motive := fun _ => DK) (fun _ => none) (fun _ ih s => one_ s fun t s => decPos t s ih) n
def decE (s : NS) : Option (DV MapEntry) := ob (decV 50 s) fun k => ob (decV 50 k.s) fun v => one_ v.s fun b s => some ⟨{ key := k.v, val := v.v, born := b }, s⟩
def decB (s : NS) : Option (DV Blk) :=
  one_ s fun t s => ite' (Nat.blt t 3) (one_ s fun e s => one_ s fun n s => om (decN (decV 50) n s) fun r => ⟨.row r.v e (Nat.beq t 2), r.s⟩)
    (ite' (Nat.beq t 3) (one_ s fun c s => one_ s fun n s => om (decN decE n s) fun r => ⟨.map r.v c, r.s⟩) none)
def decBs (n : Nat) : NS → Option (List Blk) :=
  Nat.rec (motive := fun _ => NS → Option (List Blk)) (fun _ => none) (fun _ ih s => ite' (isNil s) (some []) (ob (decB s) fun b => om (ih b.s) fun r => b.v :: r)) n
structure MK where
  g : FuncId
  args : List Value
  pre : List Blk
def dec (key : NS) : Option MK := one_ key fun g s => one_ s fun n s => ob (decN (decV 50) n s) fun a => om (decBs 2000 a.s) fun bs => ⟨g, a.v, bs⟩

/-! What is left of a run's heap. -/
abbrev IC := List Nat → List Nat
def addI (a : Nat) : IC := fun io => ite' (Nat.blt a 1000) io (ite' (memL a io) io (appL io [a]))
def idsA (a : Option Addr) : IC := Option.rec (fun io => io) (fun a => addI a.block) a
def idsV (v : Value) : IC :=
  Value.rec (motive_1 := fun _ => IC) (motive_2 := fun _ => IC) (motive_3 := fun _ => IC)
    (fun _ io => io) (fun _ _ io => io) (fun _ _ io => io) (fun _ _ _ io => io) (fun _ io => io) idsA (fun a _ _ => idsA a) (fun r => Option.rec (fun io => io) addI r) (fun _ io => io)
    (fun _ _ _ a b io => b (a io)) (fun io => io) (fun _ _ ih => ih) (fun io => io) (fun _ ih => ih) (fun _ ih => ih) (fun _ ih => ih) (fun io => io) (fun _ _ v l io => l (v io)) v
def idsL (l : List Value) : IC := List.rec (motive := fun _ => IC) (fun io => io) (fun v _ ih io => ih (idsV v io)) l
def idsEs (l : List MapEntry) : IC := List.rec (motive := fun _ => IC) (fun io => io) (fun e _ ih io => ih (idsV e.val (idsV e.key io))) l
def idsB : Blk → IC
  | .row cs _ _ => idsL cs
  | .map es _ => idsEs es
  | _ => fun io => io
def idsBo (b : Option Blk) : IC := Option.rec (fun io => io) idsB b
/-- The old blocks from number n on, m of them. -/
def tailOf (h : Hp) (m : Nat) : Nat → List (Option Blk) := Nat.rec (motive := fun _ => Nat → List (Option Blk)) (fun _ => []) (fun _ ih n => h.look n :: ih (Nat.succ n)) m
def idsT (l : List (Option Blk)) : IC := List.rec (motive := fun _ => IC) (fun io => io) (fun b _ ih io => ih (idsBo b io)) l
def idsN (h : Hp) (n : Nat) : Nat → IC := Nat.rec (motive := fun _ => Nat → IC) (fun _ io => io) (fun _ ih i io => Option.rec io (fun a => ih (Nat.succ i) (idsBo (h.look a) io)) (nth io i)) n
def newOf (h : Hp) (κ : Nat → Nat) (l : List Nat) : Option (List Blk) := List.rec (motive := fun _ => Option (List Blk)) (some []) (fun a _ ih => ob (h.look a) fun b => om ih fun r => ridB κ b :: r) l
def sidOf (io : List Nat) (a : Nat) : Nat := ite' (Nat.blt a 1000) a (Nat.add 1000 (idx a io))
def gcK (k j : Nat) (v : Value) (h : Hp) (tl : List (Option Blk)) (io : List Nat) : Option Said :=
  om (newOf h (sidOf io) (dropL io k)) fun new => ⟨rid (sidOf io) v, j, mapL (omap (ridB (sidOf io))) tl, new⟩
def gcJ (k j : Nat) (v : Value) (h : Hp) (tl : List (Option Blk)) : Option Said := gcK k j v h tl (idsN h 2000 k (idsT tl (idsV v (idL k))))
def gcAt (k j : Nat) (v : Value) (h : Hp) : Option Said := gcJ k j v h (tailOf h (Nat.sub k j) (Nat.add 1000 j))
def gcRet (k : Nat) (v : Value) (h : Hp) : Option Said := gcAt k (minN k (Nat.sub h.mw 1000)) v h
def gcOf (k : Nat) (r : CRes) : Option Said := CRes.rec (motive := fun _ => Option Said) (fun v h => gcRet k v h) (fun _ _ => none) none r
def headO {α : Type} (l : List α) : Option α := List.rec (motive := fun _ => Option α) none (fun a _ _ => some a) l

structure ME where
  m : MK
  s : Said
/-- What is known of the call with a key. -/
def entOf (run : RunK) (key : NS) : Option ME :=
  ob (dec key) fun mk => ob (run mk.g mk.args (hpOf mk.pre)) fun L => ob (headO L) fun r => ob (gcOf (lenL mk.pre) r) fun s =>
    ite' (allL (ck mk.pre s) L) (ite' (saidOk mk.pre s) (some ⟨mk, s⟩) none) none
def useEnt (g : FuncId) (args : List Value) (h : Hp) (e : ME) : Option CRes :=
  ite' (Nat.beq e.m.g g) (om (matchAll e.m.args e.m.pre args h) fun io => .ret (rid (kapN io (lenL io) h.next) e.s.v) (newHp h io e.s)) none
/-- A number's value first. -/
def force {α : Type} (n : Nat) (k : Nat → α) : α := Nat.rec (motive := fun _ => α) (k 0) (fun m _ => k (Nat.succ m)) n
/-- A list's numbers first, turned round. -/
def forceR {α : Type} (l : List Nat) (k : List Nat → α) : α := List.rec (motive := fun _ => List Nat → α) (fun acc => k acc) (fun x _ ih acc => force x fun x => ih (x :: acc)) l []
def memo (run : RunK) : Tab := fun g args h => forceR (enc g args h) fun key => ob (entOf run key) (useEnt g args h)

def inMask (mask g : Nat) : Bool := Nat.beq (Nat.land (Nat.shiftRight mask g) 1) 1
def tabNo : Tab := fun _ _ _ => none
/-- The functions of a mask are run once a key. -/
def tabCons (mask : Nat) (run : RunK) (tab : Tab) : Tab := fun g args h => ite' (inMask mask g) (memo run g args h) (tab g args h)
def tabTop (mask : Nat) (tab : Tab) : Tab := fun g args h => ite' (inMask mask g) (tab g args h) none
def one (r : CRes) : Option (List CRes) := some [r]
def runE (P : Program) (tab : Tab) (n : Nat) : RunK := fun g args h => ite' (Nat.blt g YB) (one ((ev P tab n).call g args h)) none
/-- In every order. -/
def runN (P : Program) (tab : Tab) (n m : Nat) : RunK := evFnN P (ev P tab n).call (ev P tab n).code m
end

section
variable {P : Program} [NG P]
theorem runE_ok (hm : P.follows .mixedOrders = true) {tab : Tab} (ht : TabOk P tab) {n : Nat} : RunOk P (runE P tab n) := by
  intro g args h L he hL U lo μ w ok s hlo hst
  obtain ⟨h1, h2⟩ := ite'_eq_some.1 he
  rw [blt_eq] at h1
  cases h2
  obtain ⟨pan, v, h', hr⟩ := okRes_some (List.all_eq_true.1 hL _ (.head _))
  refine ((ev_ok hm ht n).2.calls g args h pan v h' h1 hr U lo μ w ok s hlo hst).mono fun en w' p => ⟨pan, v, h', ?_, p⟩
  rw [hr]; exact .head _
theorem runN_ok (hm : P.follows .mixedOrders = true) {tab : Tab} (ht : TabOk P tab) {n m : Nat} : RunOk P (runN P tab n m) := by
  intro g args h L he hL U lo μ w ok s hlo hst
  exact fnN_ok (ev_ok hm ht n).2 (ev_ok hm ht n).1 he hL ok s hlo hst

theorem force_eq {α : Type} (n : Nat) (k : Nat → α) : force n k = k n := by cases n <;> rfl

theorem forceR_eq {α : Type} (l : List Nat) (k : List Nat → α) : ∃ key, forceR l k = k key := by
  unfold forceR
  generalize ([] : List Nat) = acc
  induction l generalizing acc with
  | nil => exact ⟨acc, rfl⟩
  | cons x l ih =>
    obtain ⟨key, hk⟩ := ih (x :: acc)
    exact ⟨key, by rw [← hk]; exact force_eq x _⟩

omit [NG P] in
theorem memo_ok {run : RunK} (hr : RunOk P run) : TabOk P (memo run) := by
  intro g args h pan v h' he U lo μ w ok s hlo hst
  unfold memo at he
  obtain ⟨key, hkey⟩ := forceR_eq (enc g args h) fun key => ob (entOf run key) (useEnt g args h)
  rw [hkey] at he
  obtain ⟨e, h1, h2⟩ := ob_eq_some.1 he
  unfold entOf at h1
  obtain ⟨mk, k1, h1⟩ := ob_eq_some.1 h1
  obtain ⟨L, k2, h1⟩ := ob_eq_some.1 h1
  obtain ⟨r, k3, h1⟩ := ob_eq_some.1 h1
  obtain ⟨sd, k4, h1⟩ := ob_eq_some.1 h1
  obtain ⟨k5, h1⟩ := ite'_eq_some.1 h1
  obtain ⟨k6, h1⟩ := ite'_eq_some.1 h1
  cases h1
  rw [allL_eq] at k5
  obtain ⟨h3, h4⟩ := ite'_eq_some.1 h2
  obtain ⟨io, h5, h6⟩ := om_eq_some.1 h4
  rw [beq_eq] at h3
  simp only at h3 h5 h6
  subst h3
  cases pan with
  | true => cases h6
  | false =>
    cases h6
    exact use_ok (ent_ok hr k2 k5) h5 k6 ok s hlo

omit [NG P] in
theorem tabNo_ok : TabOk P tabNo := by
  intro g args h pan v h' he; cases he
omit [NG P] in
theorem tabCons_ok {mask : Nat} {run : RunK} {tab : Tab} (hr : RunOk P run) (ht : TabOk P tab) : TabOk P (tabCons mask run tab) := by
  intro g args h pan v h' he
  unfold tabCons at he
  rw [ite'_eq] at he
  split at he
  · exact memo_ok hr g args h pan v h' he
  · exact ht g args h pan v h' he
omit [NG P] in
theorem tabTop_ok {mask : Nat} {tab : Tab} (ht : TabOk P tab) : TabOk P (tabTop mask tab) := by
  intro g args h pan v h' he
  exact ht g args h pan v h' (ite'_eq_some.1 he).2
end
end Go.Ev

namespace Go.Ev
set_option linter.unusedVariables false
set_option linter.unusedSimpArgs false

/-! Calls whose keys' entries are written out. -/
noncomputable section
structure LE where
  key : NS
  me : ME
def entLit (l : List LE) (key : NS) : Option ME := List.rec (motive := fun _ => Option ME) none (fun e _ ih => ite' (eqNs e.key key) (some e.me) ih) l
def memoLit (l : List LE) : Tab := fun g args h => forceR (enc g args h) fun key => ob (entLit l key) (useEnt g args h)
def tabLit (mask : Nat) (l : List LE) (tab : Tab) : Tab := fun g args h => ite' (inMask mask g) (memoLit l g args h) (tab g args h)
end

def LitsOk (P : Program) (l : List LE) : Prop := ∀ e ∈ l, ∃ run, RunOk P run ∧ entOf run e.key = some e.me
section
variable {P : Program}
theorem litsNil : LitsOk P [] := fun e he => by cases he
theorem litsCons {e : LE} {l : List LE} {run : RunK} (hr : RunOk P run) (he : entOf run e.key = some e.me) (hl : LitsOk P l) : LitsOk P (e :: l) := fun x hx => by
  rcases List.mem_cons.1 hx with rfl | hx
  · exact ⟨run, hr, he⟩
  · exact hl x hx

theorem ent_use {run : RunK} (hr : RunOk P run) {key : NS} {e : ME} (h1 : entOf run key = some e) {g : FuncId} {args : List Value} {h : Hp} {pan : Bool} {v : Value} {h' : Hp} (h2 : useEnt g args h e = some (if pan then .pan v h' else .ret v h'))
    {U : Ids} {lo : Nat} {μ : Mu} {w : World} (ok : HpOk U h) (s : Sat P lo μ h.look w) (hlo : lo ≤ w.heap.size) : Calls P g (args.map (ren μ)).toArray w (CallPost P U lo μ h w pan v h') := by
  unfold entOf at h1
  obtain ⟨mk, k1, h1⟩ := ob_eq_some.1 h1
  obtain ⟨L, k2, h1⟩ := ob_eq_some.1 h1
  obtain ⟨r, k3, h1⟩ := ob_eq_some.1 h1
  obtain ⟨sd, k4, h1⟩ := ob_eq_some.1 h1
  obtain ⟨k5, h1⟩ := ite'_eq_some.1 h1
  obtain ⟨k6, h1⟩ := ite'_eq_some.1 h1
  cases h1
  rw [allL_eq] at k5
  obtain ⟨h3, h4⟩ := ite'_eq_some.1 h2
  obtain ⟨io, h5, h6⟩ := om_eq_some.1 h4
  rw [beq_eq] at h3
  simp only at h3 h5 h6
  subst h3
  cases pan with
  | true => cases h6
  | false =>
    cases h6
    exact use_ok (ent_ok hr k2 k5) h5 k6 ok s hlo

theorem entLit_mem {l : List LE} {key : NS} {e : ME} (h : entLit l key = some e) : ∃ x ∈ l, x.me = e := by
  induction l with
  | nil => cases h
  | cons x l ih =>
    have h' : ite' (eqNs x.key key) (some x.me) (entLit l key) = some e := h
    rw [ite'_eq] at h'
    split at h'
    · cases h'; exact ⟨x, .head _, rfl⟩
    · obtain ⟨y, hy, e1⟩ := ih h'
      exact ⟨y, .tail _ hy, e1⟩

theorem tabLit_ok {mask : Nat} {l : List LE} {tab : Tab} (hl : LitsOk P l) (ht : TabOk P tab) : TabOk P (tabLit mask l tab) := by
  intro g args h pan v h' he
  unfold tabLit at he
  rw [ite'_eq] at he
  split at he
  · intro U lo μ w ok s hlo hst
    unfold memoLit at he
    obtain ⟨key, hkey⟩ := forceR_eq (enc g args h) fun key => ob (entLit l key) (useEnt g args h)
    rw [hkey] at he
    obtain ⟨e, h1, h2⟩ := ob_eq_some.1 he
    obtain ⟨x, hx, rfl⟩ := entLit_mem h1
    obtain ⟨run, hr, h3⟩ := hl x hx
    exact ent_use hr h3 h2 ok s hlo
  · exact ht g args h pan v h' he
end
end Go.Ev

namespace Go.Ev
set_option linter.unusedVariables false
set_option linter.unusedSimpArgs false
open Go.RowKit

/-! Use of a run from outside: a call whose arguments lie in memory as a small heap says. -/

noncomputable def runCk (run : RunK) (g : FuncId) (args : List Value) (pre : List Blk) (chk : Value → Hp → Bool) : Bool :=
  Option.rec (motive := fun _ => Bool) false (fun L => allL (fun r => CRes.rec (motive := fun _ => Bool) (fun v h => ite' (Nat.ble (Nat.add 1000 (lenL pre)) h.mw) (chk v h) false) (fun _ _ => false) false r) L) (run g args (hpOf pre))

theorem known {P : Program} [NG P] {run : RunK} (hr : RunOk P run) {g : FuncId} {args : List Value} {pre : List Blk} {chk : Value → Hp → Bool} (he : runCk run g args pre chk = true)
    (hpre : ∀ b ∈ pre, StB (Upto pre.length) b) (hargs : ∀ v ∈ args, Stable (Upto pre.length) v) {μ : Mu} {w : World} (hlow : ∀ id, id < 1000 → μ id = ⟨id, 0, 0⟩)
    (hblk : ∀ i b, pre[i]? = some b → BlkOk P w μ (1000 + i) b) (hinj : ∀ i j, i < pre.length → j < pre.length → (μ (1000 + i)).blk = (μ (1000 + j)).blk → i = j) :
    Calls P g (args.map (ren μ)).toArray w fun e w' => Below w.heap.size w w' ∧ ∃ v h' μ', chk v h' = true ∧ e = .returned (ren μ' v) ∧ (∀ id, id < 1000 + pre.length → μ' id = μ id) ∧
      (∀ id b, 1000 + pre.length ≤ id → h'.look id = some b → BlkOk P w' μ' id b ∧ w.heap.size ≤ (μ' id).blk) ∧
      (∀ id id' b b', h'.look id = some b → h'.look id' = some b' → (μ' id).blk = (μ' id').blk → id = id') := by
  unfold runCk at he
  cases hrun : run g args (hpOf pre) with
  | none => rw [hrun] at he; cases he
  | some L =>
    rw [hrun] at he
    have he' : ∀ r ∈ L, ∃ v h, r = .ret v h ∧ 1000 + pre.length ≤ h.mw ∧ chk v h = true := by
      intro r hm
      have := List.all_eq_true.1 ((allL_eq _ L).symm.trans he) r hm
      cases r with
      | ret v h =>
        have h1 : ite' (Nat.ble (Nat.add 1000 (lenL pre)) h.mw) (chk v h) false = true := this
        rw [ite'_eq] at h1
        split at h1
        · rename_i h2
          rw [lenL_eq] at h2
          exact ⟨v, h, rfl, Nat.le_of_ble_eq_true h2, h1⟩
        · cases h1
      | pan v h => cases this
      | fail => cases this
    have hsat : Sat P 0 μ (hpOf pre).look w := by
      refine ⟨hlow, fun id b hl => ?_, fun id id' b b' h1 h2 h3 => ?_, fun _ _ _ => Nat.zero_le _⟩
      · rw [hpOf_look] at hl
        split at hl
        · rename_i h
          have := hblk (id - 1000) b hl
          rwa [show 1000 + (id - 1000) = id by omega] at this
        · cases hl
      · rw [hpOf_look] at h1 h2
        split at h1
        · split at h2
          · have := hinj (id - 1000) (id' - 1000) (by omega) (by omega) (by rwa [show 1000 + (id - 1000) = id by omega, show 1000 + (id' - 1000) = id' by omega])
            omega
          · cases h2
        · cases h1
    refine (hr g args _ L hrun (List.all_eq_true.2 fun r hm => by obtain ⟨v, h, rfl, _⟩ := he' r hm; rfl) NoIds 0 μ w (hpOf_ok hpre) hsat (Nat.zero_le _) fun v hv => (hargs v hv).mono fun i hi => by rw [vis_no, hpOf_next]; exact hi).mono fun en w' p => ?_
    obtain ⟨pan, v, h', hm, μ', g1, g2, rfl⟩ := p
    obtain ⟨v2, h2, e2, hmw, hc⟩ := he' _ hm
    cases pan with
    | true => cases e2
    | false =>
      cases e2
      have hw : ∀ id b, Wr h' id → (hpOf pre).look id ≠ some b := by
        intro id b h1 h3
        unfold Wr at h1
        rw [hpOf_look, if_neg (by omega)] at h3; cases h3
      refine ⟨⟨g1.post.os, g1.post.tape, g1.post.output, g1.post.size, fun k hk => g1.post.frame k hk fun id blk hwr hl => absurd hl (hw id blk hwr)⟩, v, h', μ', hc, by simp, fun id hi => g1.post.agree id fun hf => ?_, fun id b hi hl => ⟨g1.post.sat.blk id b hl, ?_⟩, fun id id' b b' h1 h3 h4 => g1.post.sat.inj id id' b b' h1 h3 h4⟩
      · unfold Fresh at hf; rw [hpOf_next] at hf; omega
      · have hlt : id < h'.next := g1.step.ok.lt hl
        rcases g1.post.fresh id b (by unfold Fresh; rw [hpOf_next]; omega) hl with h | ⟨id0, b0, h1, h3, _⟩
        · exact h
        · exact absurd h3 (hw id0 b0 h1)
end Go.Ev
