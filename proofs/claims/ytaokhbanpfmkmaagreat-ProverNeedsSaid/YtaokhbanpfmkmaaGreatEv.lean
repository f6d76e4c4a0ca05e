/- A verified evaluator: a part of it. -/
import GoSem.Dispatch
import GoSem.Machine.Return
/- An abstract evaluator of the model's code, made to be run by Lean's kernel. -/
noncomputable section
namespace Go.Ev
set_option linter.unusedVariables false
set_option linter.unusedSimpArgs false

/-- A choice that reduces in one step. -/
def ite' {α : Type} (c : Bool) (t e : α) : α := Bool.rec e t c
def ob {α β : Type} (x : Option α) (k : α → Option β) : Option β := Option.rec none k x
def om {α β : Type} (x : Option α) (k : α → β) : Option β := Option.rec none (fun a => some (k a)) x
def mapL {α β : Type} (k : α → β) (l : List α) : List β := List.rec [] (fun a _ ih => k a :: ih) l
def allL {α : Type} (k : α → Bool) (l : List α) : Bool := List.rec true (fun a _ ih => ite' (k a) ih false) l
def appL {α : Type} (l m : List α) : List α := List.rec m (fun a _ ih => a :: ih) l
def lenL {α : Type} (l : List α) : Nat := List.rec 0 (fun _ _ ih => Nat.succ ih) l

/-- Eight things. -/
structure N8 (α : Type) where
  a : α
  b : α
  c : α
  d : α
  e : α
  f : α
  g : α
  h : α

inductive Dg where
  | d0 | d1 | d2 | d3 | d4 | d5 | d6 | d7
  deriving DecidableEq

def dg (n : Nat) : Dg :=
  ite' (Nat.ble 4 n) (ite' (Nat.ble 6 n) (ite' (Nat.beq n 7) .d7 .d6) (ite' (Nat.beq n 5) .d5 .d4)) (ite' (Nat.ble 2 n) (ite' (Nat.beq n 3) .d3 .d2) (ite' (Nat.beq n 1) .d1 .d0))

def u0 {α : Type} (k : α → α) (x : N8 α) : N8 α := N8.rec (motive := fun _ => N8 α) (fun a b c d e f g h => ⟨k a, b, c, d, e, f, g, h⟩) x
def u1 {α : Type} (k : α → α) (x : N8 α) : N8 α := N8.rec (motive := fun _ => N8 α) (fun a b c d e f g h => ⟨a, k b, c, d, e, f, g, h⟩) x
def u2 {α : Type} (k : α → α) (x : N8 α) : N8 α := N8.rec (motive := fun _ => N8 α) (fun a b c d e f g h => ⟨a, b, k c, d, e, f, g, h⟩) x
def u3 {α : Type} (k : α → α) (x : N8 α) : N8 α := N8.rec (motive := fun _ => N8 α) (fun a b c d e f g h => ⟨a, b, c, k d, e, f, g, h⟩) x
def u4 {α : Type} (k : α → α) (x : N8 α) : N8 α := N8.rec (motive := fun _ => N8 α) (fun a b c d e f g h => ⟨a, b, c, d, k e, f, g, h⟩) x
def u5 {α : Type} (k : α → α) (x : N8 α) : N8 α := N8.rec (motive := fun _ => N8 α) (fun a b c d e f g h => ⟨a, b, c, d, e, k f, g, h⟩) x
def u6 {α : Type} (k : α → α) (x : N8 α) : N8 α := N8.rec (motive := fun _ => N8 α) (fun a b c d e f g h => ⟨a, b, c, d, e, f, k g, h⟩) x
def u7 {α : Type} (k : α → α) (x : N8 α) : N8 α := N8.rec (motive := fun _ => N8 α) (fun a b c d e f g h => ⟨a, b, c, d, e, f, g, k h⟩) x

/-- Where a digit leads: read, write. -/
structure SB (α : Type) where
  s : N8 α → α
  u : (α → α) → N8 α → N8 α
def sb (α : Type) (i : Dg) : SB α := Dg.rec (motive := fun _ => SB α) ⟨N8.a, u0⟩ ⟨N8.b, u1⟩ ⟨N8.c, u2⟩ ⟨N8.d, u3⟩ ⟨N8.e, u4⟩ ⟨N8.f, u5⟩ ⟨N8.g, u6⟩ ⟨N8.h, u7⟩ i

/-- A frame's temporaries, 512 at most. -/
structure VB where
  v : Value
def all8 {α : Type} (x : α) : N8 α := ⟨x, x, x, x, x, x, x, x⟩
def undef : Value := .tuple #[]
abbrev Tr := N8 (N8 (N8 VB))
def tr0 : Tr := all8 (all8 (all8 ⟨undef⟩))
def getR (i : Nat) (t : Tr) : VB := (sb _ (dg (Nat.mod i 8))).s ((sb _ (dg (Nat.mod (Nat.div i 8) 8))).s ((sb _ (dg (Nat.div i 64))).s t))
def putR (i : Nat) (v : VB) (t : Tr) : Tr := (sb _ (dg (Nat.div i 64))).u ((sb _ (dg (Nat.mod (Nat.div i 8) 8))).u ((sb _ (dg (Nat.mod i 8))).u fun _ => v)) t

/-- Sixteen things. -/
structure N16 (α : Type) where
  a0 : α
  a1 : α
  a2 : α
  a3 : α
  a4 : α
  a5 : α
  a6 : α
  a7 : α
  a8 : α
  a9 : α
  a10 : α
  a11 : α
  a12 : α
  a13 : α
  a14 : α
  a15 : α
inductive Hx where
  | h0 | h1 | h2 | h3 | h4 | h5 | h6 | h7 | h8 | h9 | h10 | h11 | h12 | h13 | h14 | h15
  deriving DecidableEq
def hx (n : Nat) : Hx :=
  ite' (Nat.ble 8 n)
    (ite' (Nat.ble 12 n) (ite' (Nat.ble 14 n) (ite' (Nat.beq n 15) .h15 .h14) (ite' (Nat.beq n 13) .h13 .h12)) (ite' (Nat.ble 10 n) (ite' (Nat.beq n 11) .h11 .h10) (ite' (Nat.beq n 9) .h9 .h8)))
    (ite' (Nat.ble 4 n) (ite' (Nat.ble 6 n) (ite' (Nat.beq n 7) .h7 .h6) (ite' (Nat.beq n 5) .h5 .h4)) (ite' (Nat.ble 2 n) (ite' (Nat.beq n 3) .h3 .h2) (ite' (Nat.beq n 1) .h1 .h0)))
structure G16 where
  s : N16 VB → VB
  u : VB → N16 VB → N16 VB
def g16 (i : Hx) : G16 := Hx.rec (motive := fun _ => G16)
  ⟨fun x => N16.rec (motive := fun _ => VB) (fun a0 a1 a2 a3 a4 a5 a6 a7 a8 a9 a10 a11 a12 a13 a14 a15 => a0) x, fun v x => N16.rec (motive := fun _ => N16 VB) (fun a0 a1 a2 a3 a4 a5 a6 a7 a8 a9 a10 a11 a12 a13 a14 a15 => ⟨v, a1, a2, a3, a4, a5, a6, a7, a8, a9, a10, a11, a12, a13, a14, a15⟩) x⟩
  ⟨fun x => N16.rec (motive := fun _ => VB) (fun a0 a1 a2 a3 a4 a5 a6 a7 a8 a9 a10 a11 a12 a13 a14 a15 => a1) x, fun v x => N16.rec (motive := fun _ => N16 VB) (fun a0 a1 a2 a3 a4 a5 a6 a7 a8 a9 a10 a11 a12 a13 a14 a15 => ⟨a0, v, a2, a3, a4, a5, a6, a7, a8, a9, a10, a11, a12, a13, a14, a15⟩) x⟩
  ⟨fun x => N16.rec (motive := fun _ => VB) (fun a0 a1 a2 a3 a4 a5 a6 a7 a8 a9 a10 a11 a12 a13 a14 a15 => a2) x, fun v x => N16.rec (motive := fun _ => N16 VB) (fun a0 a1 a2 a3 a4 a5 a6 a7 a8 a9 a10 a11 a12 a13 a14 a15 => ⟨a0, a1, v, a3, a4, a5, a6, a7, a8, a9, a10, a11, a12, a13, a14, a15⟩) x⟩
  ⟨fun x => N16.rec (motive := fun _ => VB) (fun a0 a1 a2 a3 a4 a5 a6 a7 a8 a9 a10 a11 a12 a13 a14 a15 => a3) x, fun v x => N16.rec (motive := fun _ => N16 VB) (fun a0 a1 a2 a3 a4 a5 a6 a7 a8 a9 a10 a11 a12 a13 a14 a15 => ⟨a0, a1, a2, v, a4, a5, a6, a7, a8, a9, a10, a11, a12, a13, a14, a15⟩) x⟩
  ⟨fun x => N16.rec (motive := fun _ => VB) (fun a0 a1 a2 a3 a4 a5 a6 a7 a8 a9 a10 a11 a12 a13 a14 a15 => a4) x, fun v x => N16.rec (motive := fun _ => N16 VB) (fun a0 a1 a2 a3 a4 a5 a6 a7 a8 a9 a10 a11 a12 a13 a14 a15 => ⟨a0, a1, a2, a3, v, a5, a6, a7, a8, a9, a10, a11, a12, a13, a14, a15⟩) x⟩
  ⟨fun x => N16.rec (motive := fun _ => VB) (fun a0 a1 a2 a3 a4 a5 a6 a7 a8 a9 a10 a11 a12 a13 a14 a15 => a5) x, fun v x => N16.rec (motive := fun _ => N16 VB) (fun a0 a1 a2 a3 a4 a5 a6 a7 a8 a9 a10 a11 a12 a13 a14 a15 => ⟨a0, a1, a2, a3, a4, v, a6, a7, a8, a9, a10, a11, a12, a13, a14, a15⟩) x⟩
  ⟨fun x => N16.rec (motive := fun _ => VB) (fun a0 a1 a2 a3 a4 a5 a6 a7 a8 a9 a10 a11 a12 a13 a14 a15 => a6) x, fun v x => N16.rec (motive := fun _ => N16 VB) (fun a0 a1 a2 a3 a4 a5 a6 a7 a8 a9 a10 a11 a12 a13 a14 a15 => ⟨a0, a1, a2, a3, a4, a5, v, a7, a8, a9, a10, a11, a12, a13, a14, a15⟩) x⟩
  ⟨fun x => N16.rec (motive := fun _ => VB) (fun a0 a1 a2 a3 a4 a5 a6 a7 a8 a9 a10 a11 a12 a13 a14 a15 => a7) x, fun v x => N16.rec (motive := fun _ => N16 VB) (fun a0 a1 a2 a3 a4 a5 a6 a7 a8 a9 a10 a11 a12 a13 a14 a15 => ⟨a0, a1, a2, a3, a4, a5, a6, v, a8, a9, a10, a11, a12, a13, a14, a15⟩) x⟩
  ⟨fun x => N16.rec (motive := fun _ => VB) (fun a0 a1 a2 a3 a4 a5 a6 a7 a8 a9 a10 a11 a12 a13 a14 a15 => a8) x, fun v x => N16.rec (motive := fun _ => N16 VB) (fun a0 a1 a2 a3 a4 a5 a6 a7 a8 a9 a10 a11 a12 a13 a14 a15 => ⟨a0, a1, a2, a3, a4, a5, a6, a7, v, a9, a10, a11, a12, a13, a14, a15⟩) x⟩
  ⟨fun x => N16.rec (motive := fun _ => VB) (fun a0 a1 a2 a3 a4 a5 a6 a7 a8 a9 a10 a11 a12 a13 a14 a15 => a9) x, fun v x => N16.rec (motive := fun _ => N16 VB) (fun a0 a1 a2 a3 a4 a5 a6 a7 a8 a9 a10 a11 a12 a13 a14 a15 => ⟨a0, a1, a2, a3, a4, a5, a6, a7, a8, v, a10, a11, a12, a13, a14, a15⟩) x⟩
  ⟨fun x => N16.rec (motive := fun _ => VB) (fun a0 a1 a2 a3 a4 a5 a6 a7 a8 a9 a10 a11 a12 a13 a14 a15 => a10) x, fun v x => N16.rec (motive := fun _ => N16 VB) (fun a0 a1 a2 a3 a4 a5 a6 a7 a8 a9 a10 a11 a12 a13 a14 a15 => ⟨a0, a1, a2, a3, a4, a5, a6, a7, a8, a9, v, a11, a12, a13, a14, a15⟩) x⟩
  ⟨fun x => N16.rec (motive := fun _ => VB) (fun a0 a1 a2 a3 a4 a5 a6 a7 a8 a9 a10 a11 a12 a13 a14 a15 => a11) x, fun v x => N16.rec (motive := fun _ => N16 VB) (fun a0 a1 a2 a3 a4 a5 a6 a7 a8 a9 a10 a11 a12 a13 a14 a15 => ⟨a0, a1, a2, a3, a4, a5, a6, a7, a8, a9, a10, v, a12, a13, a14, a15⟩) x⟩
  ⟨fun x => N16.rec (motive := fun _ => VB) (fun a0 a1 a2 a3 a4 a5 a6 a7 a8 a9 a10 a11 a12 a13 a14 a15 => a12) x, fun v x => N16.rec (motive := fun _ => N16 VB) (fun a0 a1 a2 a3 a4 a5 a6 a7 a8 a9 a10 a11 a12 a13 a14 a15 => ⟨a0, a1, a2, a3, a4, a5, a6, a7, a8, a9, a10, a11, v, a13, a14, a15⟩) x⟩
  ⟨fun x => N16.rec (motive := fun _ => VB) (fun a0 a1 a2 a3 a4 a5 a6 a7 a8 a9 a10 a11 a12 a13 a14 a15 => a13) x, fun v x => N16.rec (motive := fun _ => N16 VB) (fun a0 a1 a2 a3 a4 a5 a6 a7 a8 a9 a10 a11 a12 a13 a14 a15 => ⟨a0, a1, a2, a3, a4, a5, a6, a7, a8, a9, a10, a11, a12, v, a14, a15⟩) x⟩
  ⟨fun x => N16.rec (motive := fun _ => VB) (fun a0 a1 a2 a3 a4 a5 a6 a7 a8 a9 a10 a11 a12 a13 a14 a15 => a14) x, fun v x => N16.rec (motive := fun _ => N16 VB) (fun a0 a1 a2 a3 a4 a5 a6 a7 a8 a9 a10 a11 a12 a13 a14 a15 => ⟨a0, a1, a2, a3, a4, a5, a6, a7, a8, a9, a10, a11, a12, a13, v, a15⟩) x⟩
  ⟨fun x => N16.rec (motive := fun _ => VB) (fun a0 a1 a2 a3 a4 a5 a6 a7 a8 a9 a10 a11 a12 a13 a14 a15 => a15) x, fun v x => N16.rec (motive := fun _ => N16 VB) (fun a0 a1 a2 a3 a4 a5 a6 a7 a8 a9 a10 a11 a12 a13 a14 a15 => ⟨a0, a1, a2, a3, a4, a5, a6, a7, a8, a9, a10, a11, a12, a13, a14, v⟩) x⟩
  i
/-- The first 64 in four parts; the others. -/
structure Tm where
  a : N16 VB
  b : N16 VB
  c : N16 VB
  d : N16 VB
  r : Tr
def all16 (x : VB) : N16 VB := ⟨x, x, x, x, x, x, x, x, x, x, x, x, x, x, x, x⟩
def tm0 : Tm := ⟨all16 ⟨undef⟩, all16 ⟨undef⟩, all16 ⟨undef⟩, all16 ⟨undef⟩, tr0⟩
/-- Where a temporary lies: read, write. -/
structure GB where
  e : Tm → VB
  u : VB → Tm → Tm
def gbK (k : Nat) (s : N16 VB → VB) (u : VB → N16 VB → N16 VB) : GB :=
  ite' (Nat.ble 2 k)
    (ite' (Nat.beq k 3) ⟨fun t => Tm.rec (motive := fun _ => VB) (fun _ _ _ d _ => s d) t, fun v t => Tm.rec (motive := fun _ => Tm) (fun a b c d r => ⟨a, b, c, u v d, r⟩) t⟩
      ⟨fun t => Tm.rec (motive := fun _ => VB) (fun _ _ c _ _ => s c) t, fun v t => Tm.rec (motive := fun _ => Tm) (fun a b c d r => ⟨a, b, u v c, d, r⟩) t⟩)
    (ite' (Nat.beq k 1) ⟨fun t => Tm.rec (motive := fun _ => VB) (fun _ b _ _ _ => s b) t, fun v t => Tm.rec (motive := fun _ => Tm) (fun a b c d r => ⟨a, u v b, c, d, r⟩) t⟩
      ⟨fun t => Tm.rec (motive := fun _ => VB) (fun a _ _ _ _ => s a) t, fun v t => Tm.rec (motive := fun _ => Tm) (fun a b c d r => ⟨u v a, b, c, d, r⟩) t⟩)
def gbLo (k : Nat) (g : G16) : GB := G16.rec (motive := fun _ => GB) (fun s u => gbK k s u) g
def gbHi (i : Nat) : GB := ⟨fun t => Tm.rec (motive := fun _ => VB) (fun _ _ _ _ r => getR i r) t, fun v t => Tm.rec (motive := fun _ => Tm) (fun a b c d r => ⟨a, b, c, d, putR i v r⟩) t⟩
def gb (i : Nat) : GB := ite' (Nat.blt i 64) (gbLo (Nat.div i 16) (g16 (hx (Nat.mod i 16)))) (gbHi i)
def getBox (i : Nat) (t : Tm) : VB := (gb i).e t
def getTm (i : Nat) (t : Tm) : Value := (getBox i t).v
def putTm0 (i : Nat) (v : VB) (t : Tm) : Tm := (gb i).u v t

/-- A tree of values by number. -/
inductive TB (α : Type) where
  | nil
  | node (v : Option α) (l r : TB α)

def getNode {α : Type} (v : Option α) (gl gr : Nat → Option α) (n : Nat) : Option α :=
  ite' (Nat.beq n 0) v (ite' (Nat.beq (Nat.mod n 2) 1) (gl (Nat.div n 2)) (gr (Nat.pred (Nat.div n 2))))

def TB.get {α : Type} (t : TB α) : Nat → Option α :=
  TB.rec (motive := fun _ => Nat → Option α) (fun _ => none) (fun v _ _ gl gr => getNode v gl gr) t

def setNil {α : Type} (ih : TB α → Nat → Option α → TB α) (n : Nat) (x : Option α) : TB α :=
  ite' (Nat.beq n 0) (.node x .nil .nil)
    (ite' (Nat.beq (Nat.mod n 2) 1) (.node none (ih .nil (Nat.div n 2) x) .nil) (.node none .nil (ih .nil (Nat.pred (Nat.div n 2)) x)))

def setNode {α : Type} (ih : TB α → Nat → Option α → TB α) (n : Nat) (x : Option α) (v : Option α) (l r : TB α) : TB α :=
  ite' (Nat.beq n 0) (.node x l r)
    (ite' (Nat.beq (Nat.mod n 2) 1) (.node v (ih l (Nat.div n 2) x) r) (.node v l (ih r (Nat.pred (Nat.div n 2)) x)))

def setStep {α : Type} (ih : TB α → Nat → Option α → TB α) (t : TB α) (n : Nat) (x : Option α) : TB α :=
  TB.rec (motive := fun _ => TB α) (setNil ih n x) (fun v l r _ _ => setNode ih n x v l r) t

/-- `set d t n v`: `d` is more than `n`. -/
def TB.set {α : Type} (d : Nat) : TB α → Nat → Option α → TB α :=
  Nat.rec (motive := fun _ => TB α → Nat → Option α → TB α) (fun t _ _ => t) (fun _ ih => setStep ih) d

def TB.put {α : Type} (t : TB α) (n : Nat) (x : Option α) : TB α := TB.set (Nat.succ n) t n x


structure H16 (α : Type) where
  s : N16 α → α
  u : (α → α) → N16 α → N16 α
def h16 (α : Type) (i : Hx) : H16 α := Hx.rec (motive := fun _ => H16 α)
  ⟨fun x => N16.rec (motive := fun _ => α) (fun a0 a1 a2 a3 a4 a5 a6 a7 a8 a9 a10 a11 a12 a13 a14 a15 => a0) x, fun f x => N16.rec (motive := fun _ => N16 α) (fun a0 a1 a2 a3 a4 a5 a6 a7 a8 a9 a10 a11 a12 a13 a14 a15 => ⟨f a0, a1, a2, a3, a4, a5, a6, a7, a8, a9, a10, a11, a12, a13, a14, a15⟩) x⟩
  ⟨fun x => N16.rec (motive := fun _ => α) (fun a0 a1 a2 a3 a4 a5 a6 a7 a8 a9 a10 a11 a12 a13 a14 a15 => a1) x, fun f x => N16.rec (motive := fun _ => N16 α) (fun a0 a1 a2 a3 a4 a5 a6 a7 a8 a9 a10 a11 a12 a13 a14 a15 => ⟨a0, f a1, a2, a3, a4, a5, a6, a7, a8, a9, a10, a11, a12, a13, a14, a15⟩) x⟩
  ⟨fun x => N16.rec (motive := fun _ => α) (fun a0 a1 a2 a3 a4 a5 a6 a7 a8 a9 a10 a11 a12 a13 a14 a15 => a2) x, fun f x => N16.rec (motive := fun _ => N16 α) (fun a0 a1 a2 a3 a4 a5 a6 a7 a8 a9 a10 a11 a12 a13 a14 a15 => ⟨a0, a1, f a2, a3, a4, a5, a6, a7, a8, a9, a10, a11, a12, a13, a14, a15⟩) x⟩
  ⟨fun x => N16.rec (motive := fun _ => α) (fun a0 a1 a2 a3 a4 a5 a6 a7 a8 a9 a10 a11 a12 a13 a14 a15 => a3) x, fun f x => N16.rec (motive := fun _ => N16 α) (fun a0 a1 a2 a3 a4 a5 a6 a7 a8 a9 a10 a11 a12 a13 a14 a15 => ⟨a0, a1, a2, f a3, a4, a5, a6, a7, a8, a9, a10, a11, a12, a13, a14, a15⟩) x⟩
  ⟨fun x => N16.rec (motive := fun _ => α) (fun a0 a1 a2 a3 a4 a5 a6 a7 a8 a9 a10 a11 a12 a13 a14 a15 => a4) x, fun f x => N16.rec (motive := fun _ => N16 α) (fun a0 a1 a2 a3 a4 a5 a6 a7 a8 a9 a10 a11 a12 a13 a14 a15 => ⟨a0, a1, a2, a3, f a4, a5, a6, a7, a8, a9, a10, a11, a12, a13, a14, a15⟩) x⟩
  ⟨fun x => N16.rec (motive := fun _ => α) (fun a0 a1 a2 a3 a4 a5 a6 a7 a8 a9 a10 a11 a12 a13 a14 a15 => a5) x, fun f x => N16.rec (motive := fun _ => N16 α) (fun a0 a1 a2 a3 a4 a5 a6 a7 a8 a9 a10 a11 a12 a13 a14 a15 => ⟨a0, a1, a2, a3, a4, f a5, a6, a7, a8, a9, a10, a11, a12, a13, a14, a15⟩) x⟩
  ⟨fun x => N16.rec (motive := fun _ => α) (fun a0 a1 a2 a3 a4 a5 a6 a7 a8 a9 a10 a11 a12 a13 a14 a15 => a6) x, fun f x => N16.rec (motive := fun _ => N16 α) (fun a0 a1 a2 a3 a4 a5 a6 a7 a8 a9 a10 a11 a12 a13 a14 a15 => ⟨a0, a1, a2, a3, a4, a5, f a6, a7, a8, a9, a10, a11, a12, a13, a14, a15⟩) x⟩
  ⟨fun x => N16.rec (motive := fun _ => α) (fun a0 a1 a2 a3 a4 a5 a6 a7 a8 a9 a10 a11 a12 a13 a14 a15 => a7) x, fun f x => N16.rec (motive := fun _ => N16 α) (fun a0 a1 a2 a3 a4 a5 a6 a7 a8 a9 a10 a11 a12 a13 a14 a15 => ⟨a0, a1, a2, a3, a4, a5, a6, f a7, a8, a9, a10, a11, a12, a13, a14, a15⟩) x⟩
  ⟨fun x => N16.rec (motive := fun _ => α) (fun a0 a1 a2 a3 a4 a5 a6 a7 a8 a9 a10 a11 a12 a13 a14 a15 => a8) x, fun f x => N16.rec (motive := fun _ => N16 α) (fun a0 a1 a2 a3 a4 a5 a6 a7 a8 a9 a10 a11 a12 a13 a14 a15 => ⟨a0, a1, a2, a3, a4, a5, a6, a7, f a8, a9, a10, a11, a12, a13, a14, a15⟩) x⟩
  ⟨fun x => N16.rec (motive := fun _ => α) (fun a0 a1 a2 a3 a4 a5 a6 a7 a8 a9 a10 a11 a12 a13 a14 a15 => a9) x, fun f x => N16.rec (motive := fun _ => N16 α) (fun a0 a1 a2 a3 a4 a5 a6 a7 a8 a9 a10 a11 a12 a13 a14 a15 => ⟨a0, a1, a2, a3, a4, a5, a6, a7, a8, f a9, a10, a11, a12, a13, a14, a15⟩) x⟩
  ⟨fun x => N16.rec (motive := fun _ => α) (fun a0 a1 a2 a3 a4 a5 a6 a7 a8 a9 a10 a11 a12 a13 a14 a15 => a10) x, fun f x => N16.rec (motive := fun _ => N16 α) (fun a0 a1 a2 a3 a4 a5 a6 a7 a8 a9 a10 a11 a12 a13 a14 a15 => ⟨a0, a1, a2, a3, a4, a5, a6, a7, a8, a9, f a10, a11, a12, a13, a14, a15⟩) x⟩
  ⟨fun x => N16.rec (motive := fun _ => α) (fun a0 a1 a2 a3 a4 a5 a6 a7 a8 a9 a10 a11 a12 a13 a14 a15 => a11) x, fun f x => N16.rec (motive := fun _ => N16 α) (fun a0 a1 a2 a3 a4 a5 a6 a7 a8 a9 a10 a11 a12 a13 a14 a15 => ⟨a0, a1, a2, a3, a4, a5, a6, a7, a8, a9, a10, f a11, a12, a13, a14, a15⟩) x⟩
  ⟨fun x => N16.rec (motive := fun _ => α) (fun a0 a1 a2 a3 a4 a5 a6 a7 a8 a9 a10 a11 a12 a13 a14 a15 => a12) x, fun f x => N16.rec (motive := fun _ => N16 α) (fun a0 a1 a2 a3 a4 a5 a6 a7 a8 a9 a10 a11 a12 a13 a14 a15 => ⟨a0, a1, a2, a3, a4, a5, a6, a7, a8, a9, a10, a11, f a12, a13, a14, a15⟩) x⟩
  ⟨fun x => N16.rec (motive := fun _ => α) (fun a0 a1 a2 a3 a4 a5 a6 a7 a8 a9 a10 a11 a12 a13 a14 a15 => a13) x, fun f x => N16.rec (motive := fun _ => N16 α) (fun a0 a1 a2 a3 a4 a5 a6 a7 a8 a9 a10 a11 a12 a13 a14 a15 => ⟨a0, a1, a2, a3, a4, a5, a6, a7, a8, a9, a10, a11, a12, f a13, a14, a15⟩) x⟩
  ⟨fun x => N16.rec (motive := fun _ => α) (fun a0 a1 a2 a3 a4 a5 a6 a7 a8 a9 a10 a11 a12 a13 a14 a15 => a14) x, fun f x => N16.rec (motive := fun _ => N16 α) (fun a0 a1 a2 a3 a4 a5 a6 a7 a8 a9 a10 a11 a12 a13 a14 a15 => ⟨a0, a1, a2, a3, a4, a5, a6, a7, a8, a9, a10, a11, a12, a13, f a14, a15⟩) x⟩
  ⟨fun x => N16.rec (motive := fun _ => α) (fun a0 a1 a2 a3 a4 a5 a6 a7 a8 a9 a10 a11 a12 a13 a14 a15 => a15) x, fun f x => N16.rec (motive := fun _ => N16 α) (fun a0 a1 a2 a3 a4 a5 a6 a7 a8 a9 a10 a11 a12 a13 a14 a15 => ⟨a0, a1, a2, a3, a4, a5, a6, a7, a8, a9, a10, a11, a12, a13, a14, f a15⟩) x⟩
  i
def al16 {α : Type} (x : α) : N16 α := ⟨x, x, x, x, x, x, x, x, x, x, x, x, x, x, x, x⟩
/-- A tree of values by number: the numbers below 65536; the others. -/
structure T (α : Type) where
  lo : N16 (N16 (N16 (N16 (Option α))))
  hi : TB α
def T.nil {α : Type} : T α := ⟨al16 (al16 (al16 (al16 none))), .nil⟩
def getLo {α : Type} (t : N16 (N16 (N16 (N16 (Option α))))) (n : Nat) : Option α :=
  (h16 _ (hx (Nat.mod n 16))).s ((h16 _ (hx (Nat.mod (Nat.div n 16) 16))).s ((h16 _ (hx (Nat.mod (Nat.div n 256) 16))).s ((h16 _ (hx (Nat.div n 4096))).s t)))
def putLo {α : Type} (t : N16 (N16 (N16 (N16 (Option α))))) (n : Nat) (x : Option α) : N16 (N16 (N16 (N16 (Option α)))) :=
  (h16 _ (hx (Nat.div n 4096))).u ((h16 _ (hx (Nat.mod (Nat.div n 256) 16))).u ((h16 _ (hx (Nat.mod (Nat.div n 16) 16))).u ((h16 _ (hx (Nat.mod n 16))).u fun _ => x))) t
def T.get {α : Type} (t : T α) (n : Nat) : Option α := T.rec (motive := fun _ => Option α) (fun lo hi => ite' (Nat.blt n 65536) (getLo lo n) (hi.get n)) t
def T.put {α : Type} (t : T α) (n : Nat) (x : Option α) : T α := T.rec (motive := fun _ => T α) (fun lo hi => ite' (Nat.blt n 65536) ⟨putLo lo n x, hi⟩ ⟨lo, hi.put n x⟩) t

/-- What lies at a number of the abstract heap. -/
inductive Blk where
  | row (cs : List Value) (elem : TypeId) (opn : Bool)
  | map (es : List MapEntry) (clock : Nat)
  | iter (map : Option Nat) (since : Nat) (seen : List Nat) (stepped : Nat)
  /-- the record of a range over a function; the block for its rounds' deferred calls -/
  | loop (st : LoopState) (pend : Option Code) (tm : Tm) (sz : Nat) (ps : List Tmp) (assign body : Code)
  | defb (live : Bool)

structure Hp where
  m : T Blk
  next : Nat
  /-- the least number that was written to -/
  mw : Nat
  /-- ranges of numbers that are not to be seen -/
  hid : List (Nat × Nat)

def OPEN : Nat := 18446744073709551616
def BIG : Nat := 1000000000000

def hidden (n : Nat) : List (Nat × Nat) → Bool :=
  List.rec (motive := fun _ => Bool) false (fun p _ ih => ite' (Nat.ble p.2 n) false (ite' (Nat.ble p.1 n) true ih))

def Hp.look (h : Hp) (n : Nat) : Option Blk := ite' (hidden n h.hid) none (h.m.get n)

def minN (a b : Nat) : Nat := Nat.sub a (Nat.sub a b)

def Hp.put (h : Hp) (n : Nat) (b : Option Blk) : Hp := Hp.rec (motive := fun _ => Hp) (fun m next mw hid => ⟨m.put n b, next, minN n mw, hid⟩) h

def Hp.add (h : Hp) (b : Blk) : Hp := Hp.rec (motive := fun _ => Hp) (fun m next mw hid => ⟨m.put next (some b), Nat.succ next, mw, hid⟩) h

structure Fr where
  tm : Tm
  sz : Nat
  defers : List Deferred

structure EB where
  e : Tm → VB
def eb (x : Operand) : EB :=
  Operand.rec (motive := fun _ => EB) (fun t => GB.rec (motive := fun _ => EB) (fun e _ => ⟨e⟩) (gb t)) (fun v => ⟨fun _ => ⟨v⟩⟩) (fun g => ⟨fun _ => ⟨.pointer (some ⟨g, 0, none⟩)⟩⟩) (fun g => ⟨fun _ => ⟨.func (.func g) #[] #[]⟩⟩) x
def Fr.eval (f : Fr) (x : Operand) : Value := ((eb x).e f.tm).v

inductive OR where
  | val (v : Value) (h : Hp)
  | enter (f : FuncId) (args : List Value) (h : Hp)
  | round (l : Nat) (args : List Value) (h : Hp)
  | defer (d : Deferred) (h : Hp)
  | pan (v : Value) (h : Hp)
  | fail

/-- The value holds no address. -/
def closed : Value → Bool
  | .bool _ | .int .. | .string _ | .pointer none | .slice none _ _ | .map none | .nilFunc | .nilIface => true
  | _ => false
def closedL (l : List Value) : Bool := allL closed l
def closedA : Value → Bool
  | .agg cs => closedL cs.toList
  | .iface _ v => closed v
  | .tuple vs => closedL vs.toList
  | v => closed v

def pureRun {α : Type} (P : Program) : Sem α → Option α
  | .pure a => some a
  | .program k => pureRun P (k P)
  | .mark _ k => pureRun P k
  | _ => none

def isAggD : TypeDesc → Bool
  | .struct _ => true
  | .array _ _ => true
  | _ => false
def aggT (P : Program) (t : TypeId) : Option Bool := om (P.underlying t) isAggD
def zeroOf (P : Program) (t : TypeId) : Option Value := ob (P.info? t) (·.zero)
def sizeT (P : Program) (t : TypeId) : Option Nat := om (P.info? t) (·.size)
def bytesT (P : Program) (t : TypeId) : Option Nat := om (P.info? t) (·.bytes)
def zeroCellsOf (P : Program) (t : TypeId) : Option (List Value) := ob (zeroOf P t) fun z => ob (sizeT P t) fun n =>
  ite' (closedL z.cells.toList) (ite' (Nat.beq (lenL z.cells.toList) n) (some z.cells.toList) none) none
def zeroV (P : Program) (t : TypeId) : Option Value := ob (zeroOf P t) fun z => ite' (closedA z) (some z) none
def sliceElem : TypeDesc → Option TypeId
  | .slice e => some e
  | _ => none
def elemOfT (P : Program) (t : TypeId) : Option TypeId := ob (P.underlying t) sliceElem
def elemSize (P : Program) (t : TypeId) : Option Nat := ob (elemOfT P t) (sizeT P)

def nth {α : Type} (l : List α) : Nat → Option α :=
  List.rec (motive := fun _ => Nat → Option α) (fun _ => none) (fun a _ ih n => ite' (Nat.beq n 0) (some a) (ih (Nat.pred n))) l

def dropL {α : Type} (l : List α) (n : Nat) : List α :=
  List.rec (motive := fun _ => Nat → List α) (fun _ => []) (fun a r ih n => ite' (Nat.beq n 0) (a :: r) (ih (Nat.pred n))) l n

/-- The first n. -/
def takeN {α : Type} (l : List α) (n : Nat) : Option (List α) :=
  List.rec (motive := fun _ => Nat → Option (List α)) (fun n => ite' (Nat.beq n 0) (some []) none)
    (fun a _ ih n => ite' (Nat.beq n 0) (some []) (om (ih (Nat.pred n)) (a :: ·))) l n

/-- The first cells of cs are vs. -/
def overL {α : Type} (vs : List α) : List α → Option (List α) :=
  List.rec (motive := fun _ => List α → Option (List α)) (fun cs => some cs)
    (fun v _ ih cs => List.rec (motive := fun _ => Option (List α)) none (fun _ r _ => om (ih r) (v :: ·)) cs) vs

def setL {α : Type} (vs : List α) (cs : List α) (off : Nat) : Option (List α) :=
  List.rec (motive := fun _ => Nat → Option (List α)) (fun n => ite' (Nat.beq n 0) (overL vs []) none)
    (fun c r ih n => ite' (Nat.beq n 0) (overL vs (c :: r)) (om (ih (Nat.pred n)) (c :: ·))) cs off

def rowOf : Blk → Option (List Value)
  | .row cs _ _ => some cs
  | _ => none

/-- The row at an address. -/
def rowAt (h : Hp) (a : Addr) : Option (List Value) := ob (h.look a.block) rowOf

/-- Cells from an address on. -/
def rd (h : Hp) (a : Addr) (n : Nat) : Option (List Value) := ob (rowAt h a) fun cs => takeN (dropL cs a.off) n

def rd1 (h : Hp) (a : Addr) : Option Value := ob (rowAt h a) fun cs => nth cs a.off

def wrBlk (h : Hp) (id off : Nat) (vs : List Value) : Blk → Option Hp
  | .row cs e o => om (setL vs cs off) fun cs => h.put id (some (.row cs e o))
  | _ => none

def wr (h : Hp) (a : Addr) (vs : List Value) : Option Hp := ob (h.look a.block) (wrBlk h a.block a.off vs)

def ptr (id off : Nat) : Value := .pointer (some ⟨id, off, none⟩)

def intOf? (v : Value) : Option (IntKind × Int) :=
  Value.rec (motive_1 := fun _ => Option (IntKind × Int)) (motive_2 := fun _ => Unit) (motive_3 := fun _ => Unit) (fun _ => none) (fun k n => some (k, n)) (fun _ _ => none) (fun _ _ _ => none)
    (fun _ => none) (fun _ => none) (fun _ _ _ => none) (fun _ => none) (fun _ => none) (fun _ _ _ _ _ => none) none (fun _ _ _ => none) none (fun _ _ => none) (fun _ _ => none)
    (fun _ _ => ()) () (fun _ _ _ _ => ()) v
def natI (_ : IntKind) (n : Int) : Option Nat := Int.rec (motive := fun _ => Option Nat) (fun n => some n) (fun _ => none) n
def natOf? (v : Value) : Option Nat :=
  Value.rec (motive_1 := fun _ => Option Nat) (motive_2 := fun _ => Unit) (motive_3 := fun _ => Unit) (fun _ => none) natI (fun _ _ => none) (fun _ _ _ => none)
    (fun _ => none) (fun _ => none) (fun _ _ _ => none) (fun _ => none) (fun _ => none) (fun _ _ _ _ _ => none) none (fun _ _ _ => none) none (fun _ _ => none) (fun _ _ => none)
    (fun _ _ => ()) () (fun _ _ _ _ => ()) v
def addrOf? (v : Value) : Option Addr :=
  Value.rec (motive_1 := fun _ => Option Addr) (motive_2 := fun _ => Unit) (motive_3 := fun _ => Unit) (fun _ => none) (fun _ _ => none) (fun _ _ => none) (fun _ _ _ => none)
    (fun _ => none) (fun a => a) (fun _ _ _ => none) (fun _ => none) (fun _ => none) (fun _ _ _ _ _ => none) none (fun _ _ _ => none) none (fun _ _ => none) (fun _ _ => none)
    (fun _ _ => ()) () (fun _ _ _ _ => ()) v
def boolOf? (v : Value) : Option Bool :=
  Value.rec (motive_1 := fun _ => Option Bool) (motive_2 := fun _ => Unit) (motive_3 := fun _ => Unit) (fun b => some b) (fun _ _ => none) (fun _ _ => none) (fun _ _ _ => none)
    (fun _ => none) (fun _ => none) (fun _ _ _ => none) (fun _ => none) (fun _ => none) (fun _ _ _ _ _ => none) none (fun _ _ _ => none) none (fun _ _ => none) (fun _ _ => none)
    (fun _ _ => ()) () (fun _ _ _ _ => ()) v
def sliceOf? (v : Value) : Option (Option Addr × Nat × Nat) :=
  Value.rec (motive_1 := fun _ => Option (Option Addr × Nat × Nat)) (motive_2 := fun _ => Unit) (motive_3 := fun _ => Unit) (fun _ => none) (fun _ _ => none) (fun _ _ => none) (fun _ _ _ => none)
    (fun _ => none) (fun _ => none) (fun a n c => some (a, n, c)) (fun _ => none) (fun _ => none) (fun _ _ _ _ _ => none) none (fun _ _ _ => none) none (fun _ _ => none) (fun _ _ => none)
    (fun _ _ => ()) () (fun _ _ _ _ => ()) v
def cellsOf (v : Value) : List Value :=
  Value.rec (motive_1 := fun _ => List Value) (motive_2 := fun _ => Unit) (motive_3 := fun _ => Unit) (fun b => [.bool b]) (fun k n => [.int k n]) (fun k n => [.float k n]) (fun k a b => [.complex k a b])
    (fun s => [.string s]) (fun a => [.pointer a]) (fun a n c => [.slice a n c]) (fun r => [.map r]) (fun r => [.chan r]) (fun f a b _ _ => [.func f a b]) [.nilFunc] (fun t v _ => [.iface t v]) [.nilIface] (fun cs _ => cs.toList) (fun vs _ => [.tuple vs])
    (fun _ _ => ()) () (fun _ _ _ _ => ()) v
def isPlain (v : Value) : Bool :=
  Value.rec (motive_1 := fun _ => Bool) (motive_2 := fun _ => Unit) (motive_3 := fun _ => Unit) (fun _ => true) (fun _ _ => true) (fun _ _ => true) (fun _ _ _ => true)
    (fun _ => true) (fun _ => true) (fun _ _ _ => true) (fun _ => true) (fun _ => true) (fun _ _ _ _ _ => true) true (fun _ _ _ => true) true (fun _ _ => false) (fun _ _ => false)
    (fun _ _ => ()) () (fun _ _ _ _ => ()) v
def isStr (v : Value) : Bool :=
  Value.rec (motive_1 := fun _ => Bool) (motive_2 := fun _ => Unit) (motive_3 := fun _ => Unit) (fun _ => false) (fun _ _ => false) (fun _ _ => false) (fun _ _ _ => false)
    (fun _ => true) (fun _ => false) (fun _ _ _ => false) (fun _ => false) (fun _ => false) (fun _ _ _ _ _ => false) false (fun _ _ _ => false) false (fun _ _ => false) (fun _ _ => false)
    (fun _ _ => ()) () (fun _ _ _ _ => ()) v

def aggOf? : Value → Option (List Value)
  | .agg cs => some cs.toList
  | _ => none

def OR.of (h : Hp) (x : Option Value) : OR := Option.rec .fail (fun v => .val v h) x
def OR.ofVH (x : Option (Value × Hp)) : OR := Option.rec .fail (fun p => .val p.1 p.2) x
def OR.ofH (x : Option Hp) : OR := Option.rec .fail (fun h => .val undef h) x

def wf (s : Nat) (a : Addr) : Addr := ⟨a.block, Nat.add a.off s, none⟩

structure LB where
  l : Hp → Addr → Option Value
def ldAgg (n : Nat) (h : Hp) (a : Addr) : Option Value := om (rd h a n) fun l => .agg l.toArray
def lbNo : LB := ⟨fun _ _ => none⟩
def lb (P : Program) (t : TypeId) : LB := Option.rec (motive := fun _ => LB) lbNo (fun b => ite' b (Option.rec (motive := fun _ => LB) lbNo (fun n => ⟨ldAgg n⟩) (sizeT P t)) ⟨rd1⟩) (aggT P t)
def evLoad (P : Program) (h : Hp) (t : TypeId) (v : Value) : Option Value := ob (addrOf? v) ((lb P t).l h)

def evStore (P : Program) (h : Hp) (t : TypeId) (a v : Value) : Option Hp :=
  ob (addrOf? a) fun a => ob (sizeT P t) fun n =>
    ite' (Nat.beq (lenL (cellsOf v)) n) (ite' (allL isPlain (cellsOf v)) (wr h a (cellsOf v)) none) none

/-- The capacity as far as it is known. -/
def capKnown (c : Nat) : Nat := ite' (Nat.ble OPEN c) (Nat.sub c OPEN) c

def ixAt (P : Program) (i : Nat) (a : Addr) (len : Nat) (e : TypeId) : Option Value :=
  ite' (Nat.blt i len) (om (sizeT P e) fun s => .pointer (some (wf (Nat.mul i s) a))) none

def ixS (P : Program) (i : Nat) (e : TypeId) (x : Option Addr × Nat × Nat) : Option Value := ob x.1 fun a => ixAt P i a x.2.1 e
structure IxB where
  x : Nat → Value → Option Value
def ixNo : IxB := ⟨fun _ _ => none⟩
def ixArr (P : Program) (len : Nat) (e : TypeId) (i : Nat) (x : Value) : Option Value := ob (addrOf? x) fun a => ixAt P i a len e
def ixSl (P : Program) (e : TypeId) (i : Nat) (x : Value) : Option Value := ob (sliceOf? x) (ixS P i e)
def ixD (P : Program) (d : TypeDesc) : IxB :=
  TypeDesc.rec (motive := fun _ => IxB) ixNo ixNo (fun _ => ixNo) (fun _ => ixNo) (fun _ => ixNo) ixNo ixNo (fun _ => ixNo) (fun e => ⟨ixSl P e⟩) (fun n e => ⟨ixArr P n e⟩) (fun _ _ => ixNo) (fun _ _ => ixNo) (fun _ => ixNo) (fun _ _ _ => ixNo) (fun _ => ixNo) (fun _ => ixNo) (fun _ _ => ixNo) d
def ixB (P : Program) (t : TypeId) : IxB := Option.rec (motive := fun _ => IxB) ixNo (ixD P) (P.underlying t)

def evIndexAddr (P : Program) (t : TypeId) (x ix : Value) : Option Value := ob (natOf? ix) fun i => (ixB P t).x i x

def structOf : TypeDesc → Option (List Field)
  | .struct fs => some fs.toList
  | _ => none

/-- A field: its type, its offset. -/
def fieldOf (P : Program) (s : TypeId) (i : Nat) : Option Field := ob (P.underlying s) fun d => ob (structOf d) fun fs => nth fs i

structure FB where
  o : Option Nat
def fbF (P : Program) (f : Field) : FB := Option.rec (motive := fun _ => FB) ⟨none⟩ (fun n => ite' (Nat.beq n 0) ⟨none⟩ ⟨some f.offset⟩) (sizeT P f.type)
/-- The offset of a field that is not empty. -/
def fb (P : Program) (s : TypeId) (i : Nat) : FB := Option.rec (motive := fun _ => FB) ⟨none⟩ (fbF P) (fieldOf P s i)
def evFieldAddr (P : Program) (s : TypeId) (x : Value) (i : Nat) : Option Value := ob (fb P s i).o fun n => om (addrOf? x) fun a => .pointer (some (wf n a))

def partOf (P : Program) (t : TypeId) (cs : List Value) (off : Nat) : Option Value :=
  ob (aggT P t) fun b => ite' b (ob (sizeT P t) fun n => om (takeN (dropL cs off) n) fun l => .agg l.toArray) (nth cs off)

def evField (P : Program) (t : TypeId) (x : Value) (i : Nat) : Option Value :=
  ob (fieldOf P t i) fun f => ob (aggOf? x) fun cs => partOf P f.type cs f.offset

def arrOf : TypeDesc → Option (Nat × TypeId)
  | .array n e => some (n, e)
  | _ => none

def evIndexAgg (P : Program) (t : TypeId) (cs : List Value) (ix : Value) : Option Value :=
  ob (natOf? ix) fun i => ob (P.underlying t) fun d => ob (arrOf d) fun ne => ite' (Nat.blt i ne.1) (ob (sizeT P ne.2) fun s => partOf P ne.2 cs (Nat.mul i s)) none

def optNat (d : Nat) : Option Value → Option Nat
  | none => some d
  | some v => natOf? v

def lift (s : Nat) : Option Addr → Option Addr
  | none => none
  | some a => some (wf s a)

/-- x[l:h:m] of a slice of elements of s cells. -/
def sliceOf (h : Hp) (s : Nat) (a : Option Addr) (cap l hh : Nat) (mx : Option Value) : Option (Value × Hp) :=
  match mx with
  | some m => ob (natOf? m) fun m => ite' (Nat.ble l hh) (ite' (Nat.ble hh m) (ite' (Nat.ble m (capKnown cap)) (ite' (Nat.blt m OPEN)
      (some (.slice (ite' (Nat.beq m l) a (lift (Nat.mul l s) a)) (Nat.sub hh l) (Nat.sub m l), h)) none) none) none) none
  | none => ite' (Nat.ble l hh) (ite' (Nat.ble hh (capKnown cap))
      (ite' (Nat.ble OPEN cap)
        (ite' (Nat.beq l (capKnown cap))
          (om a fun _ => (.slice (some ⟨h.next, 0, none⟩) (Nat.sub hh l) OPEN, ⟨h.m, Nat.succ h.next, h.mw, h.hid⟩))
          (some (.slice (lift (Nat.mul l s) a) (Nat.sub hh l) (Nat.sub cap l), h)))
        (some (.slice (ite' (Nat.beq cap l) a (lift (Nat.mul l s) a)) (Nat.sub hh l) (Nat.sub cap l), h)))
      none) none

def evSliceD (P : Program) (h : Hp) (lo hi mx : Option Value) : TypeDesc → Value → Option (Value × Hp)
  | .slice e, .slice a len cap => ob (sizeT P e) fun s => ob (optNat 0 lo) fun l => ob (optNat len hi) fun hh => sliceOf h s a cap l hh mx
  | .array n e, .pointer (some a) => ob (sizeT P e) fun s => ob (optNat 0 lo) fun l => ob (optNat n hi) fun hh => ob (optNat n mx) fun m =>
    ite' (Nat.ble l hh) (ite' (Nat.ble hh m) (ite' (Nat.ble m n) (ite' (Nat.blt m OPEN)
      (some (.slice (some (ite' (Nat.beq m l) a (wf (Nat.mul l s) a))) (Nat.sub hh l) (Nat.sub m l), h)) none) none) none) none
  | _, _ => none

def okB (hi mx : Option Value) : Bool := Option.rec true (fun _ => Option.rec false (fun _ => true) hi) mx

def evSlice (P : Program) (h : Hp) (t : TypeId) (x : Value) (lo hi mx : Option Value) : Option (Value × Hp) :=
  ite' (okB hi mx) (ob (P.underlying t) fun d => evSliceD P h lo hi mx d x) none

def lenV : Value → Option Nat
  | .slice _ n _ => some n
  | .string s => some s.size
  | _ => none

def byteV (b : UInt8) : Value := .int .u8 b.toNat

def srcCells (h : Hp) (n : Nat) : Value → Option (List Value)
  | .slice (some a) _ _ => ite' (Nat.beq n 0) (some []) (rd h a n)
  | .slice none _ _ => some []
  | .string s => some (mapL byteV s.data.toList)
  | _ => none

def baseCells (h : Hp) (n : Nat) : Option Addr → Option (List Value)
  | none => ite' (Nat.beq n 0) (some []) none
  | some a => ite' (Nat.beq n 0) (some []) (rd h a n)

def grow (h : Hp) (e : TypeId) (cs : List Value) (need : Nat) : Value × Hp :=
  (.slice (some ⟨h.next, 0, none⟩) need (Nat.add OPEN need), h.add (.row cs e true))

/-- A slice with an open end, which reaches the end of what is known of its row, grows: the old row is not to be looked at any more. -/
def growAt (h : Hp) (e : TypeId) (sz len cap need : Nat) (new : List Value) (a : Addr) : Blk → Option (Value × Hp)
  | .row cs e' true => ite' (Nat.beq e e') (ite' (Nat.beq (Nat.add a.off (Nat.mul (capKnown cap) sz)) (lenL cs))
      (om (takeN (dropL cs a.off) (Nat.mul len sz)) fun old => grow (h.put a.block none) e (appL old new) need) none) none
  | _ => none

/-- append: the elements' type e of sz cells; the slice; the new cells; the length that is needed. -/
def appendTo (h : Hp) (e : TypeId) (sz : Nat) (base : Option Addr) (len cap need : Nat) (new : List Value) : Option (Value × Hp) :=
  ite' (Nat.ble need (capKnown cap))
    (ite' (Nat.beq need len) (some (.slice base need cap, h))
      (ob base fun a => om (wr h (wf (Nat.mul len sz) a) new) fun h => (.slice base need cap, h)))
    (ite' (Nat.ble OPEN cap) (ob base fun a => ob (h.look a.block) (growAt h e sz len cap need new a))
      (om (baseCells h (Nat.mul len sz) base) fun old => grow h e (appL old new) need))

def appendV (h : Hp) (e : TypeId) (sz : Nat) (x : Value) : Value → Option (Value × Hp)
  | .slice base len cap =>
    ob (lenV x) fun n => ite' (Nat.ble (Nat.add len n) 1048576)
      (ob (srcCells h (Nat.mul n sz) x) fun new => ite' (Nat.beq (lenL new) (Nat.mul n sz)) (ite' (allL isPlain new) (appendTo h e sz base len cap (Nat.add len n) new) none) none) none
  | _ => none

def notInt : TypeDesc → Bool
  | .int _ => false
  | _ => true

/-- The elements of a slice's type: type, cells. -/
structure ElB where
  e : Option (TypeId × Nat)
def elB (P : Program) (t : TypeId) : ElB :=
  Option.rec (motive := fun _ => ElB) ⟨none⟩ (fun r => ⟨some r⟩) (ob (elemOfT P t) fun e => ob (sizeT P e) fun sz => ob (bytesT P e) fun b => ob (zeroCellsOf P e) fun _ =>
    ite' (Nat.beq sz 0) none (ite' (Nat.ble b 1048576) (some (e, sz)) none))

def evAppend (P : Program) (h : Hp) (argTypes : List TypeId) (s x : Value) : Option (Value × Hp) :=
  ob (nth argTypes 0) fun t => ob (elB P t).e fun r =>
    ob (nth argTypes 1) fun u => ob (P.underlying u) fun d => ite' (notInt d) (appendV h r.1 r.2 x s) none

def rep {α : Type} (l : List α) : Nat → List α :=
  Nat.rec (motive := fun _ => List α) [] (fun _ ih => appL l ih)

def evMakeSlice (P : Program) (h : Hp) (t : TypeId) (len cap : Value) : Option (Value × Hp) :=
  ob (elemOfT P t) fun e => ob (natOf? len) fun l => ob (natOf? cap) fun c => ob (sizeT P e) fun s => ob (zeroCellsOf P e) fun z => ob (bytesT P e) fun b =>
    ite' (Nat.ble l c) (ite' (Nat.ble (Nat.mul c s) 1048576) (ite' (Nat.ble (Nat.mul b c) 1099511627776) (ite' (Nat.beq s 0) none
      (some (.slice (some ⟨h.next, 0, none⟩) l c, h.add (.row (rep z c) e false)))) none) none) none

/-- Parts laid over cells. -/
def fillL (place : Nat → Option (Nat × Nat)) (parts : List (Nat × Value)) : List Value → Option (List Value) :=
  List.rec (motive := fun _ => List Value → Option (List Value)) (fun cs => some cs)
    (fun p _ ih cs => ob (place p.1) fun os => ite' (Nat.beq (lenL (cellsOf p.2)) os.2) (ob (setL (cellsOf p.2) cs os.1) ih) none) parts

/-- The places of a struct's fields. -/
def placesL (P : Program) (fs : List Field) : Option (List (Nat × Nat)) :=
  List.rec (some []) (fun f _ ih => ob (sizeT P f.type) fun n => om ih fun r => (f.offset, n) :: r) fs

def structPlaces (P : Program) (d : TypeDesc) : Option (List (Nat × Nat)) := ob (structOf d) (placesL P)
def arrPlace (s : Nat) (i : Nat) : Option (Nat × Nat) := some (Nat.mul i s, s)
structure PlB where
  p : Option (Nat → Option (Nat × Nat))
/-- Where the parts of a literal of a type go. -/
def plB (P : Program) (d : TypeDesc) : PlB :=
  Option.rec (motive := fun _ => PlB) (Option.rec (motive := fun _ => PlB) ⟨none⟩ (fun s => ⟨some (arrPlace s)⟩) (ob (arrOf d) fun ne => sizeT P ne.2)) (fun l => ⟨some (nth l)⟩) (structPlaces P d)

def evBuild (P : Program) (t : TypeId) (parts : List (Nat × Value)) : Option Value :=
  ob (zeroCellsOf P t) fun z => ob (P.underlying t) fun d => ob (plB P d).p fun place => om (fillL place parts z) fun l => .agg l.toArray

def evBuildSlice (P : Program) (h : Hp) (t : TypeId) (len : Nat) (parts : List (Nat × Value)) : Option (Value × Hp) :=
  ob (elemOfT P t) fun e => ob (sizeT P e) fun s => ob (zeroCellsOf P e) fun z =>
    ite' (Nat.beq s 0) none (ite' (Nat.ble (Nat.mul len s) 1048576)
      (om (fillL (arrPlace s) parts (rep z len)) fun cells =>
        (.slice (some ⟨h.next, 0, none⟩) len len, h.add (.row cells e false))) none)

def isNone {α : Type} : Option α → Bool
  | none => true
  | _ => false

def nilEq : TypeDesc → Value → Value → Option Bool
  | .slice _, .slice none _ _, .slice b _ _ => some (isNone b)
  | .slice _, .slice b _ _, .slice none _ _ => some (isNone b)
  | .map _ _, .map none, .map b => some (isNone b)
  | .map _ _, .map b, .map none => some (isNone b)
  | .func _ _ _, .nilFunc, .func _ _ _ => some false
  | .func _ _ _, .func _ _ _, .nilFunc => some false
  | .interface _, .nilIface, .iface _ _ => some false
  | .interface _, .iface _ _, .nilIface => some false
  | .pointer _, .pointer none, .pointer b => some (isNone b)
  | .pointer _, .pointer b, .pointer none => some (isNone b)
  | _, _, _ => none

def orElse {α : Type} (x : Option α) (y : Option α) : Option α := Option.rec y (fun v => some v) x
def isUnit : Option Unit → Bool := Option.rec false (fun _ => true)

/-- The key equals the entry's. -/
def eqK (P : Program) (kt : TypeId) (kd : TypeDesc) (k key : Value) : Option Bool := orElse (Instr.sameNow kd k key) (pureRun P (Op.equal kt k key))

def findK (P : Program) (kt : TypeId) (kd : TypeDesc) (k : Value) : List MapEntry → Nat → Option (Option (Nat × Value))
  | [], _ => some none
  | e :: es, i => ite' (closedA e.key) (ob (eqK P kt kd k e.key) fun b => ite' b (some (some (i, e.val))) (findK P kt kd k es (i + 1))) none

/-- A key that may stand in a map. -/
def keyOk (P : Program) (kt : TypeId) (empty : Bool) (k : Value) : TypeDesc → Bool
  | .int _ => true
  | .string => true
  | .bool => true
  | _ => isUnit (pureRun P (Instr.checkKey empty 10000 kt k))

def mapOf : Blk → Option (List MapEntry × Nat)
  | .map es c => some (es, c)
  | _ => none

def mapAt (h : Hp) : Value → Option (List MapEntry)
  | .map none => some []
  | .map (some r) => om (ob (h.look r) mapOf) (·.1)
  | _ => none

def mapTypes : TypeDesc → Option (TypeId × TypeId)
  | .map k e => some (k, e)
  | _ => none

def isNil {α : Type} (l : List α) : Bool := List.rec true (fun _ _ _ => false) l

def withOk (ok : Bool) (v : Value) (b : Bool) : Value := ite' ok (.tuple #[v, .bool b]) v

def found (P : Program) (e : TypeId) (ok : Bool) : Option (Nat × Value) → Option Value
  | some p => some (withOk ok p.2 true)
  | none => om (zeroV P e) fun z => withOk ok z false

def evLookup (P : Program) (h : Hp) (t : TypeId) (x k : Value) (ok : Bool) : Option Value :=
  ob (P.underlying t) fun d => ob (mapTypes d) fun ke => ob (mapAt h x) fun es => ob (P.underlying ke.1) fun kd =>
    ite' (closedA k) (ite' (keyOk P ke.1 (isNil es) k kd) (ob (findK P ke.1 kd k es 0) fun r => found P ke.2 ok r) none) none

def modL (k v : Value) (i : Nat) : List MapEntry → List MapEntry
  | [] => []
  | e :: es => ite' (Nat.beq i 0) ({ e with key := k, val := v } :: es) (e :: modL k v (Nat.pred i) es)

def updMap (h : Hp) (r : Nat) (k v : Value) (es : List MapEntry) (c : Nat) : Option (Nat × Value) → Option Hp
  | some p => ob (nth es p.1) fun e => ite' (Instr.sameBits 10000 e.key k) (some (h.put r (some (.map (modL k v p.1 es) c)))) none
  | none => some (h.put r (some (.map (appL es [{ key := k, val := v, born := c }]) (Nat.succ c))))

def mapNo : Value → Option Nat
  | .map (some r) => some r
  | _ => none

def evMapUpdate (P : Program) (h : Hp) (t : TypeId) (m k v : Value) : Option Hp :=
  ob (P.underlying t) fun d => ob (mapTypes d) fun ke => ob (P.underlying ke.1) fun kd => ob (mapNo m) fun r => ob (h.look r) fun b => ob (mapOf b) fun ec =>
    ite' (closedA k) (ite' (keyOk P ke.1 false k kd) (ob (findK P ke.1 kd k ec.1 0) fun x => updMap h r k v ec.1 ec.2 x) none) none

def iterAdd (h : Hp) (b : Blk) : Value × Hp := (ptr h.next 0, h.add b)

def evRangeD (h : Hp) : TypeDesc → Value → Option (Value × Hp)
  | .map _ _, .map none => some (iterAdd h (.iter none 0 [] 0))
  | .map _ _, .map (some m) => om (ob (h.look m) mapOf) fun ec => iterAdd h (.iter (some m) ec.2 [] ec.2)
  | _, _ => none

def evRange (P : Program) (h : Hp) (t : TypeId) (x : Value) : Option (Value × Hp) := ob (P.underlying t) fun d => evRangeD h d x

def over : Value := .tuple #[.bool false]

/-- The next entry: none left, or one alone. -/
def nextOf (h : Hp) (r m since : Nat) (seen : List Nat) (c : Nat) : List MapEntry → Option (Value × Hp)
  | [] => some (over, h)
  | [e] => ite' (Nat.blt e.born since) (some (.tuple #[.bool true, e.key, e.val], h.put r (some (.iter (some m) since (appL seen [e.born]) c)))) none
  | _ => none

/-- An entry of the last step is left. -/
def stepsOn (seen : List Nat) (st : Nat) (es : List MapEntry) : Bool := isNil seen || isNil es || es.any fun e => Nat.blt e.born st

def nextIt (h : Hp) (r : Nat) : Blk → Option (Value × Hp)
  | .iter none _ _ _ => some (over, h)
  | .iter (some m) since seen st => ob (ob (h.look m) mapOf) fun ec =>
    ite' (Nat.beq ec.2 st) (ite' (stepsOn seen st ec.1) (nextOf h r m since seen ec.2 (ec.1.filter fun e => !(seen.contains e.born))) none) none
  | _ => none

def iterNo : Value → Option Nat
  | .pointer (some ⟨r, 0, none⟩) => some r
  | _ => none

def evNext (h : Hp) (x : Value) : Option (Value × Hp) := ob (iterNo x) fun r => ob (h.look r) fun b => nextIt h r b

def entryOf (h : Hp) : Blk → Option Value
  | .iter (some m) _ seen st => ob (seen.getLast?) fun s => ob (ob (h.look m) mapOf) fun ec =>
    ite' (Nat.beq ec.2 st) (om (ec.1.find? fun e => Nat.beq e.born s) fun e => .tuple #[e.key, e.val]) none
  | _ => none

def evEntry (h : Hp) (x : Value) : Option Value := ob (iterNo x) fun r => ob (h.look r) fun b => entryOf h b

def bytesOf : List Value → Option (List UInt8)
  | [] => some []
  | .int .u8 n :: r => om (bytesOf r) (UInt8.ofNat n.toNat :: ·)
  | _ => none

def runsF (fn : Func) : Bool := Option.rec false (fun _ => true) fn.body
/-- No function of the program is the one that is run apart. -/
class NG (P : Program) : Prop where
  ng : ∀ (g : Nat) (fn : Func), P.funcs[g]? = some fn → (fn.name == "runtime.NumGoroutine") = false
def ngB (l : List Func) : Bool := allL (fun fn => not (fn.name == "runtime.NumGoroutine")) l
/-- From this number on: a call of yield. -/
def YB : Nat := 1000000000000
def bodyOf (P : Program) (f : FuncId) : Bool := ite' (Nat.blt f YB) (Option.rec false runsF P.funcs[f]?) false

def argsOf (f : Fr) (l : Array Operand) : List Value := mapL f.eval l.toList

/-- A loop's yield stands as '.chan (some l)'. -/
def enterV (P : Program) (h : Hp) (args : List Value) : Value → OR
  | .chan (some l) => .round l args h
  | .func (.func g) first captured => ite' (bodyOf P g) (.enter g (appL first.toList (appL args captured.toList)) h) .fail
  | _ => .fail

def intV (n : Nat) : Value := .int .i64 (.ofNat n)

def lenSl (x : Option Addr × Nat × Nat) : Value := intV x.2.1
def lenRest (h : Hp) : TypeDesc → Value → Option Value
  | .map _ _, .map none => some (intV 0)
  | .map _ _, .map (some r) => om (ob (h.look r) mapOf) fun ec => intV ec.1.length
  | .array n _, _ => some (intV n)
  | .string, .string s => some (intV s.size)
  | _, _ => none
def isSliceD (d : TypeDesc) : Bool :=
  TypeDesc.rec (motive := fun _ => Bool) false false (fun _ => false) (fun _ => false) (fun _ => false) false false (fun _ => false) (fun _ => true) (fun _ _ => false) (fun _ _ => false) (fun _ _ => false) (fun _ => false) (fun _ _ _ => false) (fun _ => false) (fun _ => false) (fun _ _ => false) d
def evLenD (h : Hp) (d : TypeDesc) (v : Value) : Option Value := ite' (isSliceD d) (om (sliceOf? v) lenSl) (lenRest h d v)

def evClearD (P : Program) (h : Hp) : TypeDesc → Value → Option Hp
  | .slice e, .slice b n _ => ite' (Nat.beq n 0) (some h) (ob b fun a => ob (zeroCellsOf P e) fun z => wr h a (rep z n))
  | _, _ => none

def valueOf : Next → Option Value
  | .value v => some v
  | _ => none

def isConstO : Operand → Bool
  | .const _ => true
  | _ => false

/-- A builtin on values without addresses. -/
def evBuiltin (P : Program) (b : Builtin) (c : Call) (ty : TypeId) (args : List Value) : Option Value :=
  ite' (closedL args) (ob (ob (pureRun P (builtin b c.argTypes ty (c.args.map fun | .const _ => true | _ => false) args.toArray)) valueOf) fun v => ite' (closedA v) (some v) none) none

abbrev BK := Program → Hp → Fr → Call → TypeId → OR
def bNo : BK := fun _ _ _ _ _ => .fail
def bLen : BK := fun P h f c _ => .of h (ob (nth c.argTypes.toList 0) fun t => ob (P.underlying t) fun d => ob (nth c.args.toList 0) fun x => evLenD h d (f.eval x))
def bAppend : BK := fun P h f c _ => .ofVH (ite' (Nat.beq (lenL c.args.toList) 2) (ob (nth c.args.toList 0) fun s => ob (nth c.args.toList 1) fun x => evAppend P h c.argTypes.toList (f.eval s) (f.eval x)) none)
def bClear : BK := fun P h f c _ => .ofH (ob (nth c.argTypes.toList 0) fun t => ob (P.underlying t) fun d => ob (nth c.args.toList 0) fun x => evClearD P h d (f.eval x))
def bMin : BK := fun P h f c ty => .of h (evBuiltin P .min c ty (argsOf f c.args))
def bMax : BK := fun P h f c ty => .of h (evBuiltin P .max c ty (argsOf f c.args))
structure BB where
  k : BK
def bb (b : Builtin) : BB :=
  Builtin.rec (motive := fun _ => BB) ⟨bAppend⟩ ⟨bNo⟩ ⟨bClear⟩ ⟨bNo⟩ ⟨bNo⟩ ⟨bNo⟩ ⟨bNo⟩ ⟨bNo⟩ ⟨bLen⟩ ⟨bNo⟩ ⟨bMax⟩ ⟨bMin⟩ ⟨bNo⟩ ⟨bNo⟩ ⟨bNo⟩ ⟨bNo⟩ ⟨bNo⟩ ⟨bNo⟩ ⟨bNo⟩ ⟨bNo⟩ ⟨bNo⟩ ⟨bNo⟩ ⟨bNo⟩ ⟨bNo⟩ ⟨bNo⟩ ⟨bNo⟩ b
def evB (P : Program) (h : Hp) (f : Fr) (c : Call) (ty : TypeId) (b : Builtin) : OR := (bb b).k P h f c ty

structure CeB where
  k : Program → Hp → Fr → Call → TypeId → OR
def ceB (k : Callee) : CeB := Callee.rec (motive := fun _ => CeB) (fun x => ⟨fun P h f c _ => enterV P h (argsOf f c.args) (f.eval x)⟩) (fun _ _ => ⟨fun _ _ _ _ _ => .fail⟩) (fun b => ⟨fun P h f c ty => evB P h f c ty b⟩) k
def evCallee (P : Program) (h : Hp) (f : Fr) (c : Call) (ty : TypeId) (k : Callee) : OR := (ceB k).k P h f c ty

/-- Integers: the wrap, quick where nothing wraps. -/
def wrapN (k : IntKind) (n : Nat) : Int :=
  IntKind.rec (motive := fun _ => Int) (k.wrap (.ofNat n)) (k.wrap (.ofNat n)) (k.wrap (.ofNat n))
    (ite' (Nat.ble n 9223372036854775807) (.ofNat n) (k.wrap (.ofNat n)))
    (.ofNat (Nat.mod n 256)) (k.wrap (.ofNat n)) (.ofNat (Nat.mod n 4294967296)) (.ofNat (Nat.mod n 18446744073709551616)) k

def wrapI (k : IntKind) (n : Int) : Int := Int.rec (fun n => wrapN k n) (fun m => k.wrap (.negSucc m)) n

def bV (b : Bool) : Value := .bool b

abbrev IOp := IntKind → Int → Int → Option Value
def natsB (f : Nat → Nat → Bool) (g : Int → Int → Bool) (a b : Int) : Bool := Int.rec (fun a => Int.rec (fun b => f a b) (fun n => g (.ofNat a) (.negSucc n)) b) (fun m => g (.negSucc m) b) a
def iAdd : IOp := fun k a b => some (.int k (wrapI k (Int.add a b)))
def iSub : IOp := fun k a b => some (.int k (wrapI k (Int.sub a b)))
def iMul : IOp := fun k a b => some (.int k (wrapI k (Int.mul a b)))
def iEql : IOp := fun _ a b => some (bV (natsB Nat.beq (fun a b => a == b) a b))
def iNeq : IOp := fun _ a b => some (bV (natsB (fun a b => not (Nat.beq a b)) (fun a b => a != b) a b))
def iLss : IOp := fun _ a b => some (bV (natsB Nat.blt (fun a b => decide (a < b)) a b))
def iLeq : IOp := fun _ a b => some (bV (natsB Nat.ble (fun a b => decide (a ≤ b)) a b))
def iGtr : IOp := fun _ a b => some (bV (natsB (fun a b => Nat.blt b a) (fun a b => decide (a > b)) a b))
def iGeq : IOp := fun _ a b => some (bV (natsB (fun a b => Nat.ble b a) (fun a b => decide (a ≥ b)) a b))
def iNo : IOp := fun _ _ _ => none

structure QB where
  q : IOp
def quickInt (op : BinOp) : QB :=
  BinOp.rec (motive := fun _ => QB) ⟨iAdd⟩ ⟨iSub⟩ ⟨iMul⟩ ⟨iNo⟩ ⟨iNo⟩ ⟨iNo⟩ ⟨iNo⟩ ⟨iNo⟩ ⟨iNo⟩ ⟨iNo⟩ ⟨iNo⟩ ⟨iEql⟩ ⟨iNeq⟩ ⟨iLss⟩ ⟨iLeq⟩ ⟨iGtr⟩ ⟨iGeq⟩ op

def kindNo (k : IntKind) : Nat := IntKind.rec (motive := fun _ => Nat) 0 1 2 3 4 5 6 7 k
def sameKind (j k : IntKind) : Bool := Nat.beq (kindNo j) (kindNo k)


def quick (op : BinOp) (x y : Value) : Option Value :=
  ob (intOf? x) fun a => ob (intOf? y) fun b => ite' (sameKind a.1 b.1) ((quickInt op).q a.1 a.2 b.2) none

def slowBin (P : Program) (f : Fr) (op : BinOp) (t : TypeId) (x y : Operand) : Option Value :=
  ite' (closedA (f.eval x)) (ite' (closedA (f.eval y))
    (ob ((pureRun P (do eqGuard op t x y (f.eval x) (f.eval y); binOp op t (f.eval x) (f.eval y)))) fun v => ite' (closed v) (some v) none) none) none

def notV : Value → Value
  | .bool b => .bool (not b)
  | v => v

def nilBin (P : Program) (op : BinOp) (t : TypeId) (x y : Value) : Option Value :=
  BinOp.rec (motive := fun _ => Option Value) none none none none none none none none none none none
    (ob (P.underlying t) fun d => om (nilEq d x y) bV) (ob (P.underlying t) fun d => om (nilEq d x y) fun b => bV (not b)) none none none none op

def evBin (P : Program) (f : Fr) (op : BinOp) (t : TypeId) (x y : Operand) : Option Value :=
  orElse (quick op (f.eval x) (f.eval y)) (orElse (slowBin P f op t x y) (nilBin P op t (f.eval x) (f.eval y)))

def closedRun (P : Program) (f : Fr) (o : Oper) : Option Value :=
  ite' (allL closed (argsOf f o.op.operands)) (ob (ob (pureRun P (execOp f.eval o)) valueOf) fun v => ite' (closed v) (some v) none) none

def isU8 : TypeDesc → Bool
  | .int .u8 => true
  | _ => false

def evConvD (P : Program) (h : Hp) : TypeDesc → TypeDesc → Value → Option Value
  | .slice e, .string, .slice a n _ => ob (P.underlying e) fun ed => ite' (isU8 ed) (ob (baseCells h n a) fun l => om (bytesOf l) fun bs => .string ⟨bs.toArray⟩) none
  | _, _, _ => none

abbrev ItK := IntKind × Int → Option Value
def itNo : ItK := fun _ => none
def itInt (k : IntKind) : ItK := fun x => some (.int k (wrapI k x.2))
def intTo (d : TypeDesc) (v : Value) : Option Value :=
  ob (intOf? v) (TypeDesc.rec (motive := fun _ => ItK) itNo itNo itInt (fun _ => itNo) (fun _ => itNo) itNo itNo (fun _ => itNo) (fun _ => itNo) (fun _ _ => itNo) (fun _ _ => itNo) (fun _ _ => itNo) (fun _ => itNo) (fun _ _ _ => itNo) (fun _ => itNo) (fun _ => itNo) (fun _ _ => itNo) d)

def evConv (P : Program) (h : Hp) (s d : TypeId) (x : Value) : Option Value :=
  ob (P.underlying d) fun dd => ob (P.underlying s) fun sd => orElse (intTo dd x) (evConvD P h sd dd x)

def ifaceOk : TypeDesc → Bool
  | .interface _ => false
  | _ => true

def assertV (P : Program) (t : TypeId) (ok : Bool) : Value → Option Value
  | .iface u v => ite' (Nat.beq u t) (some (withOk ok v true)) (ite' ok (om (zeroV P t) fun z => .tuple #[z, .bool false]) none)
  | .nilIface => ite' ok (om (zeroV P t) fun z => .tuple #[z, .bool false]) none
  | _ => none

def tupleOf? : Value → Option (List Value)
  | .tuple vs => some vs.toList
  | _ => none

def pickV (t a b : Value) : Option Value := ob (boolOf? t) fun c => some (ite' c a b)

def nilChk : Value → Option Value
  | .pointer (some a) => some (.pointer (some a))
  | .func (.func g) a b => some (.func (.func g) a b)
  | _ => none

def panV (h : Hp) : Value → OR
  | .iface t v => .pan (.iface t v) h
  | _ => .fail

def deferV (h : Hp) (args : List Value) : Value → OR
  | .func (.func g) first captured => .defer { target := .fn (.func g) captured, args := (appL first.toList args).toArray } h
  | _ => .fail

def makeFn (a b : List Value) : Fn → Option Value
  | .func g => some (.func (.func g) a.toArray b.toArray)
  | _ => none

def isMapD : TypeDesc → Bool
  | .map _ _ => true
  | _ => false

def evMakeMap (P : Program) (h : Hp) (t : TypeId) : Option Value → Option (Value × Hp)
  | none => some (.map (some h.next), h.add (.map [] 0))
  | some v => ob (P.underlying t) fun d => ite' (isMapD d) (om (intOf? v) fun _ => (.map (some h.next), h.add (.map [] 0))) none

abbrev K := Program → Hp → Fr → Oper → OR
def kNo : K := fun _ _ _ _ => .fail
def kMove (x : Operand) : K := fun _ h f _ => VB.rec (motive := fun _ => OR) (fun v => .val v h) ((eb x).e f.tm)
def kPick (c a b : Operand) : K := fun _ h f _ => .of h (pickV (f.eval c) (f.eval a) (f.eval b))
def kAlloc (e : TypeId) : K := fun P h _ _ => .ofVH (om (zeroCellsOf P e) fun z => (ptr h.next 0, h.add (.row z e false)))
def kBox (e : TypeId) (x : Operand) : K := fun _ h f _ => .val (ptr h.next 0) (h.add (.row (cellsOf (f.eval x)) e false))
def kBuild (t : TypeId) (ps : Array (Nat × Operand)) : K := fun P h f _ => .of h (evBuild P t (mapL (fun p => (p.1, f.eval p.2)) ps.toList))
def kBuildSlice (t : TypeId) (n : Nat) (ps : Array (Nat × Operand)) : K := fun P h f _ => .ofVH (evBuildSlice P h t n (mapL (fun p => (p.1, f.eval p.2)) ps.toList))
def kUpdate (t : TypeId) (m k v : Operand) : K := fun P h f _ => .ofH (evMapUpdate P h t (f.eval m) (f.eval k) (f.eval v))
def kLoad (t : TypeId) (a : Operand) : K := fun P h f _ => .of h (evLoad P h t (f.eval a))
def kStore (t : TypeId) (a v : Operand) : K := fun P h f _ => .ofH (evStore P h t (f.eval a) (f.eval v))
def kNilCheck (x : Operand) : K := fun _ h f _ => .of h (nilChk (f.eval x))
def kBin (op : BinOp) (t : TypeId) (x y : Operand) (_u : TypeId) : K := fun P h f _ => .of h (evBin P f op t x y)
def kUn (_op : UnOp) (_t : TypeId) (_x : Operand) : K := fun P h f o => .of h (closedRun P f o)
def kConv (s d : TypeId) (x : Operand) : K := fun P h f _ => .of h (evConv P h s d (f.eval x))
def kIface (t : TypeId) (x : Operand) : K := fun P h f _ => .of h (ob (P.underlying t) fun d => ite' (ifaceOk d) (some (.iface t (f.eval x))) none)
def kFunc (fn : Fn) (a b : Array Operand) : K := fun _ h f _ => .of h (makeFn (argsOf f a) (argsOf f b) fn)
def kMakeMap (t : TypeId) (r : Option Operand) : K := fun P h f _ => .ofVH (evMakeMap P h t (om r f.eval))
def kMakeSlice (t : TypeId) (l c : Operand) : K := fun P h f _ => .ofVH (evMakeSlice P h t (f.eval l) (f.eval c))
def kSlice (t : TypeId) (x : Operand) (lo hi mx : Option Operand) : K := fun P h f o =>
  ite' (isStr (f.eval x)) (.of h (closedRun P f o)) (.ofVH (evSlice P h t (f.eval x) (om lo f.eval) (om hi f.eval) (om mx f.eval)))
def kFieldAddr (s : TypeId) (x : Operand) (i : Nat) : K := fun P h f _ => .of h (evFieldAddr P s (f.eval x) i)
def kField (t : TypeId) (x : Operand) (i : Nat) : K := fun P h f _ => .of h (evField P t (f.eval x) i)
def kIndexAddr (t : TypeId) (x i : Operand) : K := fun P h f _ => .of h (evIndexAddr P t (f.eval x) (f.eval i))
def kIndex (t : TypeId) (x i : Operand) : K := fun P h f o =>
  ite' (isStr (f.eval x)) (.of h (closedRun P f o)) (.of h (ob (aggOf? (f.eval x)) fun cs => evIndexAgg P t cs (f.eval i)))
def kLookup (t : TypeId) (x k : Operand) (ok : Bool) : K := fun P h f _ => .of h (evLookup P h t (f.eval x) (f.eval k) ok)
def kRange (t : TypeId) (x : Operand) : K := fun P h f _ => .ofVH (evRange P h t (f.eval x))
def kNext (x : Operand) (s : Bool) : K := fun _ h f _ => ite' s .fail (.ofVH (evNext h (f.eval x)))
def kEntry (x : Operand) : K := fun _ h f _ => .of h (evEntry h (f.eval x))
def kAssert (x : Operand) (_xt t : TypeId) (ok : Bool) : K := fun P h f _ => .of h (ob (P.underlying t) fun d => ite' (ifaceOk d) (assertV P t ok (f.eval x)) none)
def kExtract (x : Operand) (i : Nat) : K := fun _ h f _ => .of h (ob (tupleOf? (f.eval x)) fun vs => nth vs i)
def kCall (c : Call) : K := fun P h f o => evCallee P h f c o.type c.callee
def kDefer (c : Call) : K := fun _ h f _ => Callee.rec (motive := fun _ => OR) (fun x => deferV h (argsOf f c.args) (f.eval x)) (fun _ _ => .fail) (fun _ => .fail) c.callee
def kPanic (x : Operand) : K := fun _ h f _ => panV h (f.eval x)

structure KB where
  k : K
def kbNo : KB := ⟨kNo⟩
def evOpB (op : Op) : KB :=
  Op.rec (motive := fun _ => KB) (fun x => ⟨kMove x⟩) (fun x => ⟨kMove x⟩) (fun c a b => ⟨kPick c a b⟩) (fun e => ⟨kAlloc e⟩) (fun e x => ⟨kBox e x⟩) (fun t ps => ⟨kBuild t ps⟩) (fun t n ps => ⟨kBuildSlice t n ps⟩)
    (fun t m k v => ⟨kUpdate t m k v⟩) (fun t a => ⟨kLoad t a⟩) (fun t a v => ⟨kStore t a v⟩) (fun _ => kbNo) (fun _ => kbNo) (fun x => ⟨kNilCheck x⟩) (fun op t x y u => ⟨kBin op t x y u⟩) (fun op t x => ⟨kUn op t x⟩) (fun s d x => ⟨kConv s d x⟩)
    (fun _ _ => kbNo) (fun t x => ⟨kIface t x⟩) (fun f a b => ⟨kFunc f a b⟩) (fun t r => ⟨kMakeMap t r⟩) (fun _ _ => kbNo) (fun t l c => ⟨kMakeSlice t l c⟩) (fun t x l h m => ⟨kSlice t x l h m⟩) (fun s x i => ⟨kFieldAddr s x i⟩) (fun t x i => ⟨kField t x i⟩)
    (fun t x i => ⟨kIndexAddr t x i⟩) (fun t x i => ⟨kIndex t x i⟩) (fun t x k ok => ⟨kLookup t x k ok⟩) (fun t m k v => ⟨kUpdate t m k v⟩) (fun _ _ _ => kbNo) (fun _ _ _ _ => kbNo)
    (fun t x => ⟨kRange t x⟩) (fun x s => ⟨kNext x s⟩) (fun x => ⟨kEntry x⟩) (fun x xt t ok => ⟨kAssert x xt t ok⟩) (fun x i => ⟨kExtract x i⟩) (fun c => ⟨kCall c⟩) (fun _ => kbNo) (fun c => ⟨kDefer c⟩) (fun x => ⟨kPanic x⟩) (fun _ _ => kbNo) (fun _ _ _ => kbNo) (fun _ _ => kbNo) op
def okOpnd (x : Operand) : Bool := Operand.rec (motive := fun _ => Bool) (fun t => Nat.blt t 512) closedA (fun g => Nat.blt g 1000) (fun _ => true) x
def okOp (op : Op) : Bool := allL okOpnd op.operands.toList
def evOp (op : Op) : K := (ite' (okOp op) (evOpB op) kbNo).k

/-- How code ends. -/
inductive Ex where
  | normal
  | exit (id : Nat)
  | ret
  | panic (v : Value)

inductive Res where
  | ok (e : Ex) (f : Fr) (h : Hp)
  | fail

/-- What a call comes to. -/
inductive CRes where
  | ret (v : Value) (h : Hp)
  | pan (v : Value) (h : Hp)
  | fail

abbrev CallK := FuncId → List Value → Hp → CRes
abbrev CodeK := Code → Fr → Hp → Res

abbrev PT := Fr → Hp → Value → Res
structure PB where
  p : PT
def ptNone : PT := fun f h _ => .ok .normal f h
def ptU (t : Tmp) (u : VB → Tm → Tm) : PT := fun f h v => Fr.rec (motive := fun _ => Res) (fun tm sz df => ite' (Nat.ble (Nat.succ t) sz) (.ok .normal ⟨u ⟨v⟩ tm, sz, df⟩ h) .fail) f
/-- A value for an operation's temporary. -/
def pb (d : Option Tmp) : PB := Option.rec (motive := fun _ => PB) ⟨ptNone⟩ (fun t => GB.rec (motive := fun _ => PB) (fun _ u => ⟨ptU t u⟩) (gb t)) d
def putTm (f : Fr) (h : Hp) (d : Option Tmp) (v : Value) : Res := (pb d).p f h v

def isB (want b : Bool) : Bool := ite' want b (not b)
def isBoolV (want : Bool) (v : Value) : Bool := Option.rec false (isB want) (boolOf? v)

def dstOf (o : Oper) : Option Tmp := o.dst

structure WB where
  w : Fr → Bool
def wNone : Fr → Bool := fun _ => true
def wSome (d : Option Tmp) (want : Bool) : Fr → Bool := fun f => Option.rec false (fun t => ite' (Nat.blt t 512) (isBoolV want (getTm t f.tm)) false) d
def wb (ops : Array Oper) (g : Option (Nat × Bool)) : WB := Option.rec (motive := fun _ => WB) ⟨wNone⟩ (fun p => ⟨wSome (ob (nth ops.toList p.1) dstOf) p.2⟩) g
def wantedF (ops : Array Oper) (f : Fr) (g : Option (Nat × Bool)) : Bool := (wb ops g).w f

def acRet (v : Value) (h : Hp) (f : Fr) (d : Option Tmp) : Res := putTm f h d v
def acPan (v : Value) (h : Hp) (f : Fr) (_ : Option Tmp) : Res := .ok (.panic v) f h
def acFail (_ : Fr) (_ : Option Tmp) : Res := .fail
def afterCall (f : Fr) (d : Option Tmp) (r : CRes) : Res := CRes.rec (motive := fun _ => Fr → Option Tmp → Res) acRet acPan acFail r f d

abbrev AO := CallK → Fr → Option Tmp → Res
def aoRound (l : Nat) (args : List Value) (h : Hp) : AO := fun call f d => afterCall f d (call (Nat.add YB l) args h)
def aoVal (v : Value) (h : Hp) : AO := fun _ f d => putTm f h d v
def aoEnter (g : FuncId) (args : List Value) (h : Hp) : AO := fun call f d => afterCall f d (call g args h)
def aoDefer (x : Deferred) (h : Hp) : AO := fun _ f d => Fr.rec (motive := fun _ => Res) (fun tm sz df => putTm ⟨tm, sz, x :: df⟩ h d undef) f
def aoPan (v : Value) (h : Hp) : AO := fun _ f _ => .ok (.panic v) f h
def aoFail : AO := fun _ _ _ => .fail
def afterOp (call : CallK) (f : Fr) (d : Option Tmp) (r : OR) : Res := OR.rec (motive := fun _ => AO) aoVal aoEnter aoRound aoDefer aoPan aoFail r call f d

/-- One operation in a frame. -/
def evOne (P : Program) (call : CallK) (ops : Array Oper) (o : Oper) (f : Fr) (h : Hp) : Res :=
  ite' (wantedF ops f o.guard) (afterOp call f o.dst (evOp o.op P h f o)) (putTm f h o.dst undef)

abbrev EK := Fr → Hp → (Fr → Hp → Res) → Res
def eNormal : EK := fun f h k => k f h
def eExit (i : Nat) : EK := fun f h _ => .ok (.exit i) f h
def eRet : EK := fun f h _ => .ok .ret f h
def ePanic (v : Value) : EK := fun f h _ => .ok (.panic v) f h
abbrev RK := (Fr → Hp → Res) → Res
def rOk (e : Ex) (f : Fr) (h : Hp) : RK := fun k => Ex.rec (motive := fun _ => EK) eNormal eExit eRet ePanic e f h k
def rFail : RK := fun _ => .fail
def onNormal (r : Res) (k : Fr → Hp → Res) : Res := Res.rec (motive := fun _ => RK) rOk rFail r k

def evList (P : Program) (call : CallK) (ops : Array Oper) (l : List Oper) : Fr → Hp → Res :=
  List.rec (motive := fun _ => Fr → Hp → Res) (fun f h => .ok .normal f h) (fun o _ ih f h => onNormal (evOne P call ops o f h) ih) l

/-- Bits: what comes before an operation; bs: the bits of those before it. -/
def edgeBits (bs : List Nat) (e : Edge) (s : Nat) : Nat := ite' (Region.binds .any e) (Nat.lor (Nat.lor s (Nat.shiftLeft 1 e.on)) (Option.rec 0 (fun n => n) (nth bs e.on))) s
def predBits (bs : List Nat) (o : Oper) : Nat := List.rec 0 (fun e _ ih => edgeBits bs e ih) o.after.toList
def allBits (l : List Oper) : List Nat → List Nat :=
  List.rec (motive := fun _ => List Nat → List Nat) (fun bs => bs) (fun o _ ih bs => Nat.rec (motive := fun _ => List Nat) (ih (appL bs [0])) (fun n _ => ih (appL bs [Nat.succ n])) (predBits bs o)) l

/-- Which earlier operations are in no order with the i-th. -/
def incAt (bs : List Nat) (i : Nat) : List Nat := (List.range i).filter fun j => !((Option.rec 0 (fun n => n) (nth bs i) : Nat).testBit j)
def incs (ops : Array Oper) : List (List Nat) := (List.range ops.size).map (incAt (allBits ops.toList []))

/-- Bits: an operation's temporary, what it looks at. -/
def dstB (o : Oper) : Nat := Option.rec 0 (fun t => Nat.shiftLeft 1 t) o.dst
def tmpB (x : Operand) : Nat := Operand.rec (motive := fun _ => Nat) (fun t => Nat.shiftLeft 1 t) (fun _ => 0) (fun _ => 0) (fun _ => 0) x
def opndB (l : List Operand) : Nat := List.rec 0 (fun x _ ih => Nat.lor (tmpB x) ih) l
def guardB (ops : Array Oper) (g : Option (Nat × Bool)) : Nat := Option.rec 0 (fun p => Option.rec 0 dstB (nth ops.toList p.1)) g
def looksB (ops : Array Oper) (o : Oper) : Nat := Nat.lor (guardB ops o.guard) (opndB o.op.operands.toList)
def apartB (ops : Array Oper) (a b : Oper) : Bool :=
  ite' (Nat.beq (Nat.land (dstB a) (Nat.lor (looksB ops b) (dstB b))) 0) (Nat.beq (Nat.land (dstB b) (looksB ops a)) 0) false
def pairsOk (ops : Array Oper) (l : List Oper) : List (List Nat) → Bool :=
  List.rec (motive := fun _ => List (List Nat) → Bool) (fun _ => true)
    (fun o _ ih inc => ite' (allL (fun j => Option.rec false (fun p => apartB ops p o) (nth ops.toList j)) (List.rec [] (fun a _ _ => a) inc)) (ih (List.tail inc)) false) l

structure Rec where
  lo : Nat
  hi : Nat
  /-- nothing old is written -/
  pu : Bool
  /-- 0: reads nothing; 1: reads one block; 2: reads all -/
  kind : Nat
  blk : Nat

def blockOf : Value → Nat
  | .pointer (some a) => a.block
  | .slice (some a) _ _ => a.block
  | .map (some r) => r
  | _ => 0

/-- What an operation reads: 0 nothing, 1 one block, 2 everything. -/
abbrev KK := Fr → Nat × Nat
def k0 : KK := fun _ => (0, 0)
def k2 : KK := fun _ => (2, 0)
def k3 : KK := fun _ => (3, 0)
def k1 (x : Operand) : KK := fun f => (1, blockOf (f.eval x))
def kCallee (c : Call) : Callee → KK
  | .builtin .len => fun f => match c.args.toList with | [x] => (match f.eval x with | .map (some r) => (1, r) | .map none => (0, 0) | .slice .. => (0, 0) | .string _ => (0, 0) | _ => (2, 0)) | _ => (2, 0)
  | .builtin .min | .builtin .max => k0
  | _ => k2
def kCallOf (c : Call) : KK := kCallee c c.callee
def kindOf (f : Fr) (o : Op) : Nat × Nat :=
  Op.rec (motive := fun _ => KK) (fun _ => k0) (fun _ => k0) (fun _ _ _ => k0) (fun _ => k0) (fun _ _ => k0) (fun _ _ => k0) (fun _ _ _ => k0) (fun _ m _ _ => k1 m) (fun _ a => k1 a) (fun _ a _ => k1 a) (fun _ => k2) (fun _ => k2)
    (fun _ => k0) (fun _ _ _ _ _ => k0) (fun _ _ _ => k0) (fun _ _ _ => k2)
    (fun _ _ => k2) (fun _ _ => k0) (fun _ _ _ => k0) (fun _ _ => k0) (fun _ _ => k2) (fun _ _ _ => k0) (fun _ _ _ _ _ => k0) (fun _ _ _ => k0) (fun _ _ _ => k0) (fun _ _ _ => k0) (fun _ _ _ => k0) (fun _ m _ _ => k1 m) (fun _ m _ _ => k1 m) (fun _ _ _ => k2) (fun _ _ _ _ => k2)
    (fun _ _ => k2) (fun _ _ => k2) (fun _ => k2) (fun _ _ _ _ => k0) (fun _ _ => k0) kCallOf (fun _ => k3) (fun _ => k3) (fun _ => k3) (fun _ _ => k3) (fun _ _ _ => k3) (fun _ _ => k3) o f

def apartR (a b : Rec) : Bool := ite' (Nat.beq a.kind 1) (ite' (Nat.beq b.kind 1) (not (Nat.beq a.blk b.blk)) false) false

/-- a and b may come in either order. -/
def compat (a b : Rec) : Bool :=
  ite' (ite' a.pu true (ite' (Nat.beq b.kind 0) true (apartR a b)))
    (ite' b.pu true (ite' (Nat.beq a.kind 0) true (ite' (apartR a b) true (ite' (Nat.beq a.kind 1) (Nat.beq b.kind 4) false)))) false

def consO {α : Type} (x : Option α) (l : List α) : List α := Option.rec l (fun a => a :: l) x
def recsOf (recs : List Rec) (js : List Nat) : List Rec := List.rec [] (fun j _ ih => consO (nth recs j) ih) js

/-- The ranges of the given records, the last one on top. -/
def rangesOf (l : List Rec) : List (Nat × Nat) → List (Nat × Nat) :=
  List.rec (motive := fun _ => List (Nat × Nat) → List (Nat × Nat)) (fun acc => acc) (fun r _ ih acc => ih (ite' (Nat.beq r.lo r.hi) acc ((r.lo, r.hi) :: acc))) l

def headL (l : List (List Nat)) : List Nat := List.rec [] (fun a _ _ => a) l

/-- Behind one operation of a region whose order is open: the state goes on with the earlier hidden ranges and least write. -/
def drawNext (mine : List Rec) (lo mw0 : Nat) (hid0 : List (Nat × Nat)) (kd : Nat × Nat) (recs : List Rec) (k : List Rec → Fr → Hp → Res) (f' : Fr) (h' : Hp) : Res :=
  Hp.rec (motive := fun _ => Res) (fun m next mw _ =>
    ite' (allL (fun a => compat a ⟨lo, next, Nat.ble lo mw, kd.1, kd.2⟩) mine) (k (appL recs [⟨lo, next, Nat.ble lo mw, kd.1, kd.2⟩]) f' ⟨m, next, ite' (Nat.ble lo mw) mw0 (minN mw0 mw), hid0⟩) .fail) h'

def onlyNormal (r : Res) (k : Fr → Hp → Res) : Res :=
  Res.rec (fun e f h => Ex.rec (k f h) (fun _ => .fail) .fail (fun _ => .fail) e) .fail r

/-- The ranges that are hidden from an operation: everything, everything but one block, the given ones. -/
def hidFor (kd : Nat × Nat) (next : Nat) (hid : List (Nat × Nat)) : Option (List (Nat × Nat)) :=
  ite' (Nat.beq kd.1 0) (some [(0, next)])
    (ite' (Nat.beq kd.1 1) (ite' (hidden kd.2 hid) none (ite' (Nat.blt kd.2 next) (some [(Nat.succ kd.2, next), (0, kd.2)]) none)) (ite' (Nat.beq kd.1 2) (some hid) none))

/-- One number more is hidden. -/
def insR (b : Nat) (l : List (Nat × Nat)) : List (Nat × Nat) :=
  List.rec (motive := fun _ => List (Nat × Nat)) [(b, Nat.succ b)] (fun p r ih => ite' (Nat.ble p.2 b) ((b, Nat.succ b) :: p :: r) (ite' (Nat.ble p.1 b) (p :: r) (p :: ih))) l
/-- The single blocks that the given operations read are hidden. -/
def insAll (next : Nat) (mine : List Rec) (l : List (Nat × Nat)) : List (Nat × Nat) :=
  List.rec (motive := fun _ => List (Nat × Nat)) l (fun r _ ih => ite' (ite' (Nat.beq r.kind 1) (Nat.blt r.blk next) false) (insR r.blk ih) ih) mine
/-- Kind 4: what reads all but the single blocks that the given operations read. -/
def hidFor4 (kd : Nat × Nat) (mine : List Rec) (next : Nat) (hid : List (Nat × Nat)) : Option (List (Nat × Nat)) := ite' (Nat.beq kd.1 4) (some (insAll next mine hid)) (hidFor kd next hid)
def anyK1 (mine : List Rec) : Bool := List.rec (motive := fun _ => Bool) false (fun r _ ih => ite' (Nat.beq r.kind 1) true ih) mine
def selR (next : Nat) (kd : Nat × Nat) (r : Res) : Nat × Nat := Res.rec (motive := fun _ => Nat × Nat) (fun _ _ h => ite' (Nat.ble next h.mw) kd (4, 0)) kd r
def selK (P : Program) (call : CallK) (ops : Array Oper) (o : Oper) (mine : List Rec) (f : Fr) (m : T Blk) (next : Nat) (hid : List (Nat × Nat)) (kd : Nat × Nat) : Nat × Nat :=
  ite' (ite' (Nat.beq kd.1 2) (anyK1 mine) false) (selR next kd (Option.rec .fail (fun hid' => evOne P call ops o f ⟨m, next, BIG, hid'⟩) (hidFor kd next hid))) kd
def drawGo (P : Program) (call : CallK) (ops : Array Oper) (o : Oper) (mine : List Rec) (recs : List Rec) (f : Fr) (m : T Blk) (next mw : Nat) (hid : List (Nat × Nat)) (k : List Rec → Fr → Hp → Res) (kd : Nat × Nat) : Res :=
  Option.rec .fail (fun hid' => onlyNormal (evOne P call ops o f ⟨m, next, BIG, hid'⟩) (drawNext mine next mw hid kd recs k)) (hidFor4 kd mine next (rangesOf mine hid))
/-- One operation of a region whose order is open, and the rest (k). -/
def drawOne (P : Program) (call : CallK) (ops : Array Oper) (o : Oper) (mine : List Rec) (recs : List Rec) (f : Fr) (h : Hp) (k : List Rec → Fr → Hp → Res) : Res :=
  Hp.rec (motive := fun _ => Res) (fun m next mw hid => drawGo P call ops o mine recs f m next mw hid k (selK P call ops o mine f m next (rangesOf mine hid) (kindOf f o.op))) h

def evDraw (P : Program) (call : CallK) (ops : Array Oper) (l : List Oper) : List (List Nat) → List Rec → Fr → Hp → Res :=
  List.rec (motive := fun _ => List (List Nat) → List Rec → Fr → Hp → Res) (fun _ _ f h => .ok .normal f h)
    (fun o _ ih inc recs f h => drawOne P call ops o (recsOf recs (headL inc)) recs f h (ih (List.tail inc))) l

/-- Operations in no order with each other have temporaries of their own. -/
def tempsOk (ops : Array Oper) : Bool := pairsOk ops ops.toList (incs ops)

/-- What an operation waits for lies ahead of it. -/
def edgesOk (l : List Oper) : Nat → Bool :=
  List.rec (motive := fun _ => Nat → Bool) (fun _ => true) (fun o _ ih i => ite' (allL (fun e => ite' (Region.binds .any e) (Nat.blt e.on i) true) o.after.toList) (ih (Nat.succ i)) false) l
def drawOk (ops : Array Oper) : Bool := ite' (edgesOk ops.toList 0) (tempsOk ops) false

def cSkip : Program → CallK → CodeK → Fr → Hp → Res := fun _ _ _ f h => .ok .normal f h
def cNo : Program → CallK → CodeK → Fr → Hp → Res := fun _ _ _ _ _ => .fail
def cRegion (ops : Array Oper) (draw : Bool) : Program → CallK → CodeK → Fr → Hp → Res := fun P call _ f h =>
  ite' draw (ite' (drawOk ops) (evDraw P call ops ops.toList (incs ops) [] f h) .fail) (evList P call ops ops.toList f h)
def cSeq (a b : Code) : Program → CallK → CodeK → Fr → Hp → Res := fun _ _ code f h => onNormal (code a f h) (code b)
def condB (x y : Res) (t : Bool) : Res := ite' t x y
def condV (v : Value) (x y : Res) : Res := Option.rec .fail (condB x y) (boolOf? v)
def cCond (c : Operand) (a b : Code) : Program → CallK → CodeK → Fr → Hp → Res := fun _ _ code f h => condV (f.eval c) (code a f h) (code b f h)
def outOf (id : Nat) (r : Res) : Res :=
  Res.rec (fun e f h => Ex.rec (.ok .normal f h) (fun i => ite' (Nat.beq i id) (.ok .normal f h) (.ok (.exit i) f h)) (.ok .ret f h) (fun v => .ok (.panic v) f h) e) .fail r
def cBlock (id : Nat) (b : Code) : Program → CallK → CodeK → Fr → Hp → Res := fun _ _ code f h => outOf id (code b f h)
def cLoop (b : Code) : Program → CallK → CodeK → Fr → Hp → Res := fun _ _ code f h => onNormal (code b f h) (code (.loop b))
def cExit (id : Nat) : Program → CallK → CodeK → Fr → Hp → Res := fun _ _ _ f h => .ok (.exit id) f h
def cRet : Program → CallK → CodeK → Fr → Hp → Res := fun _ _ _ f h => .ok .ret f h

/-- No operation that a round treats in another way. -/
def calmOp (op : Op) : Bool := Op.rec (motive := fun _ => Bool) (fun _ => true) (fun _ => true) (fun _ _ _ => true) (fun _ => true) (fun _ _ => true) (fun _ _ => true) (fun _ _ _ => true) (fun _ _ _ _ => true) (fun _ _ => true) (fun _ _ _ => true) (fun _ => true) (fun _ => true)
    (fun _ => true) (fun _ _ _ _ _ => true) (fun _ _ _ => true) (fun _ _ _ => true)
    (fun _ _ => true) (fun _ _ => true) (fun _ _ _ => true) (fun _ _ => true) (fun _ _ => true) (fun _ _ _ => true) (fun _ _ _ _ _ => true) (fun _ _ _ => true) (fun _ _ _ => true) (fun _ _ _ => true) (fun _ _ _ => true) (fun _ _ _ _ => true) (fun _ _ _ _ => true) (fun _ _ _ => true) (fun _ _ _ _ => true)
    (fun _ _ => true) (fun _ _ => true) (fun _ => true) (fun _ _ _ _ => true) (fun _ _ => true) (fun _ => true) (fun _ => true) (fun _ => false) (fun _ => true) (fun _ _ => true) (fun _ _ _ => true) (fun _ _ => true) op
def calmOps (l : List Oper) : Bool := allL (fun o => calmOp o.op) l
def calm (c : Code) : Bool :=
  Code.rec (motive := fun _ => Bool) true (fun _ ops _ => calmOps ops.toList) (fun _ _ x y => ite' x y false) (fun _ _ _ x y => ite' x y false) (fun _ _ x => x) (fun _ x => x) (fun _ _ _ _ _ _ => false) (fun _ => true) (fun _ x => x) (fun _ => true) (fun _ => true) true (fun _ => true) c

def setBlk (h : Hp) (l : Nat) (k : Blk → Option Blk) : Option Hp := ob (h.look l) fun b => om (k b) fun b' => h.put l (some b')
def busyB : Blk → Option Blk
  | .loop .ready pend tm sz ps a b => some (.loop .busy pend tm sz ps a b)
  | _ => none
def endedB (pend : Option Code) : Blk → Option Blk
  | .loop _ _ tm sz ps a b => some (.loop (ite' (isNone pend) .ready .done) pend tm sz ps a b)
  | _ => none
def shutB : Blk → Option Blk
  | .defb true => some (.defb false)
  | _ => none
/-- A round's arguments into its temporaries. -/
def putPs (sz : Nat) : List Tmp → List Value → Tm → Option Tm
  | [], [], tm => some tm
  | p :: ps, v :: vs, tm => ite' (Nat.ble (Nat.succ p) sz) (putPs sz ps vs (putTm0 p ⟨v⟩ tm)) none
  | _, _, _ => none
def pendOf : Ex → Option (Option Code)
  | .normal => some none
  | .ret => some (some .ret)
  | .exit i => some (some (.exit i))
  | .panic _ => none
def roundEnd (l : Nat) (h : Hp) (pend : Option Code) : CRes := Option.rec .fail (fun h' => .ret (.bool (isNone pend)) h') (setBlk h l (endedB pend))
def afterBody (l : Nat) : Res → CRes
  | .ok e _ h => Option.rec .fail (fun p => roundEnd l h p) (pendOf e)
  | .fail => .fail
def afterAssign (code : CodeK) (l : Nat) (body : Code) : Res → CRes
  | .ok .normal f h => Option.rec .fail (fun h' => afterBody l (code body f h')) (setBlk h l busyB)
  | _ => .fail
def evRoundB (code : CodeK) (l : Nat) (args : List Value) (h : Hp) : Blk → CRes
  | .loop _ _ tm sz ps a b => Option.rec .fail (fun tm' => afterAssign code l b (code a ⟨tm', sz, []⟩ h)) (putPs sz ps args tm)
  | _ => .fail
/-- One round of a range over a function. -/
def evRound (code : CodeK) (l : Nat) (args : List Value) (h : Hp) : CRes := Option.rec .fail (evRoundB code l args h) (h.look l)

def rfArgs (P : Program) (l : Nat) : Value → Option (FuncId × List Value)
  | .func (.func g) first captured => ite' (bodyOf P g) (some (g, appL first.toList (.chan (some l) :: captured.toList))) none
  | _ => none
def isBusy : LoopState → Bool
  | .busy => true
  | _ => false
def goPend (code : CodeK) : Option Code → Fr → Hp → Res
  | none, f, h => .ok .normal f h
  | some c, f, h => code c f h
def rfEndB (code : CodeK) (f : Fr) (l : Nat) (h : Hp) : Blk → Res
  | .loop st pend tm sz ps a b => ite' (isBusy st) .fail (goPend code pend f (h.put l (some (.loop .exhausted pend tm sz ps a b))))
  | _ => .fail
def rfEnd (code : CodeK) (f : Fr) (l : Nat) (h : Hp) : Res := Option.rec .fail (rfEndB code f l h) (h.look l)
def rfRet (code : CodeK) (f : Fr) (l : Nat) : CRes → Res
  | .ret _ h => rfEnd code f l h
  | _ => .fail
def markF (f : Fr) (d : Nat) : Fr := ⟨f.tm, f.sz, { target := .collected d, args := #[] } :: f.defers⟩
def rangeHp (f : Fr) (h : Hp) (ps : Array Tmp) (a b : Code) : Hp := (h.add (.defb true)).add (.loop .ready none f.tm f.sz ps.toList a b)
def cRange (g : Operand) (ps : Array Tmp) (a b : Code) : Program → CallK → CodeK → Fr → Hp → Res := fun P call code f h =>
  Option.rec .fail (fun ga => rfRet code (markF f h.next) (Nat.succ h.next) (call ga.1 ga.2 (rangeHp f h ps a b))) (rfArgs P (Nat.succ h.next) (f.eval g))
def cScope (b : Code) : Program → CallK → CodeK → Fr → Hp → Res := fun _ _ code f h => code b f h

structure CB where
  c : Program → CallK → CodeK → Fr → Hp → Res
def cb (c : Code) : CB :=
  Code.rec (motive := fun _ => CB) ⟨cSkip⟩ (fun _ ops draw => ⟨cRegion ops draw⟩) (fun a b _ _ => ⟨cSeq a b⟩) (fun c a b _ _ => ⟨ite' (okOpnd c) (cCond c a b) cNo⟩)
    (fun id b _ => ⟨cBlock id b⟩) (fun b _ => ⟨cLoop b⟩) (fun g ps a b _ _ => ⟨ite' (ite' (okOpnd g) (ite' (calm a) (calm b) false) false) (cRange g ps a b) cNo⟩) (fun id => ⟨cExit id⟩) (fun b _ => ⟨cScope b⟩) (fun _ => ⟨cSkip⟩) (fun _ => ⟨cNo⟩) ⟨cRet⟩ (fun _ => ⟨cNo⟩) c
/-- Code, given the code's and the calls' evaluation with less fuel. -/
def evCode (P : Program) (call : CallK) (code : CodeK) (c : Code) (f : Fr) (h : Hp) : Res := (cb c).c P call code f h

def evResult (P : Program) (f : Fr) (h : Hp) (r : ResultVar) : Option Value :=
  ResultVar.rec (motive := fun _ => Option Value) (fun t => ite' (Nat.blt t 512) (some (getTm t f.tm)) none) (fun a t => ite' (Nat.blt a 512) (evLoad P h t (getTm a f.tm)) none) r

def evResultsL (P : Program) (f : Fr) (h : Hp) : List ResultVar → Option (List Value)
  | [] => some []
  | r :: rs => ob (evResult P f h r) fun v => om (evResultsL P f h rs) (v :: ·)

def packL : List Value → Value
  | [v] => v
  | vs => .tuple vs.toArray

def evResults (P : Program) (fn : Func) (f : Fr) (h : Hp) : Option Value := om (evResultsL P f h fn.results.toList) packL

def argTree (l : List Value) : Nat → Tm → Tm :=
  List.rec (motive := fun _ => Nat → Tm → Tm) (fun _ t => t) (fun v _ ih i t => ih (Nat.succ i) (putTm0 i ⟨v⟩ t)) l

def maxN (a b : Nat) : Nat := Nat.add a (Nat.sub b a)

def frameOf (fn : Func) (args : List Value) : Fr := ⟨argTree args 0 tm0, maxN (lenL args) fn.ntmps, []⟩

/-- What stands when a body has ended: a panic or none. -/
def panOf : Ex → Option (Option Value)
  | .normal => some none
  | .ret => some none
  | .panic v => some (some v)
  | .exit _ => none

abbrev DefK := FuncId → List Value → Option Value → Hp → Option (Option Value × Hp)

/-- The deferred calls, the last one first. -/
def runDefers (defd : DefK) : List Deferred → Option Value → Hp → Option (Option Value × Hp)
  | [], p, h => some (p, h)
  | d :: ds, p, h => match d.target with
    | .fn (.func g) captured => ob (defd g (appL d.args.toList captured.toList) p h) fun x => runDefers defd ds x.1 x.2
    | .collected b => ob (setBlk h b shutB) fun h' => runDefers defd ds p h'
    | _ => none

def finish (P : Program) (fn : Func) (f : Fr) (p : Option Value) (h : Hp) : CRes :=
  match p with
  | none => Option.rec .fail (fun v => .ret v h) (evResults P fn f h)
  | some v => .pan v h

def bodyEnd (P : Program) (defd : DefK) (fn : Func) (e : Ex) (f : Fr) (h : Hp) : CRes :=
  Option.rec .fail (fun p => Option.rec .fail (fun x => finish P fn f x.1 x.2) (runDefers defd f.defers p h)) (panOf e)

def evBody (P : Program) (code : CodeK) (defd : DefK) (args : List Value) (h : Hp) (fn : Func) : CRes :=
  Option.rec .fail (fun c => ite' (Nat.ble (maxN (lenL args) fn.ntmps) 512) (Res.rec (fun e f h => bodyEnd P defd fn e f h) .fail (code c (frameOf fn args) h)) .fail) fn.body

/-- A deferred function's code, with recover; p: what panics. -/
inductive ResR where
  | ok (e : Ex) (p : Option Value) (f : Fr) (h : Hp)
  | fail

def isRecover : Op → Bool
  | .call ⟨.builtin .recover, _, _⟩ => true
  | _ => false

def nilOr : Option Value → Value
  | none => .nilIface
  | some v => v

def ResR.of (p : Option Value) : Res → ResR
  | .ok e f h => .ok e p f h
  | .fail => .fail

def onNormalR (r : ResR) (k : Option Value → Fr → Hp → ResR) : ResR :=
  match r with
  | .ok .normal p f h => k p f h
  | r => r

def noRound (call : CallK) : CallK := fun g args h => ite' (Nat.ble YB g) .fail (call g args h)
def evListR (P : Program) (call : CallK) (ops : Array Oper) : List Oper → Option Value → Fr → Hp → ResR
  | [], p, f, h => .ok .normal p f h
  | o :: os, p, f, h =>
    ite' (ite' (wantedF ops f o.guard) (isRecover o.op) false)
      (onNormalR (.of none (putTm f h o.dst (nilOr p))) (evListR P call ops os))
      (onNormalR (.of p (evOne P (noRound call) ops o f h)) (evListR P call ops os))

def outOfR (id : Nat) : ResR → ResR
  | .ok (.exit i) p f h => ite' (Nat.beq i id) (.ok .normal p f h) (.ok (.exit i) p f h)
  | r => r

def condR (v : Value) (x y : ResR) : ResR := Option.rec .fail (fun t => ite' t x y) (boolOf? v)

def evCodeR (P : Program) (call : CallK) (code : CodeK) : Code → Option Value → Fr → Hp → ResR
  | .region _ ops false, p, f, h => evListR P call ops ops.toList p f h
  | .seq a b, p, f, h => onNormalR (evCodeR P call code a p f h) (evCodeR P call code b)
  | .cond c a b, p, f, h => ite' (okOpnd c) (condR (f.eval c) (evCodeR P call code a p f h) (evCodeR P call code b p f h)) .fail
  | c, p, f, h => .of p (code c f h)

def defEnd (P : Program) (fn : Func) : ResR → Option (Option Value × Hp)
  | .ok .normal p f h | .ok .ret p f h => match f.defers with | [] => ob (evResults P fn f h) (fun _ => some (p, h)) | _ => none
  | _ => none

def evDefd (P : Program) (call : CallK) (code : CodeK) : DefK := fun g args p h =>
  ob (P.funcs[g]?) fun fn => ob fn.body fun c => ite' (bodyOf P g) (ite' (Nat.ble (maxN (lenL args) fn.ntmps) 512) (defEnd P fn (evCodeR P call code c p (frameOf fn args) h)) none) none

def evPlain (P : Program) (call : CallK) (code : CodeK) : CallK := fun g args h =>
  Option.rec .fail (evBody P code (evDefd P call code) args h) P.funcs[g]?
/-- Calls whose outcome is known. -/
abbrev Tab := FuncId → List Value → Hp → Option CRes
def evFn (P : Program) (tab : Tab) (call : CallK) (code : CodeK) : CallK := fun g args h =>
  ite' (Nat.ble YB g) (evRound code (Nat.sub g YB) args h) (Option.rec (evPlain P call code g args h) (fun r => r) (tab g args h))

structure Both where
  code : CodeK
  call : CallK

def evStep (P : Program) (tab : Tab) (b : Both) : Both := ⟨evCode P b.call b.code, evFn P tab b.call b.code⟩

def ev (P : Program) (tab : Tab) (n : Nat) : Both :=
  Nat.rec (motive := fun _ => Both) ⟨fun _ _ _ => .fail, fun _ _ _ => .fail⟩ (fun _ ih => evStep P tab ih) n

def hp0 : Hp := ⟨.nil, 1000, BIG, []⟩

end Go.Ev
end
