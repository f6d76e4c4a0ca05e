/- Add of short polynomials: what is run. -/
import Derived.Test.YtaokhbanpfmkmaaGreatQd
import Derived.Test.YtaokhbanpfmkmaaGreatSa
import Derived.KernelRfl
namespace Go.Proofs.YtaokhbanpfmkmaaGreat
set_option linter.unusedVariables false
set_option linter.unusedSimpArgs false
open Ev Go.RowKit

/-! Add of short polynomials: runs in which the words of numbers that are not looked at are left open. -/
structure AT where
  s : Bool
  e : Int × Int
  x : Option Nat
def wx : Option Nat → Blk
  | some n => wd n
  | none => .row [] 233 false
def wy : Option Nat → Blk
  | some _ => wd 1
  | none => .row [] 233 false
def wbl : List AT → List Blk
  | [] => []
  | t :: l => wx t.x :: wy t.x :: wbl l
def flatA : List AT → Nat → List Value
  | [], _ => []
  | t :: l, n => (.bool t.s :: sl1 n :: .bool false :: sl1 (n + 1) :: intsV (mono t.e)) ++ flatA l (n + 2)
def qrow (n : Nat) : List AT → List Blk
  | [] => []
  | m :: M => [.row (flatA (m :: M) (1001 + 2 * n)) 83 false]
def preA (L M : List AT) : List Blk := .row (flatA L 1001) 83 false :: (wbl L ++ (wbl M ++ qrow L.length M))
def parg (n : Nat) : Value := .slice (some ⟨1000, 0, none⟩) n OPEN
def qarg (n : Nat) : Nat → Value
  | 0 => .slice none 0 0
  | m + 1 => .slice (some ⟨1001 + 2 * (n + (m + 1)), 0, none⟩) (m + 1) OPEN
noncomputable def arun : RunK := runE Tryz.prog (tabCons 120259084288 (runE Tryz.prog ktab 100000) tabNo) 100000
theorem arun_ok : RunOk Tryz.prog arun := runE_ok mixed (tabCons_ok (runE_ok mixed ktab_ok) tabNo_ok)
noncomputable def aRun (chk : Nat → Value → Hp → Bool) (L M : List AT) : Bool :=
  runCk arun 18 [parg L.length, qarg L.length M.length] (preA L M) (chk (1000 + (preA L M).length))

/-! What is asked of a run's end. -/
def eqC : Value → Value → Bool
  | .bool a, .bool b => a == b
  | .int k a, .int k' b => decide (k = k') && decide (a = b)
  | .slice (some ⟨b, o, x⟩) n c, .slice (some ⟨b', o', y⟩) n' c' => Nat.beq b b' && Nat.beq o o' && Nat.beq n n' && Nat.beq c c' && x.isNone && y.isNone
  | _, _ => false
theorem eqC_eq {a b : Value} (h : eqC a b = true) : a = b := by
  unfold eqC at h
  split at h
  · simp at h; rw [h]
  · simp at h; rw [h.1, h.2]
  · simp at h
    obtain ⟨⟨⟨⟨⟨rfl, rfl⟩, rfl⟩, rfl⟩, rfl⟩, rfl⟩ := h; rfl
  · cases h
def eqCs : List Value → List Value → Bool
  | [], [] => true
  | a :: l, b :: r => eqC a b && eqCs l r
  | _, _ => false
theorem eqCs_eq : ∀ {l r : List Value}, eqCs l r = true → l = r := by
  intro l
  induction l with
  | nil => intro r h; cases r with
    | nil => rfl
    | cons b r => simp [eqCs] at h
  | cons a l ih => intro r h; cases r with
    | nil => simp [eqCs] at h
    | cons b r =>
      simp [eqCs] at h
      rw [eqC_eq h.1, ih h.2]
def slN? (n : Nat) (v : Value) : Option (Nat × Nat) := match v with
  | .slice (some ⟨b, o, x⟩) n' c => if Nat.beq n' n && Nat.beq o 0 && x.isNone then some (b, c) else none
  | _ => none
theorem slN?_eq {n : Nat} {v : Value} {b c : Nat} (h : slN? n v = some (b, c)) : v = .slice (some ⟨b, 0, none⟩) n c := by
  unfold slN? at h
  split at h
  · split at h
    · rename_i h2
      simp at h2 h
      obtain ⟨⟨rfl, rfl⟩, rfl⟩ := h2
      obtain ⟨rfl, rfl⟩ := h; rfl
    · cases h
  · cases h
/-- Old terms, by their places. -/
def flatO : List (Nat × AT) → List Value
  | [] => []
  | x :: l => (.bool x.2.s :: sl1 (1001 + 2 * x.1) :: .bool false :: sl1 (1002 + 2 * x.1) :: intsV (mono x.2.e)) ++ flatO l
def isRow (l : List Value) (b : Option Blk) : Bool := match b with
  | some (.row cs t _) => Nat.beq t 83 && eqCs cs l
  | _ => false
theorem isRow_eq {l : List Value} {b : Option Blk} (h : isRow l b = true) : ∃ o, b = some (.row l 83 o) := by
  unfold isRow at h
  split at h
  · rename_i cs t o
    simp at h
    exact ⟨o, by rw [h.1, eqCs_eq h.2]⟩
  · cases h
noncomputable def chkOld (E : List (Nat × AT)) (lo : Nat) (v : Value) (h : Hp) : Bool := match slN? E.length v with
  | some (b, _) => Nat.ble lo b && isRow (flatO E) (h.look b)
  | none => false
theorem chkOld_eq {E : List (Nat × AT)} {lo : Nat} {v : Value} {h : Hp} (e : chkOld E lo v h = true) : ∃ b c o, v = .slice (some ⟨b, 0, none⟩) E.length c ∧ lo ≤ b ∧ h.look b = some (.row (flatO E) 83 o) := by
  unfold chkOld at e
  split at e
  · rename_i b c hs
    simp at e
    obtain ⟨o, ho⟩ := isRow_eq e.2
    exact ⟨b, c, o, slN?_eq hs, e.1, ho⟩
  · cases e
noncomputable def chkNew (k : Int) (e : Int × Int) (lo : Nat) (v : Value) (h : Hp) : Bool := match k with
  | .ofNat 0 => chkOld [] lo v h
  | k => (match slN? 1 v with
    | some (b, _) => Nat.ble lo b && chkRow k e lo h (h.look b)
    | none => false)
theorem chkNew_eq {k : Int} {e : Int × Int} {lo : Nat} {v : Value} {h : Hp} (g : chkNew k e lo v h = true) : (k = 0 ∧ chkOld [] lo v h = true) ∨
    ∃ b c i j o, k ≠ 0 ∧ v = .slice (some ⟨b, 0, none⟩) 1 c ∧ lo ≤ b ∧ h.look b = some (.row (tmL k i j e) 83 o) ∧ i ≠ j ∧ lo ≤ i ∧ lo ≤ j ∧ h.look i = some (wd k.natAbs) ∧ h.look j = some (wd 1) := by
  unfold chkNew at g
  split at g
  · exact .inl ⟨rfl, g⟩
  · rename_i h0
    right
    split at g
    · rename_i b c hs
      simp at g
      obtain ⟨i, j, o, h4, h5⟩ := chkRow_eq g.2
      exact ⟨b, c, i, j, o, fun h => h0 h, slN?_eq hs, g.1, h4, h5⟩
    · cases g
def chkAny (_ : Nat) (v : Value) (_ : Hp) : Bool := match v with
  | .slice _ _ _ => true
  | _ => false
theorem chkAny_eq {n : Nat} {v : Value} {h : Hp} (e : chkAny n v h = true) : ∃ a l c, v = .slice a l c := by
  unfold chkAny at e
  split at e
  · exact ⟨_, _, _, rfl⟩
  · cases e

/-! The runs. -/
def sgn : List Bool := [false, true]
def pairs : List ((Int × Int) × (Int × Int)) := [((2, 0), (1, 1)), ((2, 0), (1, 0)), ((2, 0), (0, 2)), ((2, 0), (0, 1)), ((2, 0), (0, 0)), ((1, 1), (1, 0)), ((1, 1), (0, 2)), ((1, 1), (0, 1)), ((1, 1), (0, 0)),
  ((1, 0), (0, 2)), ((1, 0), (0, 1)), ((1, 0), (0, 0)), ((0, 2), (0, 1)), ((0, 2), (0, 0)), ((0, 1), (0, 0))]
def opn (s : Bool) (e : Int × Int) : AT := ⟨s, e, none⟩
def knw (k : Int) (e : Int × Int) : AT := ⟨decide (k < 0), e, some k.natAbs⟩
noncomputable def a0 : Bool := aRun (chkOld []) [] []
noncomputable def a1 : Bool := allL (fun s => allL (fun e => aRun (chkOld [(0, opn s e)]) [opn s e] []) monos) sgn
noncomputable def a2 : Bool := allL (fun s => allL (fun t => allL (fun p => aRun chkAny [opn s p.1, opn t p.2] []) pairs) sgn) sgn
noncomputable def b0 : Bool := allL (fun s => allL (fun e => aRun (chkOld [(0, opn s e)]) [] [opn s e]) monos) sgn
noncomputable def b1 : Bool := allL (fun s => allL (fun t => allL (fun p => aRun (chkOld [(0, opn s p.1), (1, opn t p.2)]) [opn s p.1] [opn t p.2]) pairs) sgn) sgn
noncomputable def b1' : Bool := allL (fun s => allL (fun t => allL (fun p => aRun (chkOld [(1, opn s p.1), (0, opn t p.2)]) [opn t p.2] [opn s p.1]) pairs) sgn) sgn
def es1 : List (Int × Int) := [(0, 0), (1, 0), (2, 0)]
def es2 : List (Int × Int) := [(0, 1), (0, 2), (1, 1)]
noncomputable def c1 (es : List (Int × Int)) : Bool := allL (fun e => allL (fun k => allL (fun l => aRun (chkNew (k + l) e) [knw k e] [knw l e]) (pm 3)) (pm 6)) es
noncomputable def ite2 (b : Bool) (x : Bool) : Bool := Bool.rec x true b
def eqP (a b : Int × Int) : Bool := decide (a.1 = b.1) && decide (a.2 = b.2)
noncomputable def b2 (s : Bool) : Bool := allL (fun t => allL (fun u => allL (fun p => allL (fun e => ite2 (eqP p.1 e || eqP p.2 e) (aRun chkAny [opn s p.1, opn t p.2] [opn u e])) monos) pairs) sgn) sgn
def ps1 : List ((Int × Int) × (Int × Int)) := [((2, 0), (1, 1)), ((2, 0), (1, 0)), ((2, 0), (0, 2)), ((2, 0), (0, 1)), ((2, 0), (0, 0)), ((1, 1), (1, 0)), ((1, 1), (0, 2)), ((1, 1), (0, 1))]
def ps2 : List ((Int × Int) × (Int × Int)) := [((1, 1), (0, 0)), ((1, 0), (0, 2)), ((1, 0), (0, 1)), ((1, 0), (0, 0)), ((0, 2), (0, 1)), ((0, 2), (0, 0)), ((0, 1), (0, 0))]
noncomputable def c2 (s : Bool) (ps : List ((Int × Int) × (Int × Int))) : Bool := allL (fun p => allL (fun k => allL (fun l => aRun chkAny [knw k p.1, opn s p.2] [knw l p.1]) (pm 3)) (pm 3)) ps
noncomputable def c2' (s : Bool) (ps : List ((Int × Int) × (Int × Int))) : Bool := allL (fun p => allL (fun k => allL (fun l => aRun chkAny [opn s p.1, knw k p.2] [knw l p.2]) (pm 3)) (pm 3)) ps
end Go.Proofs.YtaokhbanpfmkmaaGreat
