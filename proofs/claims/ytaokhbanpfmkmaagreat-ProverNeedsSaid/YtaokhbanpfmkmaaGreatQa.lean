/- Small whole numbers as rational numbers, in memory. -/
import Derived.Test.YtaokhbanpfmkmaaGreatNg
import Derived.Test.YtaokhbanpfmkmaaGreatEvZc
import Derived.KernelRfl
namespace Go.Proofs.YtaokhbanpfmkmaaGreat
set_option linter.unusedVariables false
set_option linter.unusedSimpArgs false
open Ev

/-! Small whole numbers as rational numbers, in memory. -/
def wd (n : Nat) : Blk := .row [.int .u32 n] 233 false
def w2 (n : Nat) : Blk := .row [.int .u32 n, .int .u32 0] 233 false
def sl1 (b : Nat) : Value := .slice (some ⟨b, 0, none⟩) 1 1
def sl2 (n b : Nat) : Value := .slice (some ⟨b, 0, none⟩) n 2
def rtL (k : Int) (b d : Nat) : List Value := [.bool (decide (k < 0)), sl1 b, .bool false, sl1 d]
def rt (k : Int) (b d : Nat) : Value := .agg ⟨rtL k b d⟩
def rz (d : Nat) : Value := .agg ⟨[.bool false, .slice none 0 0, .bool false, sl1 d]⟩

def sl1? (v : Value) : Option Nat := match v with
  | .slice (some ⟨b, o, x⟩) n c => if Nat.beq n 1 && Nat.beq c 1 && Nat.beq o 0 && x.isNone then some b else none
  | _ => none
theorem sl1?_eq {v : Value} {b : Nat} (h : sl1? v = some b) : v = sl1 b := by
  unfold sl1? at h
  split at h
  · split at h
    · rename_i h2
      simp at h2 h
      obtain ⟨⟨⟨rfl, rfl⟩, rfl⟩, rfl⟩ := h2
      subst h; rfl
    · cases h
  · cases h
def rat? (v : Value) : Option (Bool × Nat × Nat) := match v with
  | .agg ⟨[.bool n, b, .bool false, d]⟩ => (sl1? b).bind fun i => (sl1? d).bind fun j => some (n, i, j)
  | _ => none
theorem rat?_eq {v : Value} {n : Bool} {i j : Nat} (h : rat? v = some (n, i, j)) : v = .agg ⟨[.bool n, sl1 i, .bool false, sl1 j]⟩ := by
  unfold rat? at h
  split at h
  · rename_i n0 b d
    cases hb : sl1? b with
    | none => simp [hb] at h
    | some i0 =>
      cases hd : sl1? d with
      | none => simp [hb, hd] at h
      | some j0 =>
        simp [hb, hd] at h
        obtain ⟨rfl, rfl, rfl⟩ := h
        rw [sl1?_eq hb, sl1?_eq hd]
  · cases h
def isWd (n : Nat) (b : Option Blk) : Bool := match b with
  | some (.row [.int k (.ofNat m)] t o) => decide (k = .u32) && Nat.beq m n && Nat.beq t 233 && not o
  | _ => false
theorem isWd_eq {n : Nat} {b : Option Blk} (h : isWd n b = true) : b = some (wd n) := by
  unfold isWd at h
  split at h
  · simp at h
    obtain ⟨⟨⟨rfl, rfl⟩, rfl⟩, rfl⟩ := h
    rfl
  · cases h
noncomputable def chkRat (k : Int) (lo : Nat) (v : Value) (h : Hp) : Bool := match rat? v with
  | some (n, i, j) => (n == decide (k < 0)) && not (Nat.beq i j) && Nat.ble lo i && Nat.ble lo j && isWd k.natAbs (h.look i) && isWd 1 (h.look j)
  | none => false
theorem chkRat_eq {k : Int} {lo : Nat} {v : Value} {h : Hp} (e : chkRat k lo v h = true) : ∃ i j, v = rt k i j ∧ i ≠ j ∧ lo ≤ i ∧ lo ≤ j ∧ h.look i = some (wd k.natAbs) ∧ h.look j = some (wd 1) := by
  unfold chkRat at e
  split at e
  · rename_i n i j hr
    simp at e
    obtain ⟨⟨⟨⟨⟨rfl, h1⟩, h2⟩, h3⟩, h4⟩, h5⟩ := e
    exact ⟨i, j, rat?_eq hr, fun he => by (subst he; simp at h1), h2, h3, isWd_eq h4, isWd_eq h5⟩
  · cases e
noncomputable def chkZ (lo : Nat) (v : Value) (h : Hp) : Bool := match v with
  | .agg ⟨[.bool false, .slice none 0 0, .bool false, d]⟩ => (match sl1? d with
    | some j => Nat.ble lo j && isWd 1 (h.look j)
    | none => false)
  | _ => false
theorem chkZ_eq {lo : Nat} {v : Value} {h : Hp} (e : chkZ lo v h = true) : ∃ j, v = rz j ∧ lo ≤ j ∧ h.look j = some (wd 1) := by
  unfold chkZ at e
  split at e
  · split at e
    · rename_i j hr
      simp at e
      exact ⟨j, by rw [sl1?_eq hr]; rfl, e.1, isWd_eq e.2⟩
    · cases e
  · cases e
noncomputable def chkSum (k : Int) (lo : Nat) (v : Value) (h : Hp) : Bool := match k with
  | .ofNat 0 => chkZ lo v h
  | _ => chkRat k lo v h
noncomputable def qrun : RunK := runE Tryz.prog tabNo 100000
theorem qrun_ok : RunOk Tryz.prog qrun := runE_ok mixed tabNo_ok
def pm (n : Nat) : List Int := List.flatten ((List.range n).map fun i => [Int.ofNat (i + 1), Int.negSucc i])
noncomputable def addAll (l1 l2 : List Int) : Bool := allL (fun a => allL (fun b => runCk qrun 35 [rt a 1000 1001, rt b 1002 1003] [wd a.natAbs, wd 1, wd b.natAbs, wd 1] (chkSum (a + b) 1004)) l2) l1
end Go.Proofs.YtaokhbanpfmkmaaGreat

namespace Go.Proofs.YtaokhbanpfmkmaaGreat
set_option linter.unusedVariables false
set_option linter.unusedSimpArgs false
open Ev

/-! Sign, Cmp, Whole, Scale at the numbers and monomials that Made reaches. -/
def mono (e : Int × Int) : List Int := [e.1, e.2, 0, 0, 0, 0, 0, 0]
def intsV (l : List Int) : List Value := l.map fun n => .int .i64 n
def monos : List (Int × Int) := [(0, 0), (1, 0), (2, 0), (0, 1), (0, 2), (1, 1)]
def eqMono : List Value → List Int → Bool
  | [], [] => true
  | .int k a :: l, b :: r => decide (k = .i64) && decide (a = b) && eqMono l r
  | _, _ => false
theorem eqMono_eq : ∀ {l : List Value} {r : List Int}, eqMono l r = true → l = intsV r := by
  intro l
  induction l with
  | nil => intro r h; cases r with
    | nil => rfl
    | cons b r => simp [eqMono] at h
  | cons v l ih => intro r h; cases r with
    | nil => simp [eqMono] at h
    | cons b r =>
      unfold eqMono at h
      split at h
      · rename_i heq1 heq2; cases heq1
      · rename_i k a l1 b1 r1 heq1 heq2
        cases heq1; cases heq2
        simp at h
        obtain ⟨⟨rfl, rfl⟩, h3⟩ := h
        rw [ih h3]; rfl
      · cases h
def isInt? (v : Value) : Option Int := match v with
  | .int k n => if k = .i64 then some n else none
  | _ => none
theorem isInt?_eq {v : Value} {n : Int} (h : isInt? v = some n) : v = .int .i64 n := by
  unfold isInt? at h
  split at h
  · split at h
    · rename_i h2; cases h; rw [h2]
    · cases h
  · cases h
def chkInt (p : Int → Bool) (v : Value) (h : Hp) : Bool := match isInt? v with
  | some n => p n
  | none => false
theorem chkInt_eq {p : Int → Bool} {v : Value} {h : Hp} (e : chkInt p v h = true) : ∃ n, v = .int .i64 n ∧ p n = true := by
  unfold chkInt at e
  split at e
  · rename_i n hn; exact ⟨n, isInt?_eq hn, e⟩
  · cases e
noncomputable def signAll (l : List Int) : Bool := allL (fun a => runCk qrun 36 [rt a 1000 1001] [wd a.natAbs, wd 1] (chkInt fun n => decide (n ≠ 0))) l
theorem sign_all : signAll (pm 9) = true := by kernel_rfl
theorem sign_z : runCk qrun 36 [rz 1000] [wd 1] (chkInt fun n => decide (n = 0)) = true := by kernel_rfl
noncomputable def cmpAll : Bool := allL (fun a => allL (fun b => runCk qrun 34 [.agg ⟨intsV (mono a)⟩, .agg ⟨intsV (mono b)⟩] [] (chkInt fun n => true)) monos) monos
theorem cmp_all : cmpAll = true := by kernel_rfl

def sl2? (n : Nat) (v : Value) : Option Nat := match v with
  | .slice (some ⟨b, o, x⟩) n' c => if Nat.beq n' n && Nat.beq c 2 && Nat.beq o 0 && x.isNone then some b else none
  | _ => none
theorem sl2?_eq {n : Nat} {v : Value} {b : Nat} (h : sl2? n v = some b) : v = sl2 n b := by
  unfold sl2? at h
  split at h
  · split at h
    · rename_i h2
      simp at h2 h
      obtain ⟨⟨⟨rfl, rfl⟩, rfl⟩, rfl⟩ := h2
      subst h; rfl
    · cases h
  · cases h
def isW2 (n : Nat) (b : Option Blk) : Bool := match b with
  | some (.row [.int k (.ofNat m), .int k' (.ofNat 0)] t o) => decide (k = .u32) && decide (k' = .u32) && Nat.beq m n && Nat.beq t 233 && not o
  | _ => false
theorem isW2_eq {n : Nat} {b : Option Blk} (h : isW2 n b = true) : b = some (w2 n) := by
  unfold isW2 at h
  split at h
  · simp at h
    obtain ⟨⟨⟨⟨rfl, rfl⟩, rfl⟩, rfl⟩, rfl⟩ := h
    rfl
  · cases h
/-- The length of a small number's words. -/
def ln (k : Int) : Nat := if k = 0 then 0 else 1
def wh (k : Int) (b d : Nat) : Value := .agg ⟨[.bool (decide (k < 0)), sl2 (ln k) b, .bool false, sl2 1 d]⟩
noncomputable def chkWh (k : Int) (lo : Nat) (v : Value) (h : Hp) : Bool := match v with
  | .agg ⟨[.bool n, b, .bool false, d]⟩ => (match sl2? (ln k) b, sl2? 1 d with
    | some i, some j => (n == decide (k < 0)) && not (Nat.beq i j) && Nat.ble lo i && Nat.ble lo j && isW2 k.natAbs (h.look i) && isW2 1 (h.look j)
    | _, _ => false)
  | _ => false
theorem chkWh_eq {k : Int} {lo : Nat} {v : Value} {h : Hp} (e : chkWh k lo v h = true) : ∃ i j, v = wh k i j ∧ i ≠ j ∧ lo ≤ i ∧ lo ≤ j ∧ h.look i = some (w2 k.natAbs) ∧ h.look j = some (w2 1) := by
  unfold chkWh at e
  split at e
  · split at e
    · rename_i i j hi hj
      simp at e
      obtain ⟨⟨⟨⟨⟨rfl, h1⟩, h2⟩, h3⟩, h4⟩, h5⟩ := e
      exact ⟨i, j, by rw [sl2?_eq hi, sl2?_eq hj]; rfl, fun he => by (subst he; simp at h1), h2, h3, isW2_eq h4, isW2_eq h5⟩
    · cases e
  · cases e
def cs : List Int := [0, 1, 2, 3, -1, -2, -3]
noncomputable def wholeAll : Bool := allL (fun k => runCk qrun 20 [.int .i64 k] [] (chkWh k 1000)) cs
theorem whole_all : wholeAll = true := by kernel_rfl
end Go.Proofs.YtaokhbanpfmkmaaGreat
