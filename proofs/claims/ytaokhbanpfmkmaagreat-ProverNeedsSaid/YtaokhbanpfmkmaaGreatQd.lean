/- Scaling one term, by runs. -/
import Derived.Test.YtaokhbanpfmkmaaGreatQa
import Derived.KernelRfl
namespace Go.Proofs.YtaokhbanpfmkmaaGreat
set_option linter.unusedVariables false
set_option linter.unusedSimpArgs false
open Ev

/-! Scale of one term. -/
/-- A term's cells. -/
def tmL (k : Int) (b d : Nat) (e : Int × Int) : List Value := rtL k b d ++ intsV (mono e)
def tm2L (b d : Nat) (e : Int × Int) : List Value := [.bool false, sl2 1 b, .bool false, sl2 1 d] ++ intsV (mono e)
def slA? (v : Value) : Option (Nat × Nat) := match v with
  | .slice (some ⟨b, o, x⟩) n c => if Nat.beq n 1 && Nat.beq o 0 && x.isNone then some (b, c) else none
  | _ => none
theorem slA?_eq {v : Value} {b c : Nat} (h : slA? v = some (b, c)) : v = .slice (some ⟨b, 0, none⟩) 1 c := by
  unfold slA? at h
  split at h
  · split at h
    · rename_i h2
      simp at h2 h
      obtain ⟨⟨rfl, rfl⟩, rfl⟩ := h2
      obtain ⟨rfl, rfl⟩ := h; rfl
    · cases h
  · cases h
noncomputable def chkRow (k : Int) (e : Int × Int) (lo : Nat) (h : Hp) (b : Option Blk) : Bool := match b with
  | some (.row (n :: x :: f :: y :: l) t o) => Nat.beq t 83 && eqMono l (mono e) && chkRat k lo (.agg ⟨[n, x, f, y]⟩) h
  | _ => false
theorem chkRow_eq {k : Int} {e : Int × Int} {lo : Nat} {h : Hp} {b : Option Blk} (g : chkRow k e lo h b = true) : ∃ i j o, b = some (.row (tmL k i j e) 83 o) ∧ i ≠ j ∧ lo ≤ i ∧ lo ≤ j ∧ h.look i = some (wd k.natAbs) ∧ h.look j = some (wd 1) := by
  unfold chkRow at g
  split at g
  · rename_i n x f y l t o
    simp at g
    obtain ⟨⟨rfl, h2⟩, h3⟩ := g
    obtain ⟨i, j, h4, h5⟩ := chkRat_eq h3
    refine ⟨i, j, o, ?_, h5⟩
    unfold rt rtL at h4
    simp at h4
    obtain ⟨rfl, rfl, rfl, rfl⟩ := h4
    rw [eqMono_eq h2]; rfl
  · cases g
noncomputable def chkScale (k : Int) (e : Int × Int) (lo : Nat) (v : Value) (h : Hp) : Bool := match v with
  | .slice none 0 0 => decide (k = 0)
  | v => (match slA? v with
    | some (b, c) => not (decide (k = 0)) && Nat.ble lo b && chkRow k e lo h (h.look b)
    | none => false)
theorem chkScale_eq {k : Int} {e : Int × Int} {lo : Nat} {v : Value} {h : Hp} (g : chkScale k e lo v h = true) : (k = 0 ∧ v = .slice none 0 0) ∨
    ∃ b c i j o, k ≠ 0 ∧ v = .slice (some ⟨b, 0, none⟩) 1 c ∧ lo ≤ b ∧ h.look b = some (.row (tmL k i j e) 83 o) ∧ i ≠ j ∧ lo ≤ i ∧ lo ≤ j ∧ h.look i = some (wd k.natAbs) ∧ h.look j = some (wd 1) := by
  unfold chkScale at g
  split at g
  · exact .inl ⟨by simpa using g, rfl⟩
  · split at g
    · rename_i b c hs
      simp at g
      obtain ⟨⟨h1, h2⟩, h3⟩ := g
      obtain ⟨i, j, o, h4, h5⟩ := chkRow_eq h3
      exact .inr ⟨b, c, i, j, o, h1, slA?_eq hs, h2, h4, h5⟩
    · cases g
noncomputable def scaleAll : Bool := allL (fun k => allL (fun e => runCk qrun 19 [wh k 1000 1001, .slice (some ⟨1004, 0, none⟩) 1 1] [w2 k.natAbs, w2 1, w2 1, w2 1, .row (tm2L 1002 1003 e) 83 false] (chkScale k e 1005)) monos) cs
theorem scale_all : scaleAll = true := by kernel_rfl
end Go.Proofs.YtaokhbanpfmkmaaGreat
