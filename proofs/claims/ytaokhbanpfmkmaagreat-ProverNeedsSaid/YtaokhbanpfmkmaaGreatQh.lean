/- The body of the law, given what Made does. -/
import Derived.Test.YtaokhbanpfmkmaaGreatProg
import Derived.WalkKit
import Derived.Test.YtaokhbanpfmkmaaGreatEvZc
import Derived.Carry
import Derived.KernelRfl
namespace Go.Proofs.YtaokhbanpfmkmaaGreat
set_option linter.unusedVariables false
set_option linter.unusedSimpArgs false
open Go.RowKit

theorem abs_calls (n : Int) (w : World) (h1 : -128 ≤ n) (h2 : n ≤ 127) : Calls Tryz.prog 17 #[.int .i8 n] w fun e w' => e = .returned (.int .i64 n.natAbs) ∧ w' = w := by
  go_enter Tryz.func17, Tryz.ntmps17
  go_wp2
  all_goals
    go_ret
    refine ⟨?_, rfl⟩
    show Ending.returned (.int .i64 _) = _
    congr 2
    omega
end Go.Proofs.YtaokhbanpfmkmaaGreat

namespace Go.Proofs.YtaokhbanpfmkmaaGreat
set_option linter.unusedVariables false
set_option linter.unusedSimpArgs false
open Ev

/-! A map of numbers, entry by entry. -/
theorem eqK_int (a b : Int) : eqK Tryz.prog 3 (.int .i64) (.int .i64 a) (.int .i64 b) = some (a == b) := by
  unfold eqK Instr.sameNow
  simp
  rfl
/-- The entries of a map of numbers, the first laid first. -/
def entL : Nat → List (Int × Int) → List MapEntry
  | _, [] => []
  | n, x :: l => { key := .int .i64 x.1, val := .int .i64 x.2, born := n } :: entL (n + 1) l
/-- The value at a number, and its place. -/
def fnd (a : Int) : Nat → List (Int × Int) → Option (Nat × Value)
  | _, [] => none
  | i, x :: l => if a = x.1 then some (i, .int .i64 x.2) else fnd a (i + 1) l
theorem findK_ints (a : Int) : ∀ (l : List (Int × Int)) (n i : Nat), findK Tryz.prog 3 (.int .i64) (.int .i64 a) (entL n l) i = some (fnd a i l) := by
  intro l
  induction l with
  | nil => intro n i; rfl
  | cons x l ih =>
    intro n i
    unfold entL findK fnd
    rw [eqK_int, ih (n + 1) (i + 1)]
    by_cases h : a = x.1
    · simp [h]; rfl
    · rw [if_neg h, beq_eq_false_iff_ne.2 h]; rfl
theorem fnd_int (a : Int) : ∀ (l : List (Int × Int)) (i : Nat) (p : Nat × Value), fnd a i l = some p → ∃ v : Int, p.2 = .int .i64 v := by
  intro l
  induction l with
  | nil => intro i p h; cases h
  | cons x l ih =>
    intro i p h
    unfold fnd at h
    split at h
    · cases h; exact ⟨_, rfl⟩
    · exact ih _ _ h
theorem renE_ints (μ : Mu) : ∀ (l : List (Int × Int)) (n : Nat), (entL n l).map (renE μ) = entL n l := by
  intro l
  induction l with
  | nil => intro n; rfl
  | cons x l ih => intro n; unfold entL; rw [List.map_cons, ih]; simp [renE]
theorem entL_push : ∀ (l : List (Int × Int)) (n : Nat) (x : Int × Int), entL n l ++ [{ key := .int .i64 x.1, val := .int .i64 x.2, born := n + l.length }] = entL n (l ++ [x]) := by
  intro l
  induction l with
  | nil => intro n x; rfl
  | cons y l ih => intro n x; simp only [entL, List.cons_append]; rw [← ih (n + 1) x, show n + (y :: l).length = n + 1 + l.length by simp; omega]
theorem run_upd {w : World} {b : Nat} {l : List (Int × Int)} (h : w.heap[b]? = some (.map (entL 0 l).toArray l.length)) (x : Int × Int) (hf : fnd x.1 0 l = none) :
    (Instr.mapUpdate 69 (.map (some b)) (.int .i64 x.1) (.int .i64 x.2)).run Tryz.prog w = .ok () { w with heap := w.heap.setIfInBounds b (.map (entL 0 (l ++ [x])).toArray (l ++ [x]).length) } := by
  have hk := fun w => run_keyOk (P := Tryz.prog) (k := .int .i64 x.1) (e := false) Tryz.underlying3 (by rfl) w
  have hq := fun w => run_findK (P := Tryz.prog) (μ := fun id => ⟨id, 0, 0⟩) Tryz.underlying3 (findK_ints x.1 l 0 0) w
  simp only [renE_ints, hf] at hq
  unfold Instr.mapUpdate
  simp only [Sem.run_bind, run_underlying Tryz.underlying69, Result.andThen_ok, run_getMap h, hk, hq, Option.map_none, run_setMap _ h]
  have := entL_push l 0 x
  rw [Nat.zero_add] at this
  rw [← this]
  simp
theorem run_look {w : World} {b : Nat} {l : List (Int × Int)} (h : w.heap[b]? = some (.map (entL 0 l).toArray l.length)) (a : Int) :
    (Instr.lookup 69 (.map (some b)) (.int .i64 a) true).run Tryz.prog w = .ok (.tuple (match fnd a 0 l with | some (_, v) => #[v, .bool true] | none => #[.int .i64 0, .bool false])) w := by
  have hk := fun e w => run_keyOk (P := Tryz.prog) (k := .int .i64 a) (e := e) Tryz.underlying3 (by rfl) w
  have hq := fun w => run_findK (P := Tryz.prog) (μ := fun id => ⟨id, 0, 0⟩) Tryz.underlying3 (findK_ints a l 0 0) w
  simp only [renE_ints] at hq
  have hz : ∀ w, (zeroValue 3).run Tryz.prog w = .ok (.int .i64 0) w := fun w => (run_zeroV (P := Tryz.prog) (t := 3) (z := .int .i64 0) (by kernel_rfl) w).1
  unfold Instr.lookup
  simp only [Sem.run_bind, run_underlying Tryz.underlying69, Result.andThen_ok, run_getMap h, hk, hq]
  rw [Sem.run_pure, Result.andThen_ok]
  simp only [List.toList_toArray, hq, Result.andThen_ok]
  cases hc : fnd a 0 l with
  | none => simp [hz]
  | some p =>
    obtain ⟨v, hv⟩ := fnd_int a l 0 p hc
    simp [hv]
end Go.Proofs.YtaokhbanpfmkmaaGreat

namespace Go.Proofs.YtaokhbanpfmkmaaGreat
set_option linter.unusedVariables false
set_option linter.unusedSimpArgs false
open Go.RowKit

theorem ins_step {w : World} {b : Nat} {l : List (Int × Int)} (h : w.heap[b]? = some (.map (entL 0 l).toArray l.length)) (k v : Int) (hf : fnd k 0 l = none) :
    ∃ w', (Instr.mapUpdate 69 (.map (some b)) (.int .i64 k) (.int .i64 v)).run Tryz.prog w = .ok () w' ∧ w'.heap[b]? = some (.map (entL 0 (l ++ [(k, v)])).toArray (l ++ [(k, v)]).length) ∧
      (∀ j, j ≠ b → w'.heap[j]? = w.heap[j]?) ∧ w'.heap.size = w.heap.size ∧ w'.os = w.os ∧ w'.tape = w.tape ∧ w'.output = w.output := by
  have hlt : b < w.heap.size := by
    rcases Nat.lt_or_ge b w.heap.size with g | g
    · exact g
    · rw [Array.getElem?_eq_none g] at h; cases h
  exact ⟨_, run_upd h (k, v) hf, by simp [Array.getElem?_setIfInBounds, hlt], fun j hj => by simp [Array.getElem?_setIfInBounds, hj.symm], by simp, rfl, rfl, rfl⟩

def needL : List (Int × Int) := [(5, 4), (8, 4), (6, 5), (10, 5), (7, 6)]
def wantOf (n : Int) : Option Int := if n = 5 then some 4 else if n = 8 then some 4 else if n = 6 then some 5 else if n = 10 then some 5 else if n = 7 then some 6 else none
theorem needs_map (w : World) (x : Obj) : ∃ w1 w2 w3 w4 w5, (Instr.mapUpdate 69 (.map (some (w.heap.size + 1))) (.int .i64 5) (.int .i64 4)).run Tryz.prog ((w.alloc x).alloc (.map #[] 0)) = .ok () w1 ∧
    (Instr.mapUpdate 69 (.map (some (w.heap.size + 1))) (.int .i64 8) (.int .i64 4)).run Tryz.prog w1 = .ok () w2 ∧
    (Instr.mapUpdate 69 (.map (some (w.heap.size + 1))) (.int .i64 6) (.int .i64 5)).run Tryz.prog w2 = .ok () w3 ∧
    (Instr.mapUpdate 69 (.map (some (w.heap.size + 1))) (.int .i64 10) (.int .i64 5)).run Tryz.prog w3 = .ok () w4 ∧
    (Instr.mapUpdate 69 (.map (some (w.heap.size + 1))) (.int .i64 7) (.int .i64 6)).run Tryz.prog w4 = .ok () w5 ∧
    w5.heap[w.heap.size + 1]? = some (.map (entL 0 needL).toArray 5) ∧ w5.heap[w.heap.size]? = some x ∧ Below w.heap.size w w5 := by
  have h0 : ((w.alloc x).alloc (.map #[] 0)).heap[w.heap.size + 1]? = some (.map (entL 0 []).toArray ([] : List (Int × Int)).length) := by
    show ((w.heap.push x).push _)[w.heap.size + 1]? = _
    rw [Array.getElem?_push, if_pos (by simp)]; rfl
  have s0 : ((w.alloc x).alloc (.map #[] 0)).heap.size = w.heap.size + 2 := by show ((w.heap.push x).push _).size = _; simp
  obtain ⟨w1, a1, b1, c1, d1, e1, f1, g1⟩ := ins_step h0 5 4 (by rfl)
  obtain ⟨w2, a2, b2, c2, d2, e2, f2, g2⟩ := ins_step b1 8 4 (by rfl)
  obtain ⟨w3, a3, b3, c3, d3, e3, f3, g3⟩ := ins_step b2 6 5 (by rfl)
  obtain ⟨w4, a4, b4, c4, d4, e4, f4, g4⟩ := ins_step b3 10 5 (by rfl)
  obtain ⟨w5, a5, b5, c5, d5, e5, f5, g5⟩ := ins_step b4 7 6 (by rfl)
  have old : ∀ j, j ≠ w.heap.size + 1 → w5.heap[j]? = ((w.alloc x).alloc (.map #[] 0)).heap[j]? := fun j hj => by rw [c5 j hj, c4 j hj, c3 j hj, c2 j hj, c1 j hj]
  have at0 : ∀ j, j < w.heap.size + 1 → ((w.alloc x).alloc (.map #[] 0)).heap[j]? = (w.heap.push x)[j]? := fun j hj => by
    show ((w.heap.push x).push _)[j]? = _
    rw [Array.getElem?_push, if_neg (by simp; omega)]
  refine ⟨w1, w2, w3, w4, w5, a1, a2, a3, a4, a5, b5, ?_, ?_⟩
  · rw [old _ (by omega), at0 _ (by omega), Array.getElem?_push, if_pos rfl]
  · refine ⟨by rw [e5, e4, e3, e2, e1]; rfl, by rw [f5, f4, f3, f2, f1]; rfl, by rw [g5, g4, g3, g2, g1]; rfl, by omega, fun k hk => ?_⟩
    rw [old _ (by omega), at0 _ (by omega), Array.getElem?_push, if_neg (by omega)]


set_option maxRecDepth 8000 in
set_option maxHeartbeats 4000000 in
theorem needs_none (n : Int) (p o : Value) (w : World) (hn : fnd n 0 needL = none) : Calls Tryz.prog 5 #[.agg #[.int .i64 n, p, o]] w fun e w' => e = .returned (.slice none 0 0) ∧ Below w.heap.size w w' := by
  have hmm := @run_makeMap Tryz.prog
  obtain ⟨w1, w2, w3, w4, w5, a1, a2, a3, a4, a5, b5, hx, hb⟩ := needs_map w (.cells #[.int .i64 n, p, o] 34)
  have hl := run_look b5 n
  simp only [hn] at hl
  have hc : w5.cell? ⟨w.heap.size, 0, none⟩ = some (.int .i64 n) := by simp [World.cell?, hx]
  have B : Aside (Below w.heap.size w w5) := hb
  clear hb
  go_enter Tryz.func5, Tryz.ntmps5
  go_wp2
  all_goals
    go_ret
    exact ⟨rfl, B.out⟩

set_option maxRecDepth 8000 in
set_option maxHeartbeats 4000000 in
theorem needs_some (n k : Int) (i : Nat) (p o : Value) (w : World) (hn : fnd n 0 needL = some (i, .int .i64 k)) : Calls Tryz.prog 5 #[.agg #[.int .i64 n, p, o]] w fun e w' => ∃ b, e = .returned (.slice (some ⟨b, 0, none⟩) 1 1) ∧
    w.heap.size ≤ b ∧ w'.heap[b]? = some (.cells #[.int .i64 k, .slice none 0 0, .slice none 0 0] 34 (0, 0)) ∧ Below w.heap.size w w' := by
  have hmm := @run_makeMap Tryz.prog
  obtain ⟨w1, w2, w3, w4, w5, a1, a2, a3, a4, a5, b5, hx, hb⟩ := needs_map w (.cells #[.int .i64 n, p, o] 34)
  have hl := run_look b5 n
  simp only [hn] at hl
  have hc : w5.cell? ⟨w.heap.size, 0, none⟩ = some (.int .i64 n) := by simp [World.cell?, hx]
  have B : Aside (Below w.heap.size w w5) := hb
  clear hb
  go_enter Tryz.func5, Tryz.ntmps5
  go_wp2
  go_ret
  refine ⟨w5.heap.size, rfl, B.out.size, ?_, B.out.alloc B.out.size _⟩
  show (w5.heap.push _)[w5.heap.size]? = _
  rw [Array.getElem?_push, if_pos rfl]
end Go.Proofs.YtaokhbanpfmkmaaGreat

namespace Go.Proofs.YtaokhbanpfmkmaaGreat
set_option linter.unusedVariables false
set_option linter.unusedSimpArgs false
open Go.RowKit

/-- What is asked of Made. -/
def MadeOk (T : Value) (w : World) : Prop := ∀ w1, Below w.heap.size w w1 → Calls Tryz.prog 6 #[.agg #[T], .int .i64 2, .int .i64 2, .int .i64 3] w1 fun e w' => (∃ a l c, e = .returned (.slice a l c)) ∧ Below w1.heap.size w1 w'

end Go.Proofs.YtaokhbanpfmkmaaGreat
namespace Go.RowKit
theorem Below.then {w w' w2 : World} (h : Below w.heap.size w w') (h2 : Below w'.heap.size w' w2) : Below w.heap.size w w2 :=
  ⟨h2.os.trans h.os, h2.tape.trans h.tape, h2.output.trans h.output, Nat.le_trans h.size h2.size, fun k hk => by rw [h2.block k (by have := h.size; omega), h.block k hk]⟩
end Go.RowKit
namespace Go.Proofs.YtaokhbanpfmkmaaGreat
set_option linter.unusedVariables false
set_option linter.unusedSimpArgs false
open Go.RowKit
theorem cell_at {w : World} {b t : Nat} {cs : Array Value} (h : w.heap[b]? = some (.cells cs t (0, 0))) (i : Nat) {v : Value} (hv : cs[i]? = some v) : w.cell? ⟨b, i, none⟩ = some v := by
  simp [World.cell?, h, hv]
set_option maxRecDepth 8000 in
set_option maxHeartbeats 8000000 in
theorem law_none (n : Int) (T : Value) (w : World) (hm : MadeOk T w)
    (hs : ∀ w : World, Calls Tryz.prog 4 #[] w fun e w' => e = .returned (.bool true) ∧ Below w.heap.size w w') (hn : fnd n 0 needL = none) (h5 : n ≠ 5) (h6 : n ≠ 6) (h7 : n ≠ 7) (h8 : n ≠ 8) (h10 : n ≠ 10) :
    Calls Tryz.prog 3 #[.int .i64 n, .agg #[T]] w fun e w' => e = .returned (.bool true) ∧ Below w.heap.size w w' := by
  have B0 : Aside (Below w.heap.size w (w.alloc (.cells #[T] 24))) := (Below.refl _ w).alloc (Nat.le_refl _) _
  have hrow : (w.alloc (.cells #[T] 24)).heap[w.heap.size]? = some (.cells #[T] 24 (0, 0)) := by
    show (w.heap.push _)[w.heap.size]? = _; rw [Array.getElem?_push, if_pos rfl]
  have hsz : (w.alloc (.cells #[T] 24)).heap.size = w.heap.size + 1 := by show (w.heap.push _).size = _; simp
  go_enter Tryz.func3, Tryz.ntmps3
  go_wp2_with (first
    | (go_at_call 4; refine (hs _).mono ?_; rintro e w1 ⟨rfl, hb1⟩
       have hc : w1.cell? ⟨w.heap.size, 0, none⟩ = some T := by
         unfold World.cell?; simp only [hb1.block w.heap.size (by omega), hrow]; rfl
       have B1 : Aside (Below w.heap.size w w1) := B0.out.then hb1)
    | (go_at_call 6; refine (hm _ ‹Aside (Below w.heap.size w _)›.out).mono ?_; rintro e w2 ⟨⟨a2, l2, c2, rfl⟩, hb2⟩
       have B2 : Aside (Below w.heap.size w w2) := ‹Aside (Below w.heap.size w _)›.out.then hb2)
    | (go_at_call 5; refine (needs_none n _ _ _ hn).mono ?_; rintro e w3 ⟨rfl, hb3⟩; have B3 : Aside (Below w.heap.size w w3) := ‹Aside (Below w.heap.size w w2)›.out.then hb3))
  all_goals
    go_ret
    exact ⟨rfl, by assumption⟩
set_option maxRecDepth 8000 in
set_option maxHeartbeats 8000000 in
theorem law_some (n k : Int) (T : Value) (w : World) (hm : MadeOk T w)
    (hs : ∀ w : World, Calls Tryz.prog 4 #[] w fun e w' => e = .returned (.bool true) ∧ Below w.heap.size w w') (hn : (n, k) ∈ needL) :
    Calls Tryz.prog 3 #[.int .i64 n, .agg #[T]] w fun e w' => e = .returned (.bool true) ∧ Below w.heap.size w w' := by
  have B0 : Aside (Below w.heap.size w (w.alloc (.cells #[T] 24))) := (Below.refl _ w).alloc (Nat.le_refl _) _
  have hrow : (w.alloc (.cells #[T] 24)).heap[w.heap.size]? = some (.cells #[T] 24 (0, 0)) := by
    show (w.heap.push _)[w.heap.size]? = _; rw [Array.getElem?_push, if_pos rfl]
  have hsz : (w.alloc (.cells #[T] 24)).heap.size = w.heap.size + 1 := by show (w.heap.push _).size = _; simp
  have hf : ∃ i, fnd n 0 needL = some (i, .int .i64 k) := by
    simp [needL] at hn
    rcases hn with ⟨rfl, rfl⟩ | ⟨rfl, rfl⟩ | ⟨rfl, rfl⟩ | ⟨rfl, rfl⟩ | ⟨rfl, rfl⟩ <;> exact ⟨_, rfl⟩
  obtain ⟨i, hf⟩ := hf
  simp [needL] at hn
  rcases hn with ⟨rfl, rfl⟩ | ⟨rfl, rfl⟩ | ⟨rfl, rfl⟩ | ⟨rfl, rfl⟩ | ⟨rfl, rfl⟩
  all_goals
   go_enter Tryz.func3, Tryz.ntmps3
   go_wp2_with (first
     | (go_at_call 4; refine (hs _).mono ?_; rintro e w1 ⟨rfl, hb1⟩
        have hc : w1.cell? ⟨w.heap.size, 0, none⟩ = some T := by
          unfold World.cell?; simp only [hb1.block w.heap.size (by omega), hrow]; rfl
        have B1 : Aside (Below w.heap.size w w1) := B0.out.then hb1)
     | (go_at_call 6; refine (hm _ ‹Aside (Below w.heap.size w _)›.out).mono ?_; rintro e w2 ⟨⟨a2, l2, c2, rfl⟩, hb2⟩
        have B2 : Aside (Below w.heap.size w w2) := ‹Aside (Below w.heap.size w _)›.out.then hb2)
     | (go_at_call 5; refine (needs_some _ _ i _ _ _ hf).mono ?_; rintro e w3 ⟨b3, rfl, hbb, hb4, hb3⟩
        have B3 : Aside (Below w.heap.size w w3) := ‹Aside (Below w.heap.size w w2)›.out.then hb3
        have k0 := cell_at hb4 0 rfl
        have k1 := cell_at hb4 1 rfl
        have k2 := cell_at hb4 2 rfl))
   all_goals
     go_ret
     exact ⟨rfl, by assumption⟩
end Go.Proofs.YtaokhbanpfmkmaaGreat

namespace Go.Proofs.YtaokhbanpfmkmaaGreat
set_option linter.unusedVariables false
set_option linter.unusedSimpArgs false
open Go.RowKit

theorem law_calls (n : Int) (T : Value) (w : World) (hm : MadeOk T w)
    (hs : ∀ w : World, Calls Tryz.prog 4 #[] w fun e w' => e = .returned (.bool true) ∧ Below w.heap.size w w') :
    Calls Tryz.prog 3 #[.int .i64 n, .agg #[T]] w fun e w' => e = .returned (.bool true) ∧ Below w.heap.size w w' := by
  by_cases h5 : n = 5
  · exact law_some n 4 T w hm hs (by simp [needL, h5])
  by_cases h8 : n = 8
  · exact law_some n 4 T w hm hs (by simp [needL, h8])
  by_cases h6 : n = 6
  · exact law_some n 5 T w hm hs (by simp [needL, h6])
  by_cases h10 : n = 10
  · exact law_some n 5 T w hm hs (by simp [needL, h10])
  by_cases h7 : n = 7
  · exact law_some n 6 T w hm hs (by simp [needL, h7])
  exact law_none n T w hm hs (by simp [needL, fnd, h5, h6, h7, h8, h10]) h5 h6 h7 h8 h10
end Go.Proofs.YtaokhbanpfmkmaaGreat
