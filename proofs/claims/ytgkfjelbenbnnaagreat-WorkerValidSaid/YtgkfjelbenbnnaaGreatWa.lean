/- worker.Valid says of every pool whether it is valid, and writes nothing that was there. -/
import Derived.Test.YtgkfjelbenbnnaaGreatRows
import Derived.WalkKit
import Derived.WalkSpells
import Derived.WalkLawsBesides
import Derived.Laws.CopyRow
import Derived.Deep.LoopGhost
import Derived.OneCell
namespace Go.Proofs.YtgkfjelbenbnnaaGreat
set_option linter.unusedVariables false
set_option linter.unusedSimpArgs false
open Go.RowKit

/-- What the closure says of a lease. -/
def badB (a b c d e id next : Int) : Bool :=
  decide (a ≤ id) || decide (next ≤ a) || decide (b < 1) || decide (c < 1) || decide (1000 < c) || decide (d < 0) || decide (12 < d) || decide (e < 20) || decide (1000000020 < e)

set_option maxHeartbeats 4000000 in
theorem f15_calls (a b c d e id next : Int) (o : Bool) (bi bp : Nat) (w : World) (hi : bi < w.heap.size) (hp : bp < w.heap.size) (hne : bi ≠ bp)
    (ci : w.cell? ⟨bi, 0, none⟩ = some (.int .i64 id)) (cp : w.cell? ⟨bp, 1, none⟩ = some (.int .i64 next)) (fi : w.frozen? ⟨bi, 0, none⟩ = false) :
    Calls Tryz.prog 15 #[.agg #[.int .i64 a, .int .i64 b, .int .i64 c, .int .i64 d, .int .i64 e, .bool o], .pointer (some ⟨bi, 0, none⟩), .pointer (some ⟨bp, 0, none⟩)] w fun r w' =>
      r = .returned (.bool (badB a b c d e id next)) ∧ w' = (w.setCell ⟨bi, 0, none⟩ (.int .i64 a)).alloc (.cells #[.int .i64 a, .int .i64 b, .int .i64 c, .int .i64 d, .int .i64 e, .bool o] 47) := by
  go_enter Tryz.func15, Tryz.ntmps15
  go_wp2
  all_goals (go_ret; exact ⟨by simp_all [badB], rfl⟩)

/-- A lease. -/
structure Ls where
  a : Int
  b : Int
  c : Int
  d : Int
  e : Int
  o : Bool

def Ls.cs (x : Ls) : List Value := [.int .i64 x.a, .int .i64 x.b, .int .i64 x.c, .int .i64 x.d, .int .i64 x.e, .bool x.o]
def Ls.bad (x : Ls) (id next : Int) : Bool := badB x.a x.b x.c x.d x.e id next
/-- The number ahead of the i-th lease. -/
def prevId (z : Nat → Ls) : Nat → Int
  | 0 => 0
  | k + 1 => (z k).a

/-- All but the block bi is as it was. -/
structure But (bi : Nat) (w w' : World) : Prop where
  os : w'.os = w.os
  tape : w'.tape = w.tape
  output : w'.output = w.output
  size : w.heap.size ≤ w'.heap.size
  block : ∀ k, k < w.heap.size → k ≠ bi → w'.heap[k]? = w.heap[k]?

theorem But.refl (bi : Nat) (w : World) : But bi w w := ⟨rfl, rfl, rfl, Nat.le_refl _, fun _ _ _ => rfl⟩
theorem But.cell {bi : Nat} {w w' : World} (h : But bi w w') {p : Addr} (h1 : p.block < w.heap.size) (h2 : p.block ≠ bi) : w'.cell? p = w.cell? p := by
  unfold World.cell?
  rw [h.block p.block h1 h2]

theorem But.step {bi : Nat} {w w' : World} (h : But bi w w') (v : Value) (o : Obj) : But bi w ((w'.setCell ⟨bi, 0, none⟩ v).alloc o) := by
  refine ⟨h.os, h.tape, h.output, ?_, fun k hk hne => ?_⟩
  · have := h.size
    simp [World.alloc]; omega
  · have h1 := h.size
    have : ((w'.setCell ⟨bi, 0, none⟩ v).alloc o).heap[k]? = (w'.setCell ⟨bi, 0, none⟩ v).heap[k]? := by
      simp only [World.alloc]
      rw [Array.getElem?_push, if_neg]
      simp; omega
    rw [this, Below.heap_setCell w' ⟨bi, 0, none⟩ v k hne, h.block k hk hne]
theorem row_step {bi : Nat} {w' : World} {u : Value} (h : w'.heap[bi]? = some (.cells #[u] 3 (0, 0))) (hs : bi < w'.heap.size) (v : Value) (o : Obj) : ((w'.setCell ⟨bi, 0, none⟩ v).alloc o).heap[bi]? = some (.cells #[v] 3 (0, 0)) := by
  have : ((w'.setCell ⟨bi, 0, none⟩ v).alloc o).heap[bi]? = (w'.setCell ⟨bi, 0, none⟩ v).heap[bi]? := by
    simp only [World.alloc]
    rw [Array.getElem?_push, if_neg]
    simp; omega
  rw [this]
  exact one_setCell h

set_option maxHeartbeats 4000000 in
theorem f42_calls (z : Nat → Ls) (next : Int) (b off n cap bi bp : Nat) (w : World) (hn : n ≤ 1000000) (hi : bi < w.heap.size) (hp : bp < w.heap.size) (hb : b < w.heap.size) (h1 : bi ≠ bp) (h2 : b ≠ bi)
    (ci : w.heap[bi]? = some (.cells #[.int .i64 0] 3 (0, 0))) (cp : w.cell? ⟨bp, 1, none⟩ = some (.int .i64 next))
    (hz : ∀ k, k < n → ∀ j v, (z k).cs[j]? = some v → w.cell? ⟨b, off + k * 6 + j, none⟩ = some v) :
    Calls Tryz.prog 42 #[.slice (some ⟨b, off, none⟩) n cap, .func (.func 15) #[] #[.pointer (some ⟨bi, 0, none⟩), .pointer (some ⟨bp, 0, none⟩)]] w fun r w' =>
      (∃ q : Int, r = .returned (.int .i64 q) ∧ (q < 0 ↔ ∀ k, k < n → (z k).bad (prevId z k) next = false)) ∧ But bi w w' := by
  go_enter Tryz.func42, Tryz.ntmps42
  go_wp2
  go_loopw [8] (fun i wr => ∃ k : Nat, k ≤ n ∧ i = .int .i64 k ∧ But bi w wr ∧ wr.heap[bi]? = some (.cells #[.int .i64 (prevId z k)] 3 (0, 0)) ∧ ∀ j, j < k → (z j).bad (prevId z j) next = false) (fun i _ => n - (intOf i).toNat)
  case atStart => exact ⟨0, Nat.zero_le _, rfl, But.refl _ _, ci, by omega⟩
  case round =>
    obtain ⟨k, hk, rfl, hbut, hrow, hall⟩ := hrel
    have hci : wr.cell? ⟨bi, 0, none⟩ = some (.int .i64 (prevId z k)) := by simp [World.cell?, hrow]
    have hfi : wr.frozen? ⟨bi, 0, none⟩ = false := by simp [World.frozen?, hrow]
    have hcp : wr.cell? ⟨bp, 1, none⟩ = some (.int .i64 next) := (hbut.cell (p := ⟨bp, 1, none⟩) hp (Ne.symm h1)).trans cp
    have hsz := hbut.size
    have hcell : ∀ j v, k < n → (z k).cs[j]? = some v → wr.cell? ⟨b, off + k * 6 + j, none⟩ = some v := fun j v hkn hv =>
      (hbut.cell (p := ⟨b, off + k * 6 + j, none⟩) hb h2).trans (hz k hkn j v hv)
    have l0 : k < n → wr.cell? ⟨b, off + k * 6, none⟩ = some (.int .i64 (z k).a) := fun h => hcell 0 _ h rfl
    have l1 : k < n → wr.cell? ⟨b, off + k * 6 + 1, none⟩ = some (.int .i64 (z k).b) := fun h => hcell 1 _ h rfl
    have l2 : k < n → wr.cell? ⟨b, off + k * 6 + 2, none⟩ = some (.int .i64 (z k).c) := fun h => hcell 2 _ h rfl
    have l3 : k < n → wr.cell? ⟨b, off + k * 6 + 3, none⟩ = some (.int .i64 (z k).d) := fun h => hcell 3 _ h rfl
    have l4 : k < n → wr.cell? ⟨b, off + k * 6 + 4, none⟩ = some (.int .i64 (z k).e) := fun h => hcell 4 _ h rfl
    have l5 : k < n → wr.cell? ⟨b, off + k * 6 + 5, none⟩ = some (.bool (z k).o) := fun h => hcell 5 _ h rfl
    have hclos := f15_calls (z k).a (z k).b (z k).c (z k).d (z k).e (prevId z k) next (z k).o bi bp wr (by omega) (by omega) h1 hci hcp hfi
    have A : Aside (But bi w wr ∧ But bi w ((wr.setCell ⟨bi, 0, none⟩ (.int .i64 (z k).a)).alloc (.cells #[.int .i64 (z k).a, .int .i64 (z k).b, .int .i64 (z k).c, .int .i64 (z k).d, .int .i64 (z k).e, .bool (z k).o] 47)) ∧
        ((wr.setCell ⟨bi, 0, none⟩ (.int .i64 (z k).a)).alloc (.cells #[.int .i64 (z k).a, .int .i64 (z k).b, .int .i64 (z k).c, .int .i64 (z k).d, .int .i64 (z k).e, .bool (z k).o] 47)).heap[bi]? = some (.cells #[.int .i64 (z k).a] 3 (0, 0)) ∧
        ∀ j, j < k → (z j).bad (prevId z j) next = false) :=
      ⟨hbut, hbut.step (.int .i64 (z k).a) _, row_step hrow (by omega) _ _, hall⟩
    clear hz hbut hci hcp hfi hcell hrow hall
    go_wp2_with (go_at_call 15; refine hclos.mono ?_; rintro e w' ⟨rfl, rfl⟩)
    · obtain ⟨A1, A2, A3, A4⟩ := A.out
      go_ret
      have hkn : k < n := by assumption
      have hbad : badB (z k).a (z k).b (z k).c (z k).d (z k).e (prevId z k) next = true := by assumption
      refine ⟨⟨_, rfl, ?_⟩, A2⟩
      constructor
      · intro h; omega
      · intro h
        have := h k hkn
        unfold Ls.bad at this
        rw [hbad] at this; cases this
    · obtain ⟨A1, A2, A3, A4⟩ := A.out
      have hkn : k < n := by assumption
      have hbad : badB (z k).a (z k).b (z k).c (z k).d (z k).e (prevId z k) next = false := by first | assumption | simp_all
      go_roundw
      case rel =>
        refine ⟨k + 1, by omega, by go_num, A2, A3, fun j hj => ?_⟩
        rcases Nat.lt_or_ge j k with h | h
        · exact A4 j h
        · rw [show j = k from by omega]; exact hbad
      case measure => simp [intOf]; omega
    · obtain ⟨A1, A2, A3, A4⟩ := A.out
      have hkn : ¬ k < n := by first | assumption | omega
      go_wp2
      go_ret
      refine ⟨⟨_, rfl, ?_⟩, A1⟩
      constructor
      · intro _ j hj; exact A4 j (by omega)
      · intro _; omega

set_option maxHeartbeats 4000000 in
/-- No lease. -/
theorem f42_nil (fv : Value) (a0 : Option Addr) (cap bi : Nat) (w : World) :
    Calls Tryz.prog 42 #[.slice a0 0 cap, fv] w fun r w' => (∃ q : Int, r = .returned (.int .i64 q) ∧ q < 0) ∧ But bi w w' := by
  go_enter Tryz.func42, Tryz.ntmps42
  go_wp2
  go_loopw [8] (fun i wr => i = .int .i64 0 ∧ wr = w) (fun i _ => 0)
  case atStart => exact ⟨rfl, rfl⟩
  case round =>
    obtain ⟨rfl, rfl⟩ := hrel
    go_wp2
    go_ret
    exact ⟨⟨_, rfl, by omega⟩, But.refl _ _⟩

set_option maxHeartbeats 4000000 in
theorem f14_calls (sl fv : Value) (bi : Nat) (w : World) (p : Int → Prop) (hc : Calls Tryz.prog 42 #[sl, fv] w fun r w' => (∃ q : Int, r = .returned (.int .i64 q) ∧ p q) ∧ But bi w w') :
    Calls Tryz.prog 14 #[sl, fv] w fun r w' => (∃ q : Int, r = .returned (.int .i64 q) ∧ p q) ∧ But bi w w' := by
  go_enter Tryz.func14, Tryz.ntmps14
  go_wp2_with (go_at_call 42; refine hc.mono ?_; rintro e w' ⟨⟨q, rfl, hq⟩, hb⟩)
  go_ret
  exact ⟨⟨_, rfl, hq⟩, hb⟩

/-- A pool is valid. -/
def Good (z : Nat → Ls) (next : Int) (n : Nat) : Prop := 1 ≤ next ∧ next ≤ 1000000 ∧ n ≤ 200 ∧ ∀ k, k < n → (z k).bad (prevId z k) next = false

/-- The answer says whether p holds. -/
def Ans (p : Prop) (r : Ending) : Prop := ∃ v : Bool, r = .returned (.bool v) ∧ (v = true ↔ p)

/-- The leases of a slice lie in memory. -/
def Lies (z : Nat → Ls) (sl : Value) (n : Nat) (w : World) : Prop :=
  (n = 0 ∧ ∃ a0 cap, sl = .slice a0 0 cap) ∨ ∃ b off cap, sl = .slice (some ⟨b, off, none⟩) n cap ∧ b < w.heap.size ∧ ∀ k, k < n → ∀ j v, (z k).cs[j]? = some v → w.cell? ⟨b, off + k * 6 + j, none⟩ = some v

theorem find_calls (z : Nat → Ls) (next : Int) (sl : Value) (n bi bp : Nat) (w0 w : World) (hl : Lies z sl n w0) (hs : w0.heap.size ≤ bi) (hbel : Below w0.heap.size w0 w) (hn : n ≤ 1000000) (hi : bi < w.heap.size) (hp : bp < w.heap.size) (h1 : bi ≠ bp)
    (ci : w.heap[bi]? = some (.cells #[.int .i64 0] 3 (0, 0))) (cp : w.cell? ⟨bp, 1, none⟩ = some (.int .i64 next)) :
    Calls Tryz.prog 14 #[sl, .func (.func 15) #[] #[.pointer (some ⟨bi, 0, none⟩), .pointer (some ⟨bp, 0, none⟩)]] w fun r w' =>
      (∃ q : Int, r = .returned (.int .i64 q) ∧ (q < 0 ↔ ∀ k, k < n → (z k).bad (prevId z k) next = false)) ∧ But bi w w' := by
  refine f14_calls sl _ bi w _ ?_
  rcases hl with ⟨rfl, a0, cap, rfl⟩ | ⟨b, off, cap, rfl, hb, hz⟩
  · refine (f42_nil _ a0 cap bi w).mono fun e w' ⟨⟨q, h1, h2⟩, h3⟩ => ⟨⟨q, h1, ⟨fun _ k hk => by omega, fun _ => h2⟩⟩, h3⟩
  · have hsz := hbel.size
    refine f42_calls z next b off n cap bi bp w hn hi hp (by omega) h1 (by omega) ci cp fun k hk j v hv => ?_
    rw [← hz k hk j v hv]
    exact hbel.cell (p := ⟨b, off + k * 6 + j, none⟩) hb

theorem lenV_of (z : Nat → Ls) (sl : Value) (n : Nat) (w : World) (hl : Lies z sl n w) : ∃ a cap, sl = .slice a n cap := by
  rcases hl with ⟨rfl, a0, cap, rfl⟩ | ⟨b, off, cap, rfl, _⟩
  · exact ⟨a0, cap, rfl⟩
  · exact ⟨_, cap, rfl⟩

theorem heap2 (w : World) (x y : Obj) : ((w.alloc x).alloc y).heap = (w.heap.push x).push y := rfl
theorem size2 (w : World) (x y : Obj) : ((w.alloc x).alloc y).heap.size = w.heap.size + 2 := by rw [heap2]; simp
theorem row2 (w : World) (x y : Obj) : ((w.alloc x).alloc y).heap[w.heap.size + 1]? = some y := by
  rw [heap2, Array.getElem?_push, if_pos (by simp)]
theorem cell2 (w : World) (u v : Value) {t : TypeId} {y : Obj} : ((w.alloc (.cells #[u, v] t)).alloc y).cell? ⟨w.heap.size, 1, none⟩ = some v := by
  unfold World.cell?
  simp only [heap2]
  rw [Array.getElem?_push, if_neg (by simp), Array.getElem?_push, if_pos rfl]
  rfl
theorem But.below {w w' : World} {x y : Obj} (h : But (w.heap.size + 1) ((w.alloc x).alloc y) w') : Below w.heap.size w w' := by
  refine ⟨h.os, h.tape, h.output, ?_, fun k hk => ?_⟩
  · have := h.size
    rw [size2] at this; omega
  · rw [h.block k (by rw [size2]; omega) (by omega), heap2, Array.getElem?_push, if_neg (by simp; omega), Array.getElem?_push, if_neg (by omega)]

set_option maxHeartbeats 4000000 in
theorem f5_calls (z : Nat → Ls) (next : Int) (sl : Value) (n : Nat) (w : World) (hl : Lies z sl n w) (hn : n ≤ 1000000) :
    Calls Tryz.prog 5 #[.agg #[sl, .int .i64 next]] w fun r w' => Ans (Good z next n) r ∧ Below w.heap.size w w' := by
  have hfind := find_calls z next sl n (w.heap.size + 1) w.heap.size w ((w.alloc (.cells #[sl, .int .i64 next] 25)).alloc (.cells #[.int .i64 0] 3)) hl (by omega)
    (((Below.refl _ w).alloc (Nat.le_refl _) _).alloc (by simp) _) hn (by rw [size2]; omega) (by rw [size2]; omega) (by omega) (row2 w _ _) (cell2 w _ _)
  have A : Aside (Lies z sl n w) := hl
  obtain ⟨a, cap, rfl⟩ := lenV_of z sl n w hl
  clear hl
  go_enter Tryz.func5, Tryz.ntmps5
  go_wp2_with (go_at_call 14; refine hfind.mono ?_; rintro e w' ⟨⟨q, rfl, hq⟩, hb⟩)
  all_goals go_ret
  any_goals
    refine ⟨⟨false, rfl, ?_⟩, (Below.refl _ w).alloc (Nat.le_refl _) _⟩
    unfold Good
    constructor
    · intro h; cases h
    · rintro ⟨g1, g2, g3, _⟩; omega
  refine ⟨⟨_, rfl, ?_⟩, hb.below⟩
  unfold Good
  rw [decide_eq_true_iff]
  constructor
  · intro h; exact ⟨by omega, by omega, by omega, h⟩
  · rintro ⟨_, _, _, h⟩; exact h

end Go.Proofs.YtgkfjelbenbnnaaGreat
