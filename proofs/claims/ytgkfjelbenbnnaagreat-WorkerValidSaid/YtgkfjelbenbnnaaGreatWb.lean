/- The reference Valid says of every pool whether it is valid, and writes nothing that was there. -/
import Derived.Test.YtgkfjelbenbnnaaGreatWa
import Derived.Test.YtgkfjelbenbnnaaGreatEvK
import Derived.Deep.QuietTactic
import Derived.BigQuiet
namespace Go.Proofs.YtgkfjelbenbnnaaGreat
set_option linter.unusedVariables false
set_option linter.unusedSimpArgs false
open Go.RowKit

theorem bad_iff {x : Ls} {id next : Int} : x.bad id next = true ↔ x.a ≤ id ∨ next ≤ x.a ∨ x.b < 1 ∨ x.c < 1 ∨ 1000 < x.c ∨ x.d < 0 ∨ 12 < x.d ∨ x.e < 20 ∨ 1000000020 < x.e := by
  simp [Ls.bad, badB, or_assoc]
theorem bad_not {x : Ls} {id next : Int} : x.bad id next = false ↔ ¬ (x.a ≤ id ∨ next ≤ x.a ∨ x.b < 1 ∨ x.c < 1 ∨ 1000 < x.c ∨ x.d < 0 ∨ 12 < x.d ∨ x.e < 20 ∨ 1000000020 < x.e) := by
  rw [← bad_iff, Bool.not_eq_true]
theorem notGood {z : Nat → Ls} {next : Int} {n k : Nat} (hk : k < n) (h : (z k).bad (prevId z k) next = true) : Ans (Good z next n) (.returned (.bool false)) :=
  ⟨false, rfl, ⟨fun h => (by cases h), fun ⟨_, _, _, g⟩ => (by rw [g k hk] at h; cases h)⟩⟩
theorem prev_nonneg {z : Nat → Ls} {next : Int} {k : Nat} (h : ∀ j, j < k → (z j).bad (prevId z j) next = false) : 0 ≤ prevId z k := by
  induction k with
  | zero => exact Int.le_refl 0
  | succ k ih =>
    have h1 := ih fun j hj => h j (by omega)
    have h2 := bad_not.1 (h k (by omega))
    show 0 ≤ (z k).a
    omega
theorem prev_pos {z : Nat → Ls} {k : Nat} (h : 0 < k) : prevId z k = (z (k - 1)).a := by
  cases k with
  | zero => omega
  | succ k => rfl
theorem prev_zero {z : Nat → Ls} {k : Nat} (h : ¬ 0 < k) : prevId z k = 0 := by
  cases k with
  | zero => rfl
  | succ k => omega

set_option maxRecDepth 4000 in
set_option maxHeartbeats 8000000 in
theorem f6_some (z : Nat → Ls) (next : Int) (b off n cap : Nat) (w : World) (hn : n ≤ 1000000) (hb : b < w.heap.size) (hz : ∀ k, k < n → ∀ j v, (z k).cs[j]? = some v → w.cell? ⟨b, off + k * 6 + j, none⟩ = some v) :
    Calls Tryz.prog 6 #[.agg #[.slice (some ⟨b, off, none⟩) n cap, .int .i64 next]] w fun r w' => Ans (Good z next n) r ∧ Below w.heap.size w w' := by
  have B0 : Aside (Below w.heap.size w (w.alloc (.cells #[.slice (some ⟨b, off, none⟩) n cap, .int .i64 next] 25))) := (Below.refl _ w).alloc (Nat.le_refl _) _
  have P0 : Aside ((w.alloc (.cells #[.slice (some ⟨b, off, none⟩) n cap, .int .i64 next] 25)).heap[w.heap.size]? = some (.cells #[.slice (some ⟨b, off, none⟩) n cap, .int .i64 next] 25 (0, 0))) := by
    unfold Aside; show (w.heap.push _)[w.heap.size]? = _; rw [Array.getElem?_push, if_pos rfl]
  go_enter Tryz.func6, Tryz.ntmps6
  go_wp2
  any_goals
    go_ret
    refine ⟨⟨false, rfl, ?_⟩, (Below.refl _ w).alloc (Nat.le_refl _) _⟩
    unfold Good
    constructor
    · intro h; cases h
    · rintro ⟨g1, g2, g3, _⟩; omega
  have N0 : Aside (1 ≤ next ∧ next ≤ 1000000 ∧ n ≤ 200) := by
    unfold Aside
    refine ⟨by omega, by omega, by omega⟩
  go_loopw [3] (fun i wr => ∃ k : Nat, k ≤ n ∧ i = .int .i64 k ∧ Hid (Below w.heap.size w wr ∧ wr.heap[w.heap.size]? = some (.cells #[.slice (some ⟨b, off, none⟩) n cap, .int .i64 next] 25 (0, 0)) ∧ ∀ j, j < k → (z j).bad (prevId z j) next = false)) (fun i _ => n - (intOf i).toNat)
  case atStart => exact ⟨0, Nat.zero_le _, rfl, B0.out, P0.out, by omega⟩
  case round =>
    obtain ⟨k, hk, rfl, hbel, hrow, hall⟩ := hrel
    have hsz := hbel.size
    have hlt : w.heap.size < wr.heap.size := by
      rcases Nat.lt_or_ge w.heap.size wr.heap.size with h | h
      · exact h
      · rw [Array.getElem?_eq_none h] at hrow; cases hrow
    have hbr : b < wr.heap.size := by omega
    have c0 : wr.cell? ⟨w.heap.size, 0, none⟩ = some (.slice (some ⟨b, off, none⟩) n cap) := by simp [World.cell?, hrow]
    have c1 : wr.cell? ⟨w.heap.size, 1, none⟩ = some (.int .i64 next) := by simp [World.cell?, hrow]
    have hcell : ∀ i j v, i < n → (z i).cs[j]? = some v → wr.cell? ⟨b, off + i * 6 + j, none⟩ = some v := fun i j v hkn hv =>
      (hbel.cell (p := ⟨b, off + i * 6 + j, none⟩) hb).trans (hz i hkn j v hv)
    have l0 : k < n → wr.cell? ⟨b, off + k * 6, none⟩ = some (.int .i64 (z k).a) := fun h => hcell k 0 _ h rfl
    have l1 : k < n → wr.cell? ⟨b, off + k * 6 + 1, none⟩ = some (.int .i64 (z k).b) := fun h => hcell k 1 _ h rfl
    have l2 : k < n → wr.cell? ⟨b, off + k * 6 + 2, none⟩ = some (.int .i64 (z k).c) := fun h => hcell k 2 _ h rfl
    have l3 : k < n → wr.cell? ⟨b, off + k * 6 + 3, none⟩ = some (.int .i64 (z k).d) := fun h => hcell k 3 _ h rfl
    have l4 : k < n → wr.cell? ⟨b, off + k * 6 + 4, none⟩ = some (.int .i64 (z k).e) := fun h => hcell k 4 _ h rfl
    have l5 : k < n → wr.cell? ⟨b, off + k * 6 + 5, none⟩ = some (.bool (z k).o) := fun h => hcell k 5 _ h rfl
    have A : Aside (Below w.heap.size w wr ∧ wr.heap[w.heap.size]? = some (.cells #[.slice (some ⟨b, off, none⟩) n cap, .int .i64 next] 25 (0, 0)) ∧ (∀ j, j < k → (z j).bad (prevId z j) next = false) ∧
        ∀ i j v, i < n → (z i).cs[j]? = some v → wr.cell? ⟨b, off + i * 6 + j, none⟩ = some v) := ⟨hbel, hrow, hall, hcell⟩
    have Wn : Aside (∀ q, Below w.heap.size w ((wr.alloc (.cells #[.int .i64 (z k).a, .int .i64 (z k).b, .int .i64 (z k).c, .int .i64 (z k).d, .int .i64 (z k).e, .bool (z k).o] 47)).drewN q) ∧
        ((wr.alloc (.cells #[.int .i64 (z k).a, .int .i64 (z k).b, .int .i64 (z k).c, .int .i64 (z k).d, .int .i64 (z k).e, .bool (z k).o] 47)).drewN q).heap[w.heap.size]? = some (.cells #[.slice (some ⟨b, off, none⟩) n cap, .int .i64 next] 25 (0, 0))) := by
      intro q
      have h1 := hbel.alloc hbel.size (.cells #[.int .i64 (z k).a, .int .i64 (z k).b, .int .i64 (z k).c, .int .i64 (z k).d, .int .i64 (z k).e, .bool (z k).o] 47)
      refine ⟨⟨h1.os, h1.tape, h1.output, h1.size, h1.block⟩, ?_⟩
      show (wr.heap.push _)[w.heap.size]? = _
      rw [Array.getElem?_push, if_neg (by omega)]
      exact hrow
    have hp0 : Aside (0 ≤ prevId z k) := prev_nonneg hall
    clear hz hbel hrow hall hcell
    go_wp2
    · have hkn : k < n := by assumption
      by_cases g1 : (z k).a < 1
      · go_quiet (fail)
        go_wp2
        all_goals (go_ret; have := hp0.out; exact ⟨notGood hkn (bad_iff.2 (.inl (by omega))), (Wn.out _).1⟩)
      · by_cases g2 : next ≤ (z k).a
        · go_quiet (fail)
          go_wp2
          all_goals (go_ret; exact ⟨notGood hkn (bad_iff.2 (.inr (.inl g2))), (Wn.out _).1⟩)
        · by_cases hpos : 0 < k
          · have lp : wr.cell? ⟨b, off + (k - 1) * 6, none⟩ = some (.int .i64 (z (k - 1)).a) := A.out.2.2.2 (k - 1) 0 _ (by omega) rfl
            obtain ⟨m, hm⟩ : ∃ m : Nat, m = k - 1 := ⟨_, rfl⟩
            have hpm : Aside (prevId z k = (z m).a) := by rw [hm]; exact prev_pos hpos
            rw [← hm] at lp
            have hmn : m < n := by omega
            have hwr : IntKind.i64.wrap ((k : Int) - 1) = (m : Int) := by
              have e : (k : Int) - 1 = Int.ofNat m := by simp; omega
              rw [e]; exact Ev.wrap_i64 m (by omega)
            clear hm
            by_cases g3 : (z k).a ≤ (z m).a
            · go_quiet (fail)
              go_wp2
              all_goals (go_ret; have := hpm.out; exact ⟨notGood hkn (bad_iff.2 (.inl (by omega))), (Wn.out _).1⟩)
            · go_quiet (fail)
              go_wp2
              any_goals (go_ret; exact ⟨notGood hkn (bad_iff.2 (by omega)), (Wn.out _).1⟩)
              go_roundw
              case rel =>
                refine ⟨k + 1, by omega, by go_num, (Wn.out _).1, (Wn.out _).2, fun j hj => ?_⟩
                rcases Nat.lt_or_ge j k with h | h
                · exact A.out.2.2.1 j h
                · rw [show j = k from by omega]
                  have := hpm.out
                  exact bad_not.2 (by omega)
              case measure => simp [intOf]; omega
          · have hpz : Aside (prevId z k = 0) := prev_zero hpos
            go_quiet (fail)
            go_wp2
            any_goals (go_ret; exact ⟨notGood hkn (bad_iff.2 (by omega)), (Wn.out _).1⟩)
            go_roundw
            case rel =>
              refine ⟨k + 1, by omega, by go_num, (Wn.out _).1, (Wn.out _).2, fun j hj => ?_⟩
              rcases Nat.lt_or_ge j k with h | h
              · exact A.out.2.2.1 j h
              · rw [show j = k from by omega]
                have := hpz.out
                exact bad_not.2 (by omega)
            case measure => simp [intOf]; omega
    · have hkn : ¬ k < n := by first | assumption | omega
      go_wp2
      go_ret
      obtain ⟨A1, A2, A3, A4⟩ := A.out
      obtain ⟨N1, N2, N3⟩ := N0.out
      exact ⟨⟨true, rfl, ⟨fun _ => ⟨N1, N2, N3, fun j hj => A3 j (by omega)⟩, fun _ => rfl⟩⟩, A1⟩

set_option maxRecDepth 4000 in
set_option maxHeartbeats 8000000 in
theorem f6_nil (z : Nat → Ls) (next : Int) (a0 : Option Addr) (cap : Nat) (w : World) :
    Calls Tryz.prog 6 #[.agg #[.slice a0 0 cap, .int .i64 next]] w fun r w' => Ans (Good z next 0) r ∧ Below w.heap.size w w' := by
  have B0 : Aside (Below w.heap.size w (w.alloc (.cells #[.slice a0 0 cap, .int .i64 next] 25))) := (Below.refl _ w).alloc (Nat.le_refl _) _
  go_enter Tryz.func6, Tryz.ntmps6
  go_wp2
  any_goals
    go_ret
    refine ⟨⟨false, rfl, ?_⟩, B0.out⟩
    unfold Good
    constructor
    · intro h; cases h
    · rintro ⟨g1, g2, g3, _⟩; omega
  go_loopw [3] (fun i wr => i = .int .i64 0 ∧ wr = w.alloc (.cells #[.slice a0 0 cap, .int .i64 next] 25)) (fun _ _ => 0)
  case atStart => exact ⟨rfl, rfl⟩
  case round =>
    obtain ⟨rfl, rfl⟩ := hrel
    go_wp2
    go_ret
    exact ⟨⟨true, rfl, ⟨fun _ => ⟨by omega, by omega, by omega, fun j hj => by omega⟩, fun _ => rfl⟩⟩, B0.out⟩

theorem f6_calls (z : Nat → Ls) (next : Int) (sl : Value) (n : Nat) (w : World) (hl : Lies z sl n w) (hn : n ≤ 1000000) :
    Calls Tryz.prog 6 #[.agg #[sl, .int .i64 next]] w fun r w' => Ans (Good z next n) r ∧ Below w.heap.size w w' := by
  rcases hl with ⟨rfl, a0, cap, rfl⟩ | ⟨b, off, cap, rfl, hb, hz⟩
  · exact f6_nil z next a0 cap w
  · exact f6_some z next b off n cap w hn hb hz

end Go.Proofs.YtgkfjelbenbnnaaGreat
