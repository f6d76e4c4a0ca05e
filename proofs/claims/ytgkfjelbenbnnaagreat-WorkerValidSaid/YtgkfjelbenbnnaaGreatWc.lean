/- WorkerValid returns true, given that sanity does. -/
import Derived.Test.YtgkfjelbenbnnaaGreatWb
import Derived.Deep.RegionWith
namespace Go.Proofs.YtgkfjelbenbnnaaGreat
set_option linter.unusedVariables false
set_option linter.unusedSimpArgs false
open Go.RowKit

theorem Lies.below {z : Nat → Ls} {sl : Value} {n : Nat} {w w' : World} (h : Lies z sl n w) (hb : Below w.heap.size w w') : Lies z sl n w' := by
  rcases h with h | ⟨b, off, cap, h1, h2, h3⟩
  · exact .inl h
  · have := hb.size
    exact .inr ⟨b, off, cap, h1, by omega, fun k hk j v hv => (hb.cell (p := ⟨b, off + k * 6 + j, none⟩) h2).trans (h3 k hk j v hv)⟩

theorem Below.drew' {B : Nat} {w w' : World} (h : Below B w w') : Below B w w'.drew := ⟨h.os, h.tape, h.output, h.size, h.block⟩

theorem last_facts (z : Nat → Ls) (next : Int) (sl : Value) (m : Nat) (w w1 : World) (hl : Lies z sl m w) (hm : m ≤ 1000000) (hb1 : Below w.heap.size w w1) :
    Calls Tryz.prog 5 #[.agg #[sl, .int .i64 next]] (w1.alloc (.cells #[sl, .int .i64 next] 25)).drew (fun r w' => Ans (Good z next m) r ∧ Below (w1.heap.size + 1) (w1.alloc (.cells #[sl, .int .i64 next] 25)) w') ∧
    (∀ w5, Below (w1.heap.size + 1) (w1.alloc (.cells #[sl, .int .i64 next] 25)) w5 →
      Calls Tryz.prog 6 #[.agg #[sl, .int .i64 next]] w5 (fun r w' => Ans (Good z next m) r ∧ Below (w1.heap.size + 1) (w1.alloc (.cells #[sl, .int .i64 next] 25)) w')) ∧
    (∀ w5, Below (w1.heap.size + 1) (w1.alloc (.cells #[sl, .int .i64 next] 25)) w5 → w5.cell? ⟨w1.heap.size, 0, none⟩ = some sl ∧ w5.cell? ⟨w1.heap.size, 1, none⟩ = some (.int .i64 next)) ∧
    ∀ w6, Below (w1.heap.size + 1) (w1.alloc (.cells #[sl, .int .i64 next] 25)) w6 → Below w.heap.size w w6 := by
  have hsz : (w1.alloc (.cells #[sl, .int .i64 next] 25)).heap.size = w1.heap.size + 1 := by show (w1.heap.push _).size = _; rw [Array.size_push]
  have hbW : Below w.heap.size w (w1.alloc (.cells #[sl, .int .i64 next] 25)) := hb1.alloc hb1.size _
  have same : ∀ w5, Below (w1.heap.size + 1) (w1.alloc (.cells #[sl, .int .i64 next] 25)) w5 → Below w.heap.size w w5 := fun w5 h => by
    have := hb1.size
    refine ⟨h.os.trans hbW.os, h.tape.trans hbW.tape, h.output.trans hbW.output, Nat.le_trans hbW.size h.size, fun k hk => ?_⟩
    rw [h.block k (by omega), hbW.block k hk]
  have base : Below (w1.heap.size + 1) (w1.alloc (.cells #[sl, .int .i64 next] 25)) (w1.alloc (.cells #[sl, .int .i64 next] 25)).drew := Below.drew' (Below.refl _ _)
  have next' : ∀ w5 w', Below (w1.heap.size + 1) (w1.alloc (.cells #[sl, .int .i64 next] 25)) w5 → Below w5.heap.size w5 w' → Below (w1.heap.size + 1) (w1.alloc (.cells #[sl, .int .i64 next] 25)) w' := fun w5 w' h1 h2 => by
    have := h1.size
    refine ⟨h2.os.trans h1.os, h2.tape.trans h1.tape, h2.output.trans h1.output, Nat.le_trans h1.size h2.size, fun k hk => ?_⟩
    rw [h2.block k (by omega), h1.block k hk]
  refine ⟨?_, ?_, ?_, same⟩
  · exact (f5_calls z next sl m _ (hl.below (same _ base)) hm).mono fun e w' ⟨h1, h2⟩ => ⟨h1, next' _ w' base h2⟩
  · intro w5 h
    exact (f6_calls z next sl m _ (hl.below (same _ h)) hm).mono fun e w' ⟨h1, h2⟩ => ⟨h1, next' _ w' h h2⟩
  · intro w5 h
    have hrow : w5.heap[w1.heap.size]? = some (.cells #[sl, .int .i64 next] 25 (0, 0)) := by
      rw [h.block _ (by omega)]
      show (w1.heap.push _)[w1.heap.size]? = _
      rw [Array.getElem?_push, if_pos rfl]
    exact ⟨by unfold World.cell?; simp only [hrow]; rfl, by unfold World.cell?; simp only [hrow]; rfl⟩

theorem Ans.eq {p : Prop} {v v' : Bool} (h : v = true ↔ p) (h' : v' = true ↔ p) : v = v' := by
  cases v <;> cases v' <;> simp_all

set_option maxRecDepth 4000 in
set_option maxHeartbeats 8000000 in
theorem f3_some (z : Nat → Ls) (next : Int) (b off n cap : Nat) (w : World) (hcap : n ≤ cap) (hn : n ≤ 9223372036854775807) (hl : Lies z (.slice (some ⟨b, off, none⟩) n cap) n w)
    (hs : ∀ w : World, Calls Tryz.prog 4 #[] w fun e w' => e = .returned (.bool true) ∧ Below w.heap.size w w') :
    Calls Tryz.prog 3 #[.slice (some ⟨b, off, none⟩) n cap, .int .i64 next] w fun r w' => r = .returned (.bool true) ∧ Below w.heap.size w w' := by
  have L : Aside (Lies z (.slice (some ⟨b, off, none⟩) n cap) n w) := hl
  clear hl
  by_cases h201 : n ≤ 201
  · go_enter Tryz.func3, Tryz.ntmps3
    go_wp2_with (go_at_call 4; refine (hs _).mono ?_; rintro e w1 ⟨rfl, hb1⟩)
    obtain ⟨c5, c6, hc, hend⟩ := last_facts z next _ n w w1 L.out (by omega) hb1
    go_region_with (first
      | (go_at_call 5; refine c5.mono ?_; rintro e w5 ⟨⟨v5, rfl, hv5⟩, hb5⟩; have k0 := (hc _ hb5).1; have k1 := (hc _ hb5).2)
      | (go_at_call 6; refine (c6 _ ‹_›).mono ?_; rintro e w6 ⟨⟨v6, rfl, hv6⟩, hb6⟩; obtain rfl := Ans.eq hv5 hv6; have k2 := (hc _ hb6).1; have k3 := (hc _ hb6).2))
    all_goals
      go_wp2
      go_ret
      exact ⟨rfl, hend _ (by assumption)⟩
  · have L2 : Lies z (.slice (some ⟨b, off, none⟩) 201 cap) 201 w := by
      rcases L.out with ⟨h, _⟩ | ⟨b', off', cap', h1, h2, h3⟩
      · omega
      · cases h1
        exact .inr ⟨b, off, cap, rfl, h2, fun k hk => h3 k (by omega)⟩
    have L3 : Aside (Lies z (.slice (some ⟨b, off, none⟩) 201 cap) 201 w) := L2
    clear L2
    go_enter Tryz.func3, Tryz.ntmps3
    go_wp2_with (go_at_call 4; refine (hs _).mono ?_; rintro e w1 ⟨rfl, hb1⟩)
    obtain ⟨c5, c6, hc, hend⟩ := last_facts z next _ 201 w w1 L3.out (by omega) hb1
    go_region_with (first
      | (go_at_call 5; refine c5.mono ?_; rintro e w5 ⟨⟨v5, rfl, hv5⟩, hb5⟩; have k0 := (hc _ hb5).1; have k1 := (hc _ hb5).2)
      | (go_at_call 6; refine (c6 _ ‹_›).mono ?_; rintro e w6 ⟨⟨v6, rfl, hv6⟩, hb6⟩; obtain rfl := Ans.eq hv5 hv6; have k2 := (hc _ hb6).1; have k3 := (hc _ hb6).2))
    all_goals
      go_wp2
      go_ret
      exact ⟨rfl, hend _ (by assumption)⟩

set_option maxRecDepth 4000 in
set_option maxHeartbeats 8000000 in
theorem f3_nil (next : Int) (a0 : Option Addr) (cap : Nat) (w : World) (hs : ∀ w : World, Calls Tryz.prog 4 #[] w fun e w' => e = .returned (.bool true) ∧ Below w.heap.size w w') :
    Calls Tryz.prog 3 #[.slice a0 0 cap, .int .i64 next] w fun r w' => r = .returned (.bool true) ∧ Below w.heap.size w w' := by
  have L3 : Aside (Lies (fun _ => ⟨0, 0, 0, 0, 0, false⟩) (.slice a0 0 cap) 0 w) := .inl ⟨rfl, a0, cap, rfl⟩
  go_enter Tryz.func3, Tryz.ntmps3
  go_wp2_with (go_at_call 4; refine (hs _).mono ?_; rintro e w1 ⟨rfl, hb1⟩)
  obtain ⟨c5, c6, hc, hend⟩ := last_facts _ next _ 0 w w1 L3.out (by omega) hb1
  go_region_with (first
    | (go_at_call 5; refine c5.mono ?_; rintro e w5 ⟨⟨v5, rfl, hv5⟩, hb5⟩; have k0 := (hc _ hb5).1; have k1 := (hc _ hb5).2)
    | (go_at_call 6; refine (c6 _ ‹_›).mono ?_; rintro e w6 ⟨⟨v6, rfl, hv6⟩, hb6⟩; obtain rfl := Ans.eq hv5 hv6; have k2 := (hc _ hb6).1; have k3 := (hc _ hb6).2))
  all_goals
    go_wp2
    go_ret
    exact ⟨rfl, hend _ (by assumption)⟩

end Go.Proofs.YtgkfjelbenbnnaaGreat
