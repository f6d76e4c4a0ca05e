/- The main part of WorkerValid's proof: for every slice of leases (nil too) and every number it returns true and writes nothing that was there: no condition. -/
import Derived.Test.YtgkfjelbenbnnaaGreatWc
import Derived.Test.YtgkfjelbenbnnaaGreatSanity
import Derived.WalkKit
import Derived.ProofKit
import Derived.OpenShut
import Derived.ShutString
import Derived.ChangeOld
import Derived.Below
import Derived.Deep.Slices
namespace Go.Proofs.YtgkfjelbenbnnaaGreat
open Go.ChangeShapes Go.WideShapes Go.ChangeAt Go.RowKit
set_option linter.unusedVariables false
set_option linter.unusedSimpArgs false

theorem ownR : ownKnob Tryz.prog.godebug = none := by kernel_rfl
theorem laidOut : laidOutB Tryz.prog = true := by kernel_rfl
theorem cells47 : Tryz.prog.cellsOf 47 = 6 := by kernel_rfl
theorem cells3 : Tryz.prog.cellsOf 3 = 1 := by kernel_rfl
theorem cells4 : Tryz.prog.cellsOf 4 = 1 := by kernel_rfl

theorem sanity_below (w : World) : Calls Tryz.prog 4 #[] w fun e w' => e = .returned (.bool true) ∧ Below w.heap.size w w' :=
  (sanity_calls w).mono fun e w' ⟨h1, h2, h3, h4, h5, h6⟩ => ⟨h1, h4, h5, h6, h3, h2⟩

theorem trod_struct6 {H : Type} {enc : TypeId × Value → H} {P : Program} {w : World} {base : Nat} {spare : Nat → Bool} {held : Bool} {fuel : Nat} {cs : List Value} {x : DataW H × List MemPlace} {t : TypeId} {f0 f1 f2 f3 f4 f5 : Field}
    (ht : P.underlying t = some (.struct #[f0, f1, f2, f3, f4, f5])) (h : DataW.trod enc P w base spare held fuel t cs = some x) :
    ∃ y0 y1 y2 y3 y4 y5 n, cs.length = P.cellsOf t ∧ DataW.trod enc P w base spare held n f0.type ((cs.drop f0.offset).take (P.cellsOf f0.type)) = some y0 ∧
      DataW.trod enc P w base spare held n f1.type ((cs.drop f1.offset).take (P.cellsOf f1.type)) = some y1 ∧ DataW.trod enc P w base spare held n f2.type ((cs.drop f2.offset).take (P.cellsOf f2.type)) = some y2 ∧
      DataW.trod enc P w base spare held n f3.type ((cs.drop f3.offset).take (P.cellsOf f3.type)) = some y3 ∧ DataW.trod enc P w base spare held n f4.type ((cs.drop f4.offset).take (P.cellsOf f4.type)) = some y4 ∧
      DataW.trod enc P w base spare held n f5.type ((cs.drop f5.offset).take (P.cellsOf f5.type)) = some y5 := by
  obtain ⟨xs, n, _, _, hl, hlen, hf⟩ := DataW.trod_struct ht h
  match xs, hlen with
  | [y0, y1, y2, y3, y4, y5], _ => exact ⟨y0, y1, y2, y3, y4, y5, n, hl, by simpa using hf 0 f0 rfl, by simpa using hf 1 f1 rfl, by simpa using hf 2 f2 rfl, by simpa using hf 3 f3 rfl, by simpa using hf 4 f4 rfl, by simpa using hf 5 f5 rfl⟩

theorem six {l : List Value} (h : l.length = 6) : ∃ v0 v1 v2 v3 v4 v5, l = [v0, v1, v2, v3, v4, v5] := by
  match l, h with
  | [v0, v1, v2, v3, v4, v5], _ => exact ⟨v0, v1, v2, v3, v4, v5, rfl⟩

/-- A lease's cells read as a lease. -/
theorem open_lease {H : Type} {enc : TypeId × Value → H} {w : World} {base : Nat} {spare : Nat → Bool} {held : Bool} {n : Nat} {cs : List Value} {x : DataW H × List MemPlace}
    (h : DataW.trod enc Tryz.prog w base spare held n 47 cs = some x) : ∃ l : Ls, cs = l.cs := by
  obtain ⟨y0, y1, y2, y3, y4, y5, m, hl, f0, f1, f2, f3, f4, f5⟩ := trod_struct6 Tryz.underlying47 h
  rw [cells47] at hl
  obtain ⟨v0, v1, v2, v3, v4, v5, rfl⟩ := six hl
  simp only [cells3, cells4, List.drop, List.take] at f0 f1 f2 f3 f4 f5
  obtain ⟨a, e0, _⟩ := DataW.trod_int Tryz.underlying3 f0
  obtain ⟨b, e1, _⟩ := DataW.trod_int Tryz.underlying3 f1
  obtain ⟨c, e2, _⟩ := DataW.trod_int Tryz.underlying3 f2
  obtain ⟨d, e3, _⟩ := DataW.trod_int Tryz.underlying3 f3
  obtain ⟨e, e4, _⟩ := DataW.trod_int Tryz.underlying3 f4
  obtain ⟨o, e5, _⟩ := DataW.trod_bool Tryz.underlying4 f5
  simp only [List.cons.injEq, and_true] at e0 e1 e2 e3 e4 e5
  subst e0 e1 e2 e3 e4 e5
  exact ⟨⟨a, b, c, d, e, o⟩, rfl⟩

/-- A slice of leases that came in. -/
theorem open_leases {H : Type} {enc : TypeId × Value → H} {w : World} {base : Nat} {spare : Nat → Bool} {held : Bool} {fuel : Nat} {a0 : Option Addr} {len cap : Nat} {x : DataW H × List MemPlace}
    (h : DataW.trod enc Tryz.prog w base spare held fuel 22 [.slice a0 len cap] = some x) :
    len = 0 ∨ ∃ z b off, a0 = some ⟨b, off, none⟩ ∧ len ≤ cap ∧ len ≤ 9223372036854775807 ∧ Lies z (.slice (some ⟨b, off, none⟩) len cap) len w := by
  rcases Go.Deep.open_slice Tryz.underlying22 h with ⟨h0, _⟩ | ⟨a, len', cap', m, n, D, Pl, hcs, hb, hl, hm, hmm, _, hx⟩
  · simp only [List.cons.injEq, Value.slice.injEq, and_true] at h0
    exact .inl h0.2.1
  · simp only [List.cons.injEq, Value.slice.injEq, and_true] at hcs
    obtain ⟨rfl, rfl, rfl⟩ := hcs
    by_cases hlen : len = 0
    · exact .inl hlen
    · right
      have hlm : len ≤ m := by rw [hmm]; split <;> omega
      have each : ∀ i, i < m → ∃ q : Ls, w.cells? base (a.add (i * 6)) 6 = some q.cs := by
        intro i hi
        obtain ⟨cs', h1, h2⟩ := hx i hi
        rw [cells47] at h1
        obtain ⟨q, rfl⟩ := open_lease h2
        exact ⟨q, h1⟩
      haveI : Inhabited Ls := ⟨⟨0, 0, 0, 0, 0, false⟩⟩
      obtain ⟨z, hz⟩ := Go.Deep.choose_lt each
      have cell : ∀ i, i < m → ∀ j v, (z i).cs[j]? = some v → w.cell? ((a.add (i * 6)).add j) = some v := by
        intro i hi j v hv
        obtain ⟨_, hlen', hc⟩ := World.cells?_some (hz i hi)
        have hj : j < 6 := by
          rcases Nat.lt_or_ge j 6 with h | h
          · exact h
          · rw [List.getElem?_eq_none (by rw [hlen']; exact h)] at hv; cases hv
        rw [hc j hj, hv]
      have c0 := cell 0 (by omega) 0 _ rfl
      rw [Go.Deep.add_add] at c0
      obtain ⟨b, off, spot⟩ := a
      have hspot : spot = none := by simpa [Addr.add] using World.cell?_spot c0
      subst hspot
      have hbs : b < w.heap.size := by
        rcases Nat.lt_or_ge b w.heap.size with h | h
        · exact h
        · have c1 : w.cell? ⟨b, off, none⟩ = some (.int .i64 (z 0).a) := by simpa [Addr.add] using c0
          unfold World.cell? at c1
          simp only [Array.getElem?_eq_none h] at c1
          cases c1
      refine ⟨z, b, off, rfl, hl, by unfold maxLen at hm; omega, .inr ⟨b, off, cap, rfl, hbs, fun k hk j v hv => ?_⟩⟩
      have := cell k (by omega) j v hv
      rw [Go.Deep.add_add] at this
      have e : (⟨b, off, none⟩ : Addr).add (k * 6 + j) = ⟨b, off + k * 6 + j, none⟩ := by
        unfold Addr.add
        split
        · rename_i e; simp [Nat.add_assoc, e]
        · simp [Nat.add_assoc]
      rw [e] at this
      exact this

set_option maxRecDepth 100000 in
theorem lifted (os : Os) (started : os.Started) (H : Type) (enc : TypeId × Value → H) :
    ReturnsInHanded {} Tryz.checked os 3 .any (Rows.workerValidSpec.pre6 enc Tryz.prog Tryz.f3 Rows.workerValidRow.domain false) (Rows.workerValidSpec.post enc Tryz.prog Tryz.f3 false true false false) := by
  refine returnsInHanded_of_change (C := Tryz.checked) ownR started (by kernel_rfl) Tryz.func3
    (ChangeSpec.witness6 (enc := enc) (C := Tryz.checked) false ⟨#[], #[.slice none 0 0, .int .i64 0], []⟩ 8 (by kernel_rfl) (by kernel_rfl) (by kernel_rfl) (by kernel_rfl)) ?_
  intro W base args ds gs before hval0 hW hcnd _
  have hval : ∀ (j : Nat) t v, Tryz.f3.params[j]? = some t → args[j]? = some v → Value.okWide Tryz.prog W .any base t v := hval0
  have hW' := hW
  obtain ⟨p, q, hA0, hV, rfl, hfz, hnd⟩ := hW
  have hA : DataW.TrodAll enc Tryz.prog W 0 (fun _ => true) true Tryz.f3.params.toList args.toList ds p := hA0
  rw [Tryz.params3] at hA hval
  obtain ⟨v0, vs0, d0, ds0, p0, q0, hargs, rfl, rfl, h0, r0⟩ := trodAll_cons hA
  obtain ⟨v1, vs1, d1, ds1, p1, q1, rfl, rfl, rfl, h1, r1⟩ := trodAll_cons r0
  obtain ⟨rfl, rfl, rfl⟩ := trodAll_nil r1
  obtain rfl : args = #[v0, v1] := by cases args; simp_all
  obtain ⟨rfl, rfl⟩ := trodVars_none hV
  obtain ⟨a0, len0, cap0, rfl⟩ := okWide_slice Tryz.underlying22 (hval 0 22 v0 rfl rfl)
  have k0 := h0
  have lt0 : ∀ x ∈ p0, x.block < W.heap.size := by obtain ⟨m, hm⟩ := k0; exact DataW.trod_lt m _ _ _ hm
  have walk : ∀ a1 : Int, Calls Tryz.prog 3 #[.slice a0 len0 cap0, .int .i64 a1] W fun e w' => e = .returned (.bool true) ∧ Below W.heap.size W w' := by
    intro a1
    obtain ⟨fuel, hf⟩ := h0
    rcases open_leases hf with rfl | ⟨z, b, off, rfl, g1, g2, g3⟩
    · exact f3_nil a1 a0 cap0 W sanity_below
    · exact f3_some z a1 b off len0 cap0 W g1 g2 g3 sanity_below
  obtain ⟨a1, rfl, rfl, rfl, w1⟩ := open_int Tryz.underlying3 (hval 1 3 v1 rfl rfl) h1
  clear hA0 hval0
  refine (walk a1).mono fun e W' ⟨he, bel⟩ => ?_
  subst he
  exact ⟨_, rfl, _, _, _, [], _, [], hW', trodAll_mk1 (shut_bool Tryz.underlying4 _), (trodAll_cons_mk (Below.trod laidOut (by kernel_rfl) (of_decide_eq_true (by kernel_rfl)) k0 bel lt0) (trodAll_cons_mk (shut_int Tryz.underlying3 w1) trodAll_mk0)), rfl, bel.frame _, fun h => by cases h⟩

end Go.Proofs.YtgkfjelbenbnnaaGreat
