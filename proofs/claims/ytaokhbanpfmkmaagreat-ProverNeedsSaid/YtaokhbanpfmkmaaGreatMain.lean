/- The main part of ProverNeeds's proof: for every number and every raw polynomial it returns true and writes nothing that was there: no condition. -/
import Derived.Test.YtaokhbanpfmkmaaGreatRows
import Derived.Test.YtaokhbanpfmkmaaGreatSanity
import Derived.Test.YtaokhbanpfmkmaaGreatQh
import Derived.Test.YtaokhbanpfmkmaaGreatQk
import Derived.Test.YtaokhbanpfmkmaaGreatKf
import Derived.Test.YtaokhbanpfmkmaaGreatKc
import Derived.WalkKit
import Derived.ProofKit
import Derived.OpenShut
import Derived.ShutString
import Derived.ChangeOld
import Derived.Below
import Derived.Deep.Slices
namespace Go.Proofs.YtaokhbanpfmkmaaGreat
open Go.ChangeShapes Go.WideShapes Go.ChangeAt Go.RowKit
set_option linter.unusedVariables false
set_option linter.unusedSimpArgs false

theorem ownR : ownKnob Tryz.prog.godebug = none := by kernel_rfl
theorem cells74 : Tryz.prog.cellsOf 74 = 5 := by kernel_rfl
theorem cells73 : Tryz.prog.cellsOf 73 = 1 := by kernel_rfl
theorem cells24 : Tryz.prog.cellsOf 24 = 1 := by kernel_rfl
theorem cells22 : Tryz.prog.cellsOf 22 = 1 := by kernel_rfl

theorem sanity_below (w : World) : Calls Tryz.prog 4 #[] w fun e w' => e = .returned (.bool true) ∧ Below w.heap.size w w' :=
  (sanity_calls w).mono fun e w' ⟨h1, h2, h3, h4, h5, h6⟩ => ⟨h1, h4, h5, h6, h3, h2⟩

theorem one_of {α : Type} {l : List α} (h : l.length = 1) : ∃ x, l = [x] := by
  match l, h with
  | [x], _ => exact ⟨x, rfl⟩
theorem one_cell {cs : Array Value} (h : cs.size = 1) : ∃ T, cs = #[T] := by
  obtain ⟨l⟩ := cs
  obtain ⟨x, rfl⟩ := one_of (l := l) h
  exact ⟨x, rfl⟩
theorem five {l : List Value} (h : l.length = 5) : ∃ v0 v1 v2 v3 v4, l = [v0, v1, v2, v3, v4] := by
  match l, h with
  | [v0, v1, v2, v3, v4], _ => exact ⟨v0, v1, v2, v3, v4, rfl⟩

/-- A raw term's cells. -/
theorem open_raw {H : Type} {enc : TypeId × Value → H} {w : World} {base : Nat} {spare : Nat → Bool} {held : Bool} {n : Nat} {cs : List Value} {x : DataW H × List MemPlace}
    (h : DataW.trod enc Tryz.prog w base spare held n 74 cs = some x) : ∃ f : Nat → Int, cs = [.int .i8 (f 0), .int .i8 (f 1), .int .i8 (f 2), .int .i8 (f 3), .int .i8 (f 4)] ∧ ∀ j, j < 5 → -128 ≤ f j ∧ f j ≤ 127 := by
  obtain ⟨xs, m, _, _, hl, hlen, hf⟩ := DataW.trod_array Tryz.underlying74 h
  rw [cells74] at hl
  obtain ⟨v0, v1, v2, v3, v4, rfl⟩ := five hl
  have each : ∀ i, i < 5 → ∃ y, DataW.trod enc Tryz.prog w base spare held m 73 (([v0, v1, v2, v3, v4].drop i).take 1) = some y := fun i hi => by
    have := hf i hi
    rw [cells73, Nat.mul_one, List.getElem?_eq_getElem (by omega)] at this
    exact ⟨_, this⟩
  obtain ⟨y0, f0⟩ := each 0 (by omega)
  obtain ⟨y1, f1⟩ := each 1 (by omega)
  obtain ⟨y2, f2⟩ := each 2 (by omega)
  obtain ⟨y3, f3⟩ := each 3 (by omega)
  obtain ⟨y4, f4⟩ := each 4 (by omega)
  obtain ⟨a, e0, _, w0⟩ := DataW.trod_int Tryz.underlying73 f0
  obtain ⟨b, e1, _, w1⟩ := DataW.trod_int Tryz.underlying73 f1
  obtain ⟨c, e2, _, w2⟩ := DataW.trod_int Tryz.underlying73 f2
  obtain ⟨d, e3, _, w3⟩ := DataW.trod_int Tryz.underlying73 f3
  obtain ⟨e, e4, _, w4⟩ := DataW.trod_int Tryz.underlying73 f4
  simp only [List.drop, List.take, List.cons.injEq, and_true] at e0 e1 e2 e3 e4
  subst e0 e1 e2 e3 e4
  refine ⟨fun j => match j with | 0 => a | 1 => b | 2 => c | 3 => d | _ => e, rfl, fun j hj => ?_⟩
  match j, hj with
  | 0, _ => exact bounds_i8 w0
  | 1, _ => exact bounds_i8 w1
  | 2, _ => exact bounds_i8 w2
  | 3, _ => exact bounds_i8 w3
  | 4, _ => exact bounds_i8 w4

/-- A slice of raw terms that came in. -/
theorem open_raws {H : Type} {enc : TypeId × Value → H} {w : World} {base : Nat} {spare : Nat → Bool} {held : Bool} {fuel : Nat} {T : Value} {x : DataW H × List MemPlace}
    (h : DataW.trod enc Tryz.prog w base spare held fuel 22 [T] = some x) : TLaid T w := by
  rcases Go.Deep.open_slice Tryz.underlying22 h with ⟨h0, _⟩ | ⟨a, len, cap, m, n, D, Pl, hcs, hb, hl, hm, hmm, _, hx⟩
  · simp only [List.cons.injEq, and_true] at h0
    subst h0
    exact .inl ⟨_, _, rfl⟩
  · simp only [List.cons.injEq, and_true] at hcs
    subst hcs
    by_cases hlen : len = 0
    · subst hlen; exact .inl ⟨_, _, rfl⟩
    · right
      have hlm : len ≤ m := by rw [hmm]; split <;> omega
      have each : ∀ i, i < m → ∃ f : Nat → Int, w.cells? base (a.add (i * 5)) 5 = some [.int .i8 (f 0), .int .i8 (f 1), .int .i8 (f 2), .int .i8 (f 3), .int .i8 (f 4)] ∧ ∀ j, j < 5 → -128 ≤ f j ∧ f j ≤ 127 := by
        intro i hi
        obtain ⟨cs', h1, h2⟩ := hx i hi
        rw [cells74] at h1
        obtain ⟨f, rfl, hf⟩ := open_raw h2
        exact ⟨f, h1, hf⟩
      obtain ⟨z, hz⟩ := Go.Deep.choose_lt each
      have cell : ∀ i, i < m → ∀ j, j < 5 → w.cell? ((a.add (i * 5)).add j) = some (.int .i8 (z i j)) := by
        intro i hi j hj
        obtain ⟨_, hlen', hc⟩ := World.cells?_some (hz i hi).1
        rw [hc j hj]
        match j, hj with
        | 0, _ => rfl
        | 1, _ => rfl
        | 2, _ => rfl
        | 3, _ => rfl
        | 4, _ => rfl
      have c0 := cell 0 (by omega) 0 (by omega)
      rw [Go.Deep.add_add] at c0
      obtain ⟨b, off, spot⟩ := a
      have hspot : spot = none := by simpa [Addr.add] using World.cell?_spot c0
      subst hspot
      have hbs : b < w.heap.size := by
        rcases Nat.lt_or_ge b w.heap.size with h | h
        · exact h
        · have c1 : w.cell? ⟨b, off, none⟩ = some (.int .i8 (z 0 0)) := by simpa [Addr.add] using c0
          unfold World.cell? at c1
          simp only [Array.getElem?_eq_none h] at c1
          cases c1
      refine ⟨z, b, off, len, cap, rfl, by unfold maxLen at hm; omega, hbs, fun k hk j hj => ⟨?_, (hz k (by omega)).2 j hj⟩⟩
      have := cell k (by omega) j hj
      rw [Go.Deep.add_add] at this
      have e : (⟨b, off, none⟩ : Addr).add (k * 5 + j) = ⟨b, off + k * 5 + j, none⟩ := by
        unfold Addr.add
        split
        · rename_i e; simp [Nat.add_assoc, e]
        · simp [Nat.add_assoc]
      rw [e] at this
      exact this

set_option maxRecDepth 100000 in
theorem lifted (os : Os) (started : os.Started) (H : Type) (enc : TypeId × Value → H) :
    ReturnsInHanded {} Tryz.checked os 3 .any (Rows.proverNeedsSpec.pre6 enc Tryz.prog Tryz.f3 Rows.proverNeedsRow.domain false) (Rows.proverNeedsSpec.post enc Tryz.prog Tryz.f3 false true false false) := by
  refine returnsInHanded_of_change (C := Tryz.checked) ownR started (by kernel_rfl) Tryz.func3
    (ChangeSpec.witness6 (enc := enc) (C := Tryz.checked) false ⟨#[], #[.int .i64 0, .agg #[.slice none 0 0]], []⟩ 8 (by kernel_rfl) (by kernel_rfl) (by kernel_rfl) (by kernel_rfl)) ?_
  intro W base args ds gs before hval0 hW hcnd _
  have hval : ∀ (j : Nat) t v, Tryz.f3.params[j]? = some t → args[j]? = some v → Value.okWide Tryz.prog W .any base t v := hval0
  have hW' := hW
  obtain ⟨p, q, hA0, hV, rfl, hfz, hnd⟩ := hW
  have hA : DataW.TrodAll enc Tryz.prog W 0 (fun _ => true) true Tryz.f3.params.toList args.toList ds p := hA0
  rw [Tryz.params3] at hA hval
  obtain ⟨v0, vs0, d0, ds0, p0, q0, hargs, rfl, rfl, h0, r0⟩ := trodAll_cons hA
  obtain ⟨v1, vs1, d1, ds1, p1, q1, rfl, rfl, rfl, h1, r1⟩ := trodAll_cons r0
  obtain ⟨rfl, rfl, rfl⟩ := trodAll_nil r1
  obtain rfl : args = #[v0, v1] := by cases args; simp_all
  obtain ⟨rfl, rfl⟩ := trodVars_none hV
  obtain ⟨cs, rfl, hcs⟩ := okWide_struct Tryz.underlying24 (hval 1 24 v1 rfl rfl)
  rw [cells24] at hcs
  obtain ⟨T, rfl⟩ := one_cell hcs
  have k1 := h1
  have lt1 : ∀ x ∈ p1, x.block < W.heap.size := by obtain ⟨m, hm⟩ := k1; exact DataW.trod_lt m _ _ _ hm
  have laid : TLaid T W := by
    obtain ⟨fuel, hf⟩ := h1
    obtain ⟨xs, n, _, _, hl, hlen, hf⟩ := DataW.trod_struct Tryz.underlying24 hf
    have := hf 0 _ rfl
    obtain ⟨y, rfl⟩ := one_of hlen
    have h22 : DataW.trod enc Tryz.prog W 0 (fun _ => true) true n 22 [T] = some y := by
      simp only [cells22, List.map_cons, List.getElem?_cons_zero, List.drop_zero] at this
      exact this
    exact open_raws h22
  obtain ⟨a0, rfl, rfl, rfl, w0⟩ := open_int Tryz.underlying3 (hval 0 3 v0 rfl rfl) h0
  clear hA0 hval0
  refine (law_calls a0 T W (made_ok laid) sanity_below).mono fun e W' ⟨he, bel⟩ => ?_
  subst he
  exact ⟨_, rfl, _, _, _, [], _, [], hW', trodAll_mk1 (shut_bool Tryz.underlying4 _), (trodAll_cons_mk (shut_int Tryz.underlying3 w0) (trodAll_cons_mk (Below.trod laidOut (by kernel_rfl) (of_decide_eq_true (by kernel_rfl)) k1 bel lt1) trodAll_mk0)), rfl, bel.frame _, fun h => by cases h⟩

end Go.Proofs.YtaokhbanpfmkmaaGreat
