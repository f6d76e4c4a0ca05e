/- Contracts of the reference at the numbers that are reached. -/
import Derived.Test.YtaokhbanpfmkmaaGreatQb
import Derived.Test.YtaokhbanpfmkmaaGreatQd
namespace Go.Proofs.YtaokhbanpfmkmaaGreat
set_option linter.unusedVariables false
set_option linter.unusedSimpArgs false
open Ev Go.RowKit

/-- A small number in memory: its value and where its words lie. -/
structure Rt where
  k : Int
  b : Nat
  o : Nat
  d : Nat
  p : Nat
def Rt.cs (r : Rt) : List Value := [.bool (decide (r.k < 0)), .slice (some ⟨r.b, r.o, none⟩) 1 1, .bool false, .slice (some ⟨r.d, r.p, none⟩) 1 1]
def WdAt (w : World) (b o n : Nat) : Prop := ∃ c, w.heap[b]? = some (.cells c 233 (0, 0)) ∧ c[o]? = some (.int .u32 (n : Int))
structure Rt.Ok (r : Rt) (w : World) (lo : Nat) : Prop where
  ne : r.b ≠ r.d
  lb : lo ≤ r.b
  ld : lo ≤ r.d
  hb : WdAt w r.b r.o r.k.natAbs
  hd : WdAt w r.d r.p 1

def plc (a : Nat → Pl) : Mu := fun id => if id < 1000 then ⟨id, 0, 0⟩ else a (id - 1000)
theorem plc_low (a : Nat → Pl) (id : Nat) (h : id < 1000) : plc a id = ⟨id, 0, 0⟩ := if_pos h
theorem plc_at (a : Nat → Pl) (i : Nat) : plc a (1000 + i) = a i := by unfold plc; rw [if_neg (by omega), Nat.add_sub_cancel_left]
theorem WdAt.blk {w : World} {b o n x : Nat} (h : WdAt w b o n) {μ : Mu} {id : Nat} (hm : μ id = ⟨b, o, x⟩) : BlkOk Tryz.prog w μ id (wd n) := by
  obtain ⟨c, h1, h2⟩ := h
  refine ⟨c, by rw [hm]; exact h1, fun i v hv => ?_, ?_, trivial⟩
  · rw [hm]
    cases i with
    | zero => simp at hv; subst hv; rw [ren_closed (by rfl)]; exact h2
    | succ i => simp at hv
  · rw [hm]
    show o + 1 ≤ c.size
    rcases Nat.lt_or_ge o c.size with h | h
    · exact h
    · rw [Array.getElem?_eq_none h] at h2; cases h2
theorem WdAt.of_blk {w : World} {n id : Nat} {μ : Mu} (h : BlkOk Tryz.prog w μ id (wd n)) : WdAt w (μ id).blk (μ id).base n := by
  obtain ⟨c, h1, h2, _⟩ := h
  have := h2 0 _ (by rfl)
  rw [ren_closed (by rfl)] at this
  exact ⟨c, h1, this⟩
theorem WdAt.below {w w' : World} {b o n : Nat} (h : WdAt w b o n) (hb : Below w.heap.size w w') : WdAt w' b o n := by
  obtain ⟨c, h1, h2⟩ := h
  refine ⟨c, ?_, h2⟩
  rw [hb.block b ?_, h1]
  rcases Nat.lt_or_ge b w.heap.size with h | h
  · exact h
  · rw [Array.getElem?_eq_none h] at h1; cases h1
theorem st_wd (S : Ids) (n : Nat) : StB S (wd n) := fun v hv => by
  simp [wd] at hv
  subst hv; exact stable_closed (by rfl)
theorem st_sl1 {S : Ids} {b : Nat} (h : S b) : Stable S (sl1 b) := fun μ μ' hm => by
  unfold sl1; rw [ren, ren]; unfold renA renCap; simp only [hm b h]
theorem st_agg {S : Ids} {l : List Value} (h : ∀ v ∈ l, Stable S v) : Stable S (.agg ⟨l⟩) := fun μ μ' hm => by
  rw [ren_agg, ren_agg]
  congr 2
  exact List.map_congr_left fun v hv => h v hv μ μ' hm
theorem st_rt {S : Ids} {k : Int} {b d : Nat} (h1 : S b) (h2 : S d) : Stable S (rt k b d) := by
  refine st_agg fun v hv => ?_
  simp [rtL] at hv
  rcases hv with rfl | rfl | rfl | rfl
  · exact stable_closed (by rfl)
  · exact st_sl1 h1
  · exact stable_closed (by rfl)
  · exact st_sl1 h2
theorem ren_sl1 (μ : Mu) (b : Nat) : ren μ (sl1 b) = .slice (some ⟨(μ b).blk, (μ b).base, none⟩) 1 1 := by
  unfold sl1; rw [ren]; unfold renA renCap; rw [if_neg (by unfold OPEN; omega)]; rfl
theorem ren_rt (μ : Mu) (k : Int) (b d : Nat) : ren μ (rt k b d) = .agg ⟨(Rt.mk k (μ b).blk (μ b).base (μ d).blk (μ d).base).cs⟩ := by
  unfold rt; rw [ren_agg]
  simp [rtL, Rt.cs, ren_sl1]

theorem add_calls {x y : Rt} {w : World} {l1 l2 : Nat} (hx : x.Ok w l1) (hy : y.Ok w l2) (hk : x.k ∈ pm 6) (hl : y.k ∈ pm 3) (h1 : x.b ≠ y.b) (h2 : x.b ≠ y.d) (h3 : x.d ≠ y.b) (h4 : x.d ≠ y.d) :
    Calls Tryz.prog 35 #[.agg ⟨x.cs⟩, .agg ⟨y.cs⟩] w fun e w' => Below w.heap.size w w' ∧ ((x.k + y.k ≠ 0 ∧ ∃ r : Rt, r.k = x.k + y.k ∧ e = .returned (.agg ⟨r.cs⟩) ∧ r.Ok w' w.heap.size) ∨
      (x.k + y.k = 0 ∧ ∃ d p, w.heap.size ≤ d ∧ WdAt w' d p 1 ∧ e = .returned (.agg ⟨[.bool false, .slice none 0 0, .bool false, .slice (some ⟨d, p, none⟩) 1 1]⟩))) := by
  have hrun := List.all_eq_true.1 ((allL_eq _ _).symm.trans add_all) _ hk
  have hrun := List.all_eq_true.1 ((allL_eq _ _).symm.trans hrun) _ hl
  have K := known (w := w) qrun_ok hrun (fun b hb => by simp at hb; rcases hb with rfl | rfl | rfl | rfl <;> exact st_wd _ _)
    (fun v hv => by simp at hv; rcases hv with rfl | rfl <;> exact st_rt (by unfold Upto; simp) (by unfold Upto; simp))
    (μ := plc fun i => match i with | 0 => ⟨x.b, x.o, 0⟩ | 1 => ⟨x.d, x.p, 0⟩ | 2 => ⟨y.b, y.o, 0⟩ | _ => ⟨y.d, y.p, 0⟩)
    (plc_low _) (fun i b hb => by
      match i, hb with
      | 0, hb => cases hb; exact hx.hb.blk (plc_at _ 0)
      | 1, hb => cases hb; exact hx.hd.blk (plc_at _ 1)
      | 2, hb => cases hb; exact hy.hb.blk (plc_at _ 2)
      | 3, hb => cases hb; exact hy.hd.blk (plc_at _ 3)
      | n + 4, hb => simp at hb)
    (fun i j hi hj he => by
      rw [plc_at, plc_at] at he
      have hi' : i < 4 := hi
      have hj' : j < 4 := hj
      have := hx.ne; have := hy.ne
      match i, j, hi', hj', he with
      | 0, 0, _, _, _ => rfl
      | 1, 1, _, _, _ => rfl
      | 2, 2, _, _, _ => rfl
      | 3, 3, _, _, _ => rfl
      | 0, 1, _, _, he => exact absurd he hx.ne
      | 1, 0, _, _, he => exact absurd he.symm hx.ne
      | 2, 3, _, _, he => exact absurd he hy.ne
      | 3, 2, _, _, he => exact absurd he.symm hy.ne
      | 0, 2, _, _, he => exact absurd he h1
      | 2, 0, _, _, he => exact absurd he.symm h1
      | 0, 3, _, _, he => exact absurd he h2
      | 3, 0, _, _, he => exact absurd he.symm h2
      | 1, 2, _, _, he => exact absurd he h3
      | 2, 1, _, _, he => exact absurd he.symm h3
      | 1, 3, _, _, he => exact absurd he h4
      | 3, 1, _, _, he => exact absurd he.symm h4)
  simp only [List.map_cons, List.map_nil, ren_rt] at K
  refine K.mono fun e w' ⟨hb, v, h', μ', hc, he, hold, hnew, hinj⟩ => ⟨hb, ?_⟩
  subst he
  have fin : x.k + y.k ≠ 0 → chkRat (x.k + y.k) 1004 v h' = true → ∃ r : Rt, r.k = x.k + y.k ∧ Ending.returned (ren μ' v) = .returned (.agg ⟨r.cs⟩) ∧ r.Ok w' w.heap.size := fun _ hc => by
    obtain ⟨i, j, rfl, hne, hi, hj, li, lj⟩ := chkRat_eq hc
    have bi := hnew i _ hi li
    have bj := hnew j _ hj lj
    exact ⟨⟨_, (μ' i).blk, (μ' i).base, (μ' j).blk, (μ' j).base⟩, rfl, by rw [ren_rt], ⟨fun h => hne (hinj i j _ _ li lj h), bi.2, bj.2, WdAt.of_blk bi.1, WdAt.of_blk bj.1⟩⟩
  unfold chkSum at hc
  split at hc
  · rename_i h0
    right
    obtain ⟨j, rfl, hj, lj⟩ := chkZ_eq hc
    have bj := hnew j _ hj lj
    exact ⟨h0, (μ' j).blk, (μ' j).base, bj.2, WdAt.of_blk bj.1, by unfold rz; rw [ren_agg]; simp [ren_sl1]⟩
  · rename_i h0
    left
    have hne : x.k + y.k ≠ 0 := fun h => h0 h
    exact ⟨hne, fin hne hc⟩
end Go.Proofs.YtaokhbanpfmkmaaGreat

namespace Go.Proofs.YtaokhbanpfmkmaaGreat
set_option linter.unusedVariables false
set_option linter.unusedSimpArgs false
open Ev Go.RowKit

/-! Contracts of Sign, Cmp, Whole, Scale. -/
theorem plc_inj2 {a : Nat → Pl} (h : (a 0).blk ≠ (a 1).blk) : ∀ i j, i < 2 → j < 2 → (plc a (1000 + i)).blk = (plc a (1000 + j)).blk → i = j := fun i j hi hj he => by
  rw [plc_at, plc_at] at he
  match i, j, hi, hj, he with
  | 0, 0, _, _, _ => rfl
  | 1, 1, _, _, _ => rfl
  | 0, 1, _, _, he => exact absurd he h
  | 1, 0, _, _, he => exact absurd he.symm h

theorem sign_calls {x : Rt} {w : World} {l1 : Nat} (hx : x.Ok w l1) (hk : x.k ∈ pm 9) :
    Calls Tryz.prog 36 #[.agg ⟨x.cs⟩] w fun e w' => Below w.heap.size w w' ∧ ∃ n : Int, n ≠ 0 ∧ e = .returned (.int .i64 n) := by
  have hrun := List.all_eq_true.1 ((allL_eq _ _).symm.trans sign_all) _ hk
  have K := known (w := w) qrun_ok hrun (fun b hb => by simp at hb; rcases hb with rfl | rfl <;> exact st_wd _ _)
    (fun v hv => by simp at hv; subst hv; exact st_rt (by unfold Upto; simp) (by unfold Upto; simp))
    (μ := plc fun i => match i with | 0 => ⟨x.b, x.o, 0⟩ | _ => ⟨x.d, x.p, 0⟩)
    (plc_low _) (fun i b hb => by
      match i, hb with
      | 0, hb => cases hb; exact hx.hb.blk (plc_at _ 0)
      | 1, hb => cases hb; exact hx.hd.blk (plc_at _ 1)
      | n + 2, hb => simp at hb)
    (plc_inj2 hx.ne)
  simp only [List.map_cons, List.map_nil, ren_rt] at K
  refine K.mono fun e w' ⟨hb, v, h', μ', hc, he, hold, hnew, hinj⟩ => ⟨hb, ?_⟩
  obtain ⟨n, rfl, hn⟩ := chkInt_eq hc
  exact ⟨n, by simpa using hn, by rw [he, ren_closed (by rfl)]⟩

theorem signz_calls {d p : Nat} {w : World} (hd : WdAt w d p 1) :
    Calls Tryz.prog 36 #[.agg ⟨[.bool false, .slice none 0 0, .bool false, .slice (some ⟨d, p, none⟩) 1 1]⟩] w fun e w' => Below w.heap.size w w' ∧ e = .returned (.int .i64 0) := by
  have K := known (w := w) qrun_ok sign_z (fun b hb => by simp at hb; subst hb; exact st_wd _ _)
    (fun v hv => by
      simp at hv; subst hv
      refine st_agg fun v hv => ?_
      simp at hv
      rcases hv with rfl | rfl | rfl | rfl
      · exact stable_closed (by rfl)
      · exact stable_closed (by rfl)
      · exact stable_closed (by rfl)
      · exact st_sl1 (by unfold Upto; simp))
    (μ := plc fun _ => ⟨d, p, 0⟩)
    (plc_low _) (fun i b hb => by
      match i, hb with
      | 0, hb => cases hb; exact hd.blk (plc_at _ 0)
      | n + 1, hb => simp at hb)
    (fun i j hi hj _ => by
      have hi' : i < 1 := hi
      have hj' : j < 1 := hj
      omega)
  have e1 : ren (plc fun _ => ⟨d, p, 0⟩) (rz 1000) = .agg ⟨[.bool false, .slice none 0 0, .bool false, .slice (some ⟨d, p, none⟩) 1 1]⟩ := by
    unfold rz; rw [ren_agg]; simp [ren_sl1, plc]
  simp only [List.map_cons, List.map_nil, e1] at K
  refine K.mono fun e w' ⟨hb, v, h', μ', hc, he, hold, hnew, hinj⟩ => ⟨hb, ?_⟩
  obtain ⟨n, rfl, hn⟩ := chkInt_eq hc
  have : n = 0 := by simpa using hn
  rw [he, ren_closed (by rfl), this]

theorem closed_ints (l : List Int) : closedA (.agg ⟨intsV l⟩) = true := by
  show closedL (intsV l) = true
  unfold closedL; rw [allL_eq, List.all_eq_true]
  intro v hv
  obtain ⟨n, _, rfl⟩ := List.mem_map.1 hv
  rfl
theorem cmp_calls {a b : Int × Int} (ha : a ∈ monos) (hb : b ∈ monos) (w : World) :
    Calls Tryz.prog 34 #[.agg ⟨intsV (mono a)⟩, .agg ⟨intsV (mono b)⟩] w fun e w' => Below w.heap.size w w' ∧ ∃ n : Int, e = .returned (.int .i64 n) := by
  have hrun := List.all_eq_true.1 ((allL_eq _ _).symm.trans cmp_all) _ ha
  have hrun := List.all_eq_true.1 ((allL_eq _ _).symm.trans hrun) _ hb
  have K := known (w := w) qrun_ok hrun (fun b hb => by cases hb)
    (fun v hv => by simp at hv; rcases hv with rfl | rfl <;> exact stable_closedA (closed_ints _))
    (μ := fun id => ⟨id, 0, 0⟩) (fun _ _ => rfl) (fun i b hb => by simp at hb) (fun i j hi => by cases hi)
  simp only [List.map_cons, List.map_nil, ren_closedA (closed_ints _)] at K
  refine K.mono fun e w' ⟨hb, v, h', μ', hc, he, hold, hnew, hinj⟩ => ⟨hb, ?_⟩
  obtain ⟨n, rfl, hn⟩ := chkInt_eq hc
  exact ⟨n, by rw [he, ren_closed (by rfl)]⟩

def W2At (w : World) (b o n : Nat) : Prop := ∃ c, w.heap[b]? = some (.cells c 233 (0, 0)) ∧ c[o]? = some (.int .u32 (n : Int)) ∧ c[o + 1]? = some (.int .u32 0)
theorem W2At.blk {w : World} {b o n x : Nat} (h : W2At w b o n) {μ : Mu} {id : Nat} (hm : μ id = ⟨b, o, x⟩) : BlkOk Tryz.prog w μ id (w2 n) := by
  obtain ⟨c, h1, h2, h3⟩ := h
  refine ⟨c, by rw [hm]; exact h1, fun i v hv => ?_, ?_, trivial⟩
  · rw [hm]
    match i, hv with
    | 0, hv => simp at hv; subst hv; rw [ren_closed (by rfl)]; exact h2
    | 1, hv => simp at hv; subst hv; rw [ren_closed (by rfl)]; exact h3
    | n + 2, hv => simp at hv
  · rw [hm]
    show o + 2 ≤ c.size
    rcases Nat.lt_or_ge (o + 1) c.size with h | h
    · exact h
    · rw [Array.getElem?_eq_none h] at h3; cases h3
theorem W2At.of_blk {w : World} {n id : Nat} {μ : Mu} (h : BlkOk Tryz.prog w μ id (w2 n)) : W2At w (μ id).blk (μ id).base n := by
  obtain ⟨c, h1, h2, _⟩ := h
  have a := h2 0 _ (by rfl)
  have b := h2 1 _ (by rfl)
  rw [ren_closed (by rfl)] at a b
  exact ⟨c, h1, a, b⟩
theorem W2At.below {w w' : World} {b o n : Nat} (h : W2At w b o n) (hb : Below w.heap.size w w') : W2At w' b o n := by
  obtain ⟨c, h1, h2⟩ := h
  refine ⟨c, ?_, h2⟩
  rw [hb.block b ?_, h1]
  rcases Nat.lt_or_ge b w.heap.size with h | h
  · exact h
  · rw [Array.getElem?_eq_none h] at h1; cases h1
/-- What Whole gives. -/
structure Wt where
  k : Int
  b : Nat
  o : Nat
  d : Nat
  p : Nat
def Wt.cs (r : Wt) : List Value := [.bool (decide (r.k < 0)), .slice (some ⟨r.b, r.o, none⟩) (ln r.k) 2, .bool false, .slice (some ⟨r.d, r.p, none⟩) 1 2]
structure Wt.Ok (r : Wt) (w : World) (lo : Nat) : Prop where
  ne : r.b ≠ r.d
  lb : lo ≤ r.b
  ld : lo ≤ r.d
  hb : W2At w r.b r.o r.k.natAbs
  hd : W2At w r.d r.p 1
theorem ren_sl2 (μ : Mu) (n b : Nat) : ren μ (sl2 n b) = .slice (some ⟨(μ b).blk, (μ b).base, none⟩) n 2 := by
  unfold sl2; rw [ren]; unfold renA renCap; rw [if_neg (by unfold OPEN; omega)]; rfl
theorem ren_wh (μ : Mu) (k : Int) (b d : Nat) : ren μ (wh k b d) = .agg ⟨(Wt.mk k (μ b).blk (μ b).base (μ d).blk (μ d).base).cs⟩ := by
  unfold wh; rw [ren_agg]
  simp [Wt.cs, ren_sl2]
theorem whole_calls {k : Int} (hk : k ∈ Go.Proofs.YtaokhbanpfmkmaaGreat.cs) (w : World) :
    Calls Tryz.prog 20 #[.int .i64 k] w fun e w' => Below w.heap.size w w' ∧ ∃ r : Wt, r.k = k ∧ e = .returned (.agg ⟨r.cs⟩) ∧ r.Ok w' w.heap.size := by
  have hrun := List.all_eq_true.1 ((allL_eq _ _).symm.trans whole_all) _ hk
  have K := known (w := w) qrun_ok hrun (fun b hb => by cases hb) (fun v hv => by simp at hv; subst hv; exact stable_closed (by rfl))
    (μ := fun id => ⟨id, 0, 0⟩) (fun _ _ => rfl) (fun i b hb => by simp at hb) (fun i j hi => by cases hi)
  simp only [List.map_cons, List.map_nil, ren_closed (v := .int .i64 k) (by rfl)] at K
  refine K.mono fun e w' ⟨hb, v, h', μ', hc, he, hold, hnew, hinj⟩ => ⟨hb, ?_⟩
  obtain ⟨i, j, rfl, hne, hi, hj, li, lj⟩ := chkWh_eq hc
  have bi := hnew i _ hi li
  have bj := hnew j _ hj lj
  exact ⟨⟨_, (μ' i).blk, (μ' i).base, (μ' j).blk, (μ' j).base⟩, rfl, by rw [he, ren_wh], ⟨fun h => hne (hinj i j _ _ li lj h), bi.2, bj.2, W2At.of_blk bi.1, W2At.of_blk bj.1⟩⟩
end Go.Proofs.YtaokhbanpfmkmaaGreat

namespace Go.Proofs.YtaokhbanpfmkmaaGreat
set_option linter.unusedVariables false
set_option linter.unusedSimpArgs false
open Ev Go.RowKit

theorem plcL_inj {L : List Pl} (hn : (L.map Pl.blk).Nodup) : ∀ i j, i < L.length → j < L.length → (plc (fun i => L.getD i ⟨0, 0, 0⟩) (1000 + i)).blk = (plc (fun i => L.getD i ⟨0, 0, 0⟩) (1000 + j)).blk → i = j := fun i j hi hj he => by
  rw [plc_at, plc_at, List.getD_eq_getElem?_getD, List.getD_eq_getElem?_getD, List.getElem?_eq_getElem hi, List.getElem?_eq_getElem hj] at he
  have he' : L[i].blk = L[j].blk := he
  have h1 : (L.map Pl.blk)[i]'(by simpa using hi) = L[i].blk := by simp
  have h2 : (L.map Pl.blk)[j]'(by simpa using hj) = L[j].blk := by simp
  rw [← h1, ← h2] at he'
  have hp := List.pairwise_iff_getElem.1 hn
  rcases Nat.lt_trichotomy i j with h | h | h
  · exact absurd he' (hp i j _ _ h)
  · exact h
  · exact absurd he'.symm (hp j i _ _ h)

/-- A term's cells, from a place on. -/
def Cells (w : World) (b o : Nat) (l : List Value) : Prop := ∃ c, w.heap[b]? = some (.cells c 83 (0, 0)) ∧ ∀ i v, l[i]? = some v → c[o + i]? = some v
theorem ren_ints (μ : Mu) (l : List Int) : (intsV l).map (ren μ) = intsV l := ren_closedL (closed_ints l) μ
theorem tm_map (μ : Mu) (k : Int) (b d : Nat) (e : Int × Int) : (tmL k b d e).map (ren μ) = (Rt.mk k (μ b).blk (μ b).base (μ d).blk (μ d).base).cs ++ intsV (mono e) := by
  unfold tmL; rw [List.map_append, ren_ints]
  simp [rtL, Rt.cs, ren_sl1]
theorem tm2_map (μ : Mu) (b d : Nat) (e : Int × Int) : (tm2L b d e).map (ren μ) = (Wt.mk 1 (μ b).blk (μ b).base (μ d).blk (μ d).base).cs ++ intsV (mono e) := by
  unfold tm2L; rw [List.map_append, ren_ints]
  simp [Wt.cs, ren_sl2, ln]
theorem st_sl2 {S : Ids} {n b : Nat} (h : S b) : Stable S (sl2 n b) := fun μ μ' hm => by
  unfold sl2; rw [ren, ren]; unfold renA renCap; simp only [hm b h]
theorem st_w2 (S : Ids) (n : Nat) : StB S (w2 n) := fun v hv => by
  simp [w2] at hv
  rcases hv with rfl | rfl <;> exact stable_closed (by rfl)
theorem st_wh {S : Ids} {k : Int} {b d : Nat} (h1 : S b) (h2 : S d) : Stable S (wh k b d) := by
  refine st_agg fun v hv => ?_
  simp at hv
  rcases hv with rfl | rfl | rfl | rfl
  · exact stable_closed (by rfl)
  · exact st_sl2 h1
  · exact stable_closed (by rfl)
  · exact st_sl2 h2
theorem st_ints {S : Ids} {l : List Int} {v : Value} (h : v ∈ intsV l) : Stable S v := by
  obtain ⟨n, _, rfl⟩ := List.mem_map.1 h
  exact stable_closed (by rfl)
theorem Cells.below {w w' : World} {b o : Nat} {l : List Value} (h : Cells w b o l) (hb : Below w.heap.size w w') : Cells w' b o l := by
  obtain ⟨c, h1, h2⟩ := h
  refine ⟨c, ?_, h2⟩
  rw [hb.block b ?_, h1]
  rcases Nat.lt_or_ge b w.heap.size with h | h
  · exact h
  · rw [Array.getElem?_eq_none h] at h1; cases h1

theorem scale_calls {c u : Wt} {e : Int × Int} {b l1 l2 : Nat} {w : World} (hc : c.Ok w l1) (hu : u.Ok w l2) (hu1 : u.k = 1) (hk : c.k ∈ Go.Proofs.YtaokhbanpfmkmaaGreat.cs) (he : e ∈ monos)
    (hn : [c.b, c.d, u.b, u.d, b].Nodup) (hrow : w.heap[b]? = some (.cells ⟨u.cs ++ intsV (mono e)⟩ 83 (0, 0))) :
    Calls Tryz.prog 19 #[.agg ⟨c.cs⟩, .slice (some ⟨b, 0, none⟩) 1 1] w fun en w' => Below w.heap.size w w' ∧ ((c.k = 0 ∧ en = .returned (.slice none 0 0)) ∨
      (c.k ≠ 0 ∧ ∃ (t : Rt) (b' o cap : Nat), t.k = c.k ∧ t.Ok w' w.heap.size ∧ w.heap.size ≤ b' ∧ en = .returned (.slice (some ⟨b', o, none⟩) 1 cap) ∧ Cells w' b' o (t.cs ++ intsV (mono e)))) := by
  have hrun := List.all_eq_true.1 ((allL_eq _ _).symm.trans scale_all) _ hk
  have hrun := List.all_eq_true.1 ((allL_eq _ _).symm.trans hrun) _ he
  have huc : u.cs ++ intsV (mono e) = (tm2L 1002 1003 e).map (ren (plc fun i => [Pl.mk c.b c.o 0, ⟨c.d, c.p, 0⟩, ⟨u.b, u.o, 0⟩, ⟨u.d, u.p, 0⟩, ⟨b, 0, 0⟩].getD i ⟨0, 0, 0⟩)) := by
    rw [tm2_map]
    have : u = ⟨1, u.b, u.o, u.d, u.p⟩ := by cases u; cases hu1; rfl
    rw [this]; rfl
  have K := known (w := w) qrun_ok hrun (fun b hb => by
      simp at hb
      rcases hb with rfl | rfl | rfl
      · exact st_w2 _ _
      · exact st_w2 _ _
      · intro v hv
        unfold tm2L at hv
        rcases List.mem_append.1 hv with hv | hv
        · simp at hv
          rcases hv with rfl | rfl | rfl | rfl
          · exact stable_closed (by rfl)
          · exact st_sl2 (by unfold Upto; simp)
          · exact stable_closed (by rfl)
          · exact st_sl2 (by unfold Upto; simp)
        · exact st_ints hv)
    (fun v hv => by
      simp at hv
      rcases hv with rfl | rfl
      · exact st_wh (by unfold Upto; simp) (by unfold Upto; simp)
      · exact st_sl1 (by unfold Upto; simp))
    (μ := plc fun i => [Pl.mk c.b c.o 0, ⟨c.d, c.p, 0⟩, ⟨u.b, u.o, 0⟩, ⟨u.d, u.p, 0⟩, ⟨b, 0, 0⟩].getD i ⟨0, 0, 0⟩)
    (plc_low _) (fun i b hb => by
      match i, hb with
      | 0, hb => cases hb; exact hc.hb.blk (plc_at _ 0)
      | 1, hb => cases hb; exact hc.hd.blk (plc_at _ 1)
      | 2, hb => cases hb; have := hu.hb; rw [hu1] at this; exact this.blk (plc_at _ 2)
      | 3, hb => cases hb; exact hu.hd.blk (plc_at _ 3)
      | 4, hb =>
        cases hb
        refine ⟨_, hrow, fun i v hv => ?_, ?_, trivial⟩
        · have e0 : (plc (fun i => [Pl.mk c.b c.o 0, ⟨c.d, c.p, 0⟩, ⟨u.b, u.o, 0⟩, ⟨u.d, u.p, 0⟩, ⟨b, 0, 0⟩].getD i ⟨0, 0, 0⟩) (1000 + 4)).base = 0 := rfl
          rw [e0, Nat.zero_add, List.getElem?_toArray, huc, List.getElem?_map, hv]; rfl
        · show 0 + _ ≤ _
          rw [huc]; simp
      | n + 5, hb => simp at hb)
    (plcL_inj (L := [Pl.mk c.b c.o 0, ⟨c.d, c.p, 0⟩, ⟨u.b, u.o, 0⟩, ⟨u.d, u.p, 0⟩, ⟨b, 0, 0⟩]) hn)
  have a1 : ren (plc fun i => [Pl.mk c.b c.o 0, ⟨c.d, c.p, 0⟩, ⟨u.b, u.o, 0⟩, ⟨u.d, u.p, 0⟩, ⟨b, 0, 0⟩].getD i ⟨0, 0, 0⟩) (wh c.k 1000 1001) = .agg ⟨c.cs⟩ := by rw [ren_wh]; rfl
  have a2 : ren (plc fun i => [Pl.mk c.b c.o 0, ⟨c.d, c.p, 0⟩, ⟨u.b, u.o, 0⟩, ⟨u.d, u.p, 0⟩, ⟨b, 0, 0⟩].getD i ⟨0, 0, 0⟩) (.slice (some ⟨1004, 0, none⟩) 1 1) = .slice (some ⟨b, 0, none⟩) 1 1 := ren_sl1 _ 1004
  simp only [List.map_cons, List.map_nil, a1, a2] at K
  refine K.mono fun en w' ⟨hb, v, h', μ', hck, hen, hold, hnew, hinj⟩ => ⟨hb, ?_⟩
  rcases chkScale_eq hck with ⟨h0, rfl⟩ | ⟨b', cap, i, j, o, h0, rfl, h1, h2, h3, h4, h5, li, lj⟩
  · exact .inl ⟨h0, by rw [hen, ren]⟩
  · right
    have bi := hnew i _ h4 li
    have bj := hnew j _ h5 lj
    have bb := hnew b' _ h1 h2
    refine ⟨h0, ⟨_, (μ' i).blk, (μ' i).base, (μ' j).blk, (μ' j).base⟩, (μ' b').blk, (μ' b').base, renCap μ' ⟨b', 0, none⟩ cap, rfl, ⟨fun h => h3 (hinj i j _ _ li lj h), bi.2, bj.2, WdAt.of_blk bi.1, WdAt.of_blk bj.1⟩, bb.2, ?_, ?_⟩
    · rw [hen, ren]; rfl
    · obtain ⟨cc, g1, g2, _⟩ := bb.1
      refine ⟨cc, g1, fun n v hv => ?_⟩
      rw [← tm_map, List.getElem?_map] at hv
      cases hq : (tmL c.k i j e)[n]? with
      | none => rw [hq] at hv; cases hv
      | some q =>
        rw [hq] at hv
        cases hv
        exact g2 n q hq
end Go.Proofs.YtaokhbanpfmkmaaGreat
