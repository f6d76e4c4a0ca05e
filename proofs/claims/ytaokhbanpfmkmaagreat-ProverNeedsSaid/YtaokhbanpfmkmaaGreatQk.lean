/- Add of short polynomials: its contract. -/
import Derived.Test.YtaokhbanpfmkmaaGreatQi
import Derived.Test.YtaokhbanpfmkmaaGreatQe
import Derived.Test.YtaokhbanpfmkmaaGreatQja
import Derived.Test.YtaokhbanpfmkmaaGreatQjb
import Derived.Test.YtaokhbanpfmkmaaGreatQjc
import Derived.Test.YtaokhbanpfmkmaaGreatQje
import Derived.Test.YtaokhbanpfmkmaaGreatQjf
import Derived.Test.YtaokhbanpfmkmaaGreatQjg
import Derived.Test.YtaokhbanpfmkmaaGreatQjh
import Derived.Test.YtaokhbanpfmkmaaGreatQjk
import Derived.Test.YtaokhbanpfmkmaaGreatQjl
import Derived.Test.YtaokhbanpfmkmaaGreatQjm
import Derived.Test.YtaokhbanpfmkmaaGreatQjn
import Derived.Test.YtaokhbanpfmkmaaGreatQjo
import Derived.Test.YtaokhbanpfmkmaaGreatQh
import Derived.Deep.RegionHeld3
import Derived.Deep.RegionWith
namespace Go.Proofs.YtaokhbanpfmkmaaGreat
set_option linter.unusedVariables false
set_option linter.unusedSimpArgs false
open Ev Go.RowKit

/-! Use of Add's runs. -/
abbrev TM := Rt × (Int × Int)
def ab (x : Bool × TM) : AT := ⟨decide (x.2.1.k < 0), x.2.2, cond x.1 (some x.2.1.k.natAbs) none⟩
def flatT : List TM → List Value
  | [] => []
  | x :: l => (x.1.cs ++ intsV (mono x.2)) ++ flatT l
def wz : List (Bool × TM) → List (Blk × Pl)
  | [] => []
  | x :: l => (wx (ab x).x, ⟨x.2.1.b, x.2.1.o, 0⟩) :: (wy (ab x).x, ⟨x.2.1.d, x.2.1.p, 0⟩) :: wz l
def bks : List TM → List Nat
  | [] => []
  | x :: l => x.1.b :: x.1.d :: bks l
def TOk (w : World) (x : TM) : Prop := WdAt w x.1.b x.1.o x.1.k.natAbs ∧ WdAt w x.1.d x.1.p 1
def RowAt (w : World) (b o : Nat) (l : List Value) : Prop := ∃ c, w.heap[b]? = some (.cells c 83 (0, 0)) ∧ (∀ i v, l[i]? = some v → c[o + i]? = some v) ∧ o + l.length ≤ c.size

theorem WdAt.open0 {w : World} {b o n x : Nat} (h : WdAt w b o n) {μ : Mu} {id : Nat} (hm : μ id = ⟨b, o, x⟩) : BlkOk Tryz.prog w μ id (.row [] 233 false) := by
  obtain ⟨c, h1, h2⟩ := h
  refine ⟨c, by rw [hm]; exact h1, fun i v hv => by simp at hv, ?_, trivial⟩
  rw [hm]
  show o + 0 ≤ c.size
  rcases Nat.lt_or_ge o c.size with h | h
  · omega
  · rw [Array.getElem?_eq_none h] at h2; cases h2

theorem wz_ok {w : World} : ∀ (L : List (Bool × TM)), (∀ x ∈ L, TOk w x.2) → ∀ z ∈ wz L, ∀ (μ : Mu) (id : Nat), μ id = z.2 → BlkOk Tryz.prog w μ id z.1 := by
  intro L
  induction L with
  | nil => intro _ z hz; cases hz
  | cons x l ih =>
    intro h z hz μ id hm
    have hx := h x (.head _)
    unfold wz at hz
    rcases List.mem_cons.1 hz with rfl | hz
    · obtain ⟨f, t⟩ := x
      cases f
      · exact hx.1.open0 hm
      · exact hx.1.blk hm
    rcases List.mem_cons.1 hz with rfl | hz
    · obtain ⟨f, t⟩ := x
      cases f
      · exact hx.2.open0 hm
      · exact hx.2.blk hm
    exact ih (fun y hy => h y (.tail _ hy)) z hz μ id hm

theorem flat_ok (μ : Mu) : ∀ (L : List (Bool × TM)) (n : Nat), (∀ j pl, ((wz L).map Prod.snd)[j]? = some pl → μ (n + j) = pl) → (flatA (L.map ab) n).map (ren μ) = flatT (L.map Prod.snd) := by
  intro L
  induction L with
  | nil => intro n _; rfl
  | cons x l ih =>
    intro n h
    have h0 : μ n = _ := h 0 _ rfl
    have h1 : μ (n + 1) = _ := h 1 _ rfl
    have hl := ih (n + 2) fun j pl hj => by
      have := h (j + 2) pl hj
      rwa [show n + (j + 2) = n + 2 + j by omega] at this
    show ((.bool (ab x).s :: sl1 n :: .bool false :: sl1 (n + 1) :: intsV (mono x.2.2)) ++ flatA (l.map ab) (n + 2)).map (ren μ) = (x.2.1.cs ++ intsV (mono x.2.2)) ++ flatT (l.map Prod.snd)
    rw [List.map_append, hl]
    simp only [List.map_cons, ren_bool, ren_sl1, ren_ints, h0, h1]
    rfl

theorem wz_len : ∀ (L : List (Bool × TM)), (wz L).length = 2 * L.length := by
  intro L
  induction L with
  | nil => rfl
  | cons x l ih => unfold wz; simp only [List.length_cons, ih]; omega
theorem wz_fst : ∀ (L : List (Bool × TM)), (wz L).map Prod.fst = wbl (L.map ab) := by
  intro L
  induction L with
  | nil => rfl
  | cons x l ih => show _ :: _ :: _ = _ :: _ :: _; rw [ih]
def zA (L M : List (Bool × TM)) (p q : Pl) : List (Blk × Pl) := (.row (flatA (L.map ab) 1001) 83 false, p) :: (wz L ++ (wz M ++ (qrow L.length (M.map ab)).map fun b => (b, q)))
theorem zA_fst (L M : List (Bool × TM)) (p q : Pl) : (zA L M p q).map Prod.fst = preA (L.map ab) (M.map ab) := by
  unfold zA preA
  rw [List.map_cons, List.map_append, List.map_append, wz_fst, wz_fst, List.map_map, List.length_map]
  congr 3
  conv => rhs; rw [← List.map_id (qrow L.length (M.map ab))]
  rfl
def zμ (Z : List (Blk × Pl)) : Mu := plc fun i => (Z.map Prod.snd).getD i ⟨0, 0, 0⟩
theorem mu_at {Z : List (Blk × Pl)} {i : Nat} {pl : Pl} (h : (Z.map Prod.snd)[i]? = some pl) : zμ Z (1000 + i) = pl := by
  unfold zμ; rw [plc_at, List.getD_eq_getElem?_getD, h]; rfl
theorem row_blk {w : World} {μ : Mu} {id b o x : Nat} {l l' : List Value} (h : RowAt w b o l) (hm : μ id = ⟨b, o, x⟩) (he : l'.map (ren μ) = l) : BlkOk Tryz.prog w μ id (.row l' 83 false) := by
  obtain ⟨c, h1, h2, h3⟩ := h
  refine ⟨c, by rw [hm]; exact h1, fun i v hv => ?_, ?_, trivial⟩
  · rw [hm]; exact h2 i _ (by rw [← he, List.getElem?_map, hv]; rfl)
  · rw [hm]
    have := congrArg List.length he
    rw [List.length_map] at this
    show o + l'.length ≤ c.size
    rw [this]; exact h3
theorem blk_row {w : World} {μ : Mu} {id : Nat} {l : List Value} {op : Bool} (h : BlkOk Tryz.prog w μ id (.row l 83 op)) : RowAt w (μ id).blk (μ id).base (l.map (ren μ)) := by
  obtain ⟨c, h1, h2, h3, _⟩ := h
  refine ⟨c, h1, fun i v hv => ?_, by rw [List.length_map]; exact h3⟩
  rw [List.getElem?_map] at hv
  cases hq : l[i]? with
  | none => rw [hq] at hv; cases hv
  | some q => rw [hq] at hv; cases hv; exact h2 i q hq

theorem zA_L (L M : List (Bool × TM)) (p q : Pl) (j : Nat) (pl : Pl) (h : ((wz L).map Prod.snd)[j]? = some pl) : zμ (zA L M p q) (1001 + j) = pl := by
  rw [show 1001 + j = 1000 + (j + 1) by omega]
  refine mu_at ?_
  unfold zA
  rw [List.map_cons, List.getElem?_cons_succ, List.map_append, List.getElem?_append_left (by
    rcases Nat.lt_or_ge j ((wz L).map Prod.snd).length with h2 | h2
    · exact h2
    · rw [List.getElem?_eq_none h2] at h; cases h)]
  exact h
theorem zA_M (L M : List (Bool × TM)) (p q : Pl) (j : Nat) (pl : Pl) (h : ((wz M).map Prod.snd)[j]? = some pl) : zμ (zA L M p q) (1001 + 2 * L.length + j) = pl := by
  rw [show 1001 + 2 * L.length + j = 1000 + (2 * L.length + j + 1) by omega]
  refine mu_at ?_
  unfold zA
  rw [List.map_cons, List.getElem?_cons_succ, List.map_append, List.getElem?_append_right (by rw [List.length_map, wz_len]; omega), List.length_map, wz_len, show 2 * L.length + j - 2 * L.length = j by omega,
    List.map_append, List.getElem?_append_left (by
    rcases Nat.lt_or_ge j ((wz M).map Prod.snd).length with h2 | h2
    · exact h2
    · rw [List.getElem?_eq_none h2] at h; cases h)]
  exact h
theorem zA_q (L : List (Bool × TM)) (m : Bool × TM) (M : List (Bool × TM)) (p q : Pl) : zμ (zA L (m :: M) p q) (1001 + 2 * (L.length + (M.length + 1))) = q := by
  rw [show 1001 + 2 * (L.length + (M.length + 1)) = 1000 + (2 * L.length + (2 * (M.length + 1)) + 1) by omega]
  refine mu_at ?_
  unfold zA
  rw [List.map_cons, List.getElem?_cons_succ, List.map_append, List.getElem?_append_right (by rw [List.length_map, wz_len]; omega), List.length_map, wz_len, show 2 * L.length + 2 * (M.length + 1) - 2 * L.length = 2 * (M.length + 1) by omega,
    List.map_append, List.getElem?_append_right (by rw [List.length_map, wz_len, List.length_cons]; omega), List.length_map, wz_len, List.length_cons, Nat.sub_self]
  rfl

theorem flatA_st {N : Nat} : ∀ (A : List AT) (n : Nat), n + 2 * A.length ≤ 1000 + N → ∀ v ∈ flatA A n, Stable (Upto N) v := by
  intro A
  induction A with
  | nil => intro n _ v hv; cases hv
  | cons a A ih =>
    intro n hn v hv
    rw [List.length_cons] at hn
    have hv' : v ∈ (Value.bool a.s :: sl1 n :: .bool false :: sl1 (n + 1) :: intsV (mono a.e)) ++ flatA A (n + 2) := hv
    rcases List.mem_append.1 hv' with hv | hv
    · simp only [List.mem_cons] at hv
      rcases hv with rfl | rfl | rfl | rfl | hv
      · exact stable_closed (by rfl)
      · exact st_sl1 (by unfold Upto; omega)
      · exact stable_closed (by rfl)
      · exact st_sl1 (by unfold Upto; omega)
      · exact st_ints hv
    · exact ih (n + 2) (by omega) v hv
theorem wbl_st {S : Ids} : ∀ (A : List AT), ∀ b ∈ wbl A, StB S b := by
  intro A
  induction A with
  | nil => intro b hb; cases hb
  | cons a A ih =>
    intro b hb
    unfold wbl at hb
    rcases List.mem_cons.1 hb with rfl | hb
    · cases a.x with
      | none => exact fun v hv => (by cases hv)
      | some n => exact st_wd _ _
    rcases List.mem_cons.1 hb with rfl | hb
    · cases a.x with
      | none => exact fun v hv => (by cases hv)
      | some n => exact st_wd _ _
    exact ih b hb
theorem wbl_len : ∀ (A : List AT), (wbl A).length = 2 * A.length := by
  intro A
  induction A with
  | nil => rfl
  | cons x l ih => unfold wbl; simp only [List.length_cons, ih]; omega
theorem preA_st (A B : List AT) : ∀ b ∈ preA A B, StB (Upto (preA A B).length) b := by
  intro b hb
  have hlen : (preA A B).length = 1 + (2 * A.length + (2 * B.length + (qrow A.length B).length)) := by
    unfold preA; simp only [List.length_cons, List.length_append, wbl_len]; omega
  rw [hlen]
  unfold preA at hb
  rcases List.mem_cons.1 hb with rfl | hb
  · exact fun v hv => flatA_st A 1001 (by omega) v hv
  rcases List.mem_append.1 hb with hb | hb
  · exact wbl_st A b hb
  rcases List.mem_append.1 hb with hb | hb
  · exact wbl_st B b hb
  cases B with
  | nil => cases hb
  | cons m M =>
    have : b = .row (flatA (m :: M) (1001 + 2 * A.length)) 83 false := by simpa [qrow] using hb
    subst this
    exact fun v hv => flatA_st (m :: M) _ (by simp [qrow]; omega) v hv

def qv (q : Pl) : List (Bool × TM) → Value
  | [] => .slice none 0 0
  | m :: M => .slice (some ⟨q.blk, q.base, none⟩) (m :: M).length q.ext
theorem ren_open (μ : Mu) (b n : Nat) : ren μ (.slice (some ⟨b, 0, none⟩) n OPEN) = .slice (some ⟨(μ b).blk, (μ b).base, none⟩) n (μ b).ext := by
  rw [ren_slice1]; unfold renA renCap
  rw [if_pos (Nat.le_refl _), Nat.sub_self]
  simp

theorem known_add {chk : Nat → Value → Hp → Bool} {L M : List (Bool × TM)} {w : World} {p q : Pl} (he : aRun chk (L.map ab) (M.map ab) = true)
    (hL : ∀ x ∈ L, TOk w x.2) (hM : ∀ x ∈ M, TOk w x.2) (hp : RowAt w p.blk p.base (flatT (L.map Prod.snd))) (hq : M ≠ [] → RowAt w q.blk q.base (flatT (M.map Prod.snd)))
    (hn : (((zA L M p q).map Prod.snd).map Pl.blk).Nodup) :
    Calls Tryz.prog 18 #[.slice (some ⟨p.blk, p.base, none⟩) L.length p.ext, qv q M] w fun e w' => Below w.heap.size w w' ∧ ∃ v h' μ', chk (1000 + (preA (L.map ab) (M.map ab)).length) v h' = true ∧ e = .returned (ren μ' v) ∧
      (∀ id, id < 1000 + (preA (L.map ab) (M.map ab)).length → μ' id = zμ (zA L M p q) id) ∧
      (∀ id b, 1000 + (preA (L.map ab) (M.map ab)).length ≤ id → h'.look id = some b → BlkOk Tryz.prog w' μ' id b ∧ w.heap.size ≤ (μ' id).blk) ∧
      (∀ id id' b b', h'.look id = some b → h'.look id' = some b' → (μ' id).blk = (μ' id').blk → id = id') := by
  have hz := zA_fst L M p q
  have hlen : (preA (L.map ab) (M.map ab)).length = ((zA L M p q).map Prod.snd).length := by rw [← hz, List.length_map, List.length_map]
  have K := known (w := w) arun_ok he (preA_st _ _) (fun v hv => by
      have hl : (preA (L.map ab) (M.map ab)).length = 1 + (2 * L.length + (2 * M.length + (qrow L.length (M.map ab)).length)) := by
        unfold preA; simp only [List.length_cons, List.length_append, wbl_len, List.length_map]; omega
      rw [hl]
      simp only [List.mem_cons, List.not_mem_nil, or_false, List.length_map] at hv
      rcases hv with rfl | rfl
      · exact stable_slice (by unfold Upto; simp only; omega)
      · cases M with
        | nil => exact stable_closed (by rfl)
        | cons m M => exact stable_slice (by unfold Upto; simp [qrow]; omega))
    (μ := zμ (zA L M p q)) (plc_low _) (fun i b hb => by
      rw [← hz, List.getElem?_map] at hb
      cases hq2 : (zA L M p q)[i]? with
      | none => rw [hq2] at hb; cases hb
      | some z =>
        rw [hq2] at hb; cases hb
        have hm : zμ (zA L M p q) (1000 + i) = z.2 := mu_at (by rw [List.getElem?_map, hq2]; rfl)
        have hmem := List.mem_of_getElem? hq2
        unfold zA at hmem
        rcases List.mem_cons.1 hmem with rfl | hmem
        · exact row_blk hp hm (flat_ok _ L 1001 (zA_L L M p q))
        rcases List.mem_append.1 hmem with hmem | hmem
        · exact wz_ok L hL z hmem _ _ hm
        rcases List.mem_append.1 hmem with hmem | hmem
        · exact wz_ok M hM z hmem _ _ hm
        cases M with
        | nil => cases hmem
        | cons m M =>
          have : z = (.row (flatA ((m :: M).map ab) (1001 + 2 * L.length)) 83 false, q) := by simpa [qrow] using hmem
          subst this
          exact row_blk (hq (by simp)) hm (flat_ok _ (m :: M) _ (zA_M L (m :: M) p q)))
    (by
      rw [hlen]
      exact plcL_inj hn)
  have a1 : ren (zμ (zA L M p q)) (parg (L.map ab).length) = .slice (some ⟨p.blk, p.base, none⟩) L.length p.ext := by
    unfold parg; rw [ren_open, List.length_map]; rfl
  have a2 : ren (zμ (zA L M p q)) (qarg (L.map ab).length (M.map ab).length) = qv q M := by
    cases M with
    | nil => exact ren_slice0 _ _ _
    | cons m M =>
      show ren _ (.slice (some ⟨1001 + 2 * ((L.map ab).length + ((M.map ab).length + 1)), 0, none⟩) ((M.map ab).length + 1) OPEN) = _
      rw [ren_open, List.length_map, List.length_map, zA_q]; rfl
  simp only [List.map_cons, List.map_nil, a1, a2] at K
  exact K

/-! The ends. -/
theorem flatO_ren (μ : Mu) : ∀ (E : List (Nat × (Bool × TM))), (∀ x ∈ E, μ (1001 + 2 * x.1) = ⟨x.2.2.1.b, x.2.2.1.o, 0⟩ ∧ μ (1002 + 2 * x.1) = ⟨x.2.2.1.d, x.2.2.1.p, 0⟩) →
    (flatO (E.map fun x => (x.1, ab x.2))).map (ren μ) = flatT (E.map fun x => x.2.2) := by
  intro E
  induction E with
  | nil => intro _; rfl
  | cons x l ih =>
    intro h
    obtain ⟨h0, h1⟩ := h x (.head _)
    have hl := ih fun y hy => h y (.tail _ hy)
    show ((.bool (ab x.2).s :: sl1 (1001 + 2 * x.1) :: .bool false :: sl1 (1002 + 2 * x.1) :: intsV (mono x.2.2.2)) ++ flatO (l.map fun x => (x.1, ab x.2))).map (ren μ) = (x.2.2.1.cs ++ intsV (mono x.2.2.2)) ++ flatT (l.map fun x => x.2.2)
    rw [List.map_append, hl]
    simp only [List.map_cons, ren_bool, ren_sl1, ren_ints, h0, h1]
    rfl
theorem old_end {E : List (Nat × (Bool × TM))} {lo : Nat} {v : Value} {h : Hp} {w' : World} {μ : Mu} (hc : chkOld (E.map fun x => (x.1, ab x.2)) lo v h = true)
    (hpl : ∀ x ∈ E, μ (1001 + 2 * x.1) = ⟨x.2.2.1.b, x.2.2.1.o, 0⟩ ∧ μ (1002 + 2 * x.1) = ⟨x.2.2.1.d, x.2.2.1.p, 0⟩) (hnew : ∀ id b, lo ≤ id → h.look id = some b → BlkOk Tryz.prog w' μ id b) :
    ∃ b o c, ren μ v = .slice (some ⟨b, o, none⟩) E.length c ∧ RowAt w' b o (flatT (E.map fun x => x.2.2)) := by
  obtain ⟨b, c, o, rfl, h1, h2⟩ := chkOld_eq hc
  have := blk_row (hnew b _ h1 h2)
  rw [flatO_ren μ E hpl] at this
  refine ⟨(μ b).blk, (μ b).base, renCap μ ⟨b, 0, none⟩ c, ?_, this⟩
  rw [ren_slice1, List.length_map]
  rfl
theorem new_end {k : Int} {e : Int × Int} {lo m : Nat} {v : Value} {h : Hp} {w' : World} {μ : Mu} (hk : k ≠ 0) (hc : chkNew k e lo v h = true) (hnew : ∀ id b, lo ≤ id → h.look id = some b → BlkOk Tryz.prog w' μ id b ∧ m ≤ (μ id).blk)
    (hinj : ∀ id id' b b', h.look id = some b → h.look id' = some b' → (μ id).blk = (μ id').blk → id = id') :
    ∃ t : Rt, t.k = k ∧ ∃ b o c, ren μ v = .slice (some ⟨b, o, none⟩) 1 c ∧ RowAt w' b o (flatT [(t, e)]) ∧ TOk w' (t, e) ∧ t.b ≠ t.d := by
  rcases chkNew_eq hc with ⟨h0, _⟩ | ⟨b, c, i, j, o, _, rfl, h1, h2, h3, h4, h5, li, lj⟩
  · exact absurd h0 hk
  · have bi := hnew i _ h4 li
    have bj := hnew j _ h5 lj
    have := blk_row (hnew b _ h1 h2).1
    rw [tm_map] at this
    refine ⟨⟨k, (μ i).blk, (μ i).base, (μ j).blk, (μ j).base⟩, rfl, (μ b).blk, (μ b).base, renCap μ ⟨b, 0, none⟩ c, by rw [ren_slice1]; rfl, ?_, ⟨WdAt.of_blk bi.1, WdAt.of_blk bj.1⟩, fun h => h3 (hinj i j _ _ li lj h)⟩
    show RowAt _ _ _ (_ ++ [])
    rw [List.append_nil]
    exact this
end Go.Proofs.YtaokhbanpfmkmaaGreat

namespace Go.Proofs.YtaokhbanpfmkmaaGreat
set_option linter.unusedVariables false
set_option linter.unusedSimpArgs false
open Ev Go.RowKit

/-! One step of Add. -/
def Slc (v : Value) : Prop := ∃ a l c, v = .slice a l c
theorem slc_ren {μ : Mu} {v : Value} (h : ∃ a l c, v = .slice a l c) : Slc (ren μ v) := by
  obtain ⟨a, l, c, rfl⟩ := h
  cases a with
  | none => exact ⟨_, _, _, ren_slice0 _ _ _⟩
  | some a => exact ⟨_, _, _, ren_slice1 _ _ _ _⟩
def Pst (w : World) (v : Value) (L : List TM) : Prop := ∃ b o c, v = .slice (some ⟨b, o, none⟩) L.length c ∧ RowAt w b o (flatT L) ∧ (∀ x ∈ L, TOk w x) ∧ (bks L).Nodup
def Qst (w : World) (mid : Nat) (v : Value) (M : List TM) : Prop := (M = [] ∧ v = .slice none 0 0) ∨
  ∃ x b o c, M = [x] ∧ v = .slice (some ⟨b, o, none⟩) 1 c ∧ RowAt w b o (flatT [x]) ∧ TOk w x ∧ x.1.b ≠ x.1.d ∧ mid ≤ b ∧ mid ≤ x.1.b ∧ mid ≤ x.1.d
theorem lt_of_heap {w : World} {b : Nat} {x : Obj} (h : w.heap[b]? = some x) : b < w.heap.size := by
  rcases Nat.lt_or_ge b w.heap.size with g | g
  · exact g
  · rw [Array.getElem?_eq_none g] at h; cases h
theorem RowAt.below {w w' : World} {b o : Nat} {l : List Value} (h : RowAt w b o l) (hb : Below w.heap.size w w') : RowAt w' b o l := by
  obtain ⟨c, h1, h2⟩ := h
  exact ⟨c, by rw [hb.block b (lt_of_heap h1), h1], h2⟩
theorem RowAt.lt {w : World} {b o : Nat} {l : List Value} (h : RowAt w b o l) : b < w.heap.size := by
  obtain ⟨c, h1, _⟩ := h; exact lt_of_heap h1
theorem WdAt.lt {w : World} {b o n : Nat} (h : WdAt w b o n) : b < w.heap.size := by
  obtain ⟨c, h1, _⟩ := h; exact lt_of_heap h1
theorem WdAt.ne {w : World} {b o n b' o' : Nat} {l : List Value} (h : WdAt w b o n) (h' : RowAt w b' o' l) : b' ≠ b := by
  rintro rfl
  obtain ⟨c, h1, _⟩ := h
  obtain ⟨d, h2, _⟩ := h'
  rw [h1] at h2
  injection h2 with h2
  injection h2 with h3 h4
  cases h4
theorem TOk.below {w w' : World} {x : TM} (h : TOk w x) (hb : Below w.heap.size w w') : TOk w' x := ⟨h.1.below hb, h.2.below hb⟩
theorem Pst.below {w w' : World} {v : Value} {L : List TM} (h : Pst w v L) (hb : Below w.heap.size w w') : Pst w' v L := by
  obtain ⟨b, o, c, h1, h2, h3, h4⟩ := h
  exact ⟨b, o, c, h1, h2.below hb, fun x hx => (h3 x hx).below hb, h4⟩
theorem bks_mem {w : World} : ∀ {L : List TM}, (∀ x ∈ L, TOk w x) → ∀ b ∈ bks L, ∃ o n, WdAt w b o n := by
  intro L
  induction L with
  | nil => intro _ b hb; cases hb
  | cons x l ih =>
    intro h b hb
    unfold bks at hb
    rcases List.mem_cons.1 hb with rfl | hb
    · exact ⟨_, _, (h x (.head _)).1⟩
    rcases List.mem_cons.1 hb with rfl | hb
    · exact ⟨_, _, (h x (.head _)).2⟩
    exact ih (fun y hy => h y (.tail _ hy)) b hb
theorem wz_bks : ∀ (L : List (Bool × TM)), ((wz L).map Prod.snd).map Pl.blk = bks (L.map Prod.snd) := by
  intro L
  induction L with
  | nil => rfl
  | cons x l ih => show _ :: _ :: _ = _ :: _ :: _; rw [ih]

def AddEnd (chk : Nat → Value → Hp → Bool) (L M : List (Bool × TM)) (P Q : Pl) (w : World) (e : Ending) (w' : World) : Prop :=
  Below w.heap.size w w' ∧ ∃ v h' μ', chk (1000 + (preA (L.map ab) (M.map ab)).length) v h' = true ∧ e = .returned (ren μ' v) ∧
      (∀ id, id < 1000 + (preA (L.map ab) (M.map ab)).length → μ' id = zμ (zA L M P Q) id) ∧
      (∀ id b, 1000 + (preA (L.map ab) (M.map ab)).length ≤ id → h'.look id = some b → BlkOk Tryz.prog w' μ' id b ∧ w.heap.size ≤ (μ' id).blk) ∧
      (∀ id id' b b', h'.look id = some b → h'.look id' = some b' → (μ' id).blk = (μ' id').blk → id = id')

theorem step_call {chk : Nat → Value → Hp → Bool} {L M : List (Bool × TM)} {w0 w : World} {v q : Value} (he : aRun chk (L.map ab) (M.map ab) = true)
    (hp : Pst w0 v (L.map Prod.snd)) (hb : Below w0.heap.size w0 w) (hq : Qst w w0.heap.size q (M.map Prod.snd)) :
    ∃ P Q : Pl, Calls Tryz.prog 18 #[v, q] w (AddEnd chk L M P Q w) := by
  obtain ⟨b, o, c, rfl, h2, h3, h4⟩ := hp
  have hL : ∀ x ∈ L, TOk w x.2 := fun x hx => (h3 x.2 (List.mem_map_of_mem hx)).below hb
  have hbl : ∀ y ∈ bks (L.map Prod.snd), y < w0.heap.size ∧ b ≠ y := fun y hy => by
    obtain ⟨o, n, h⟩ := bks_mem h3 y hy
    exact ⟨h.lt, h.ne h2⟩
  rw [List.length_map]
  rcases hq with ⟨hM, rfl⟩ | ⟨x, b', o', c', hM, rfl, g2, g3, g4, g5, g6, g7⟩
  · have : M = [] := List.map_eq_nil_iff.1 hM
    subst this
    refine ⟨⟨b, o, c⟩, ⟨0, 0, 0⟩, known_add (p := ⟨b, o, c⟩) (q := ⟨0, 0, 0⟩) he hL (fun x hx => by cases hx) (h2.below hb) (fun h => absurd rfl h) ?_⟩
    show ((b :: ((wz L ++ ([] ++ [])).map Prod.snd).map Pl.blk)).Nodup
    rw [List.append_nil, List.append_nil, wz_bks, List.nodup_cons]
    exact ⟨fun h => (hbl b h).2 rfl, h4⟩
  · have : ∃ f, M = [(f, x)] := by
      cases M with
      | nil => cases hM
      | cons m M =>
        cases M with
        | nil => obtain ⟨f, m⟩ := m; simp at hM; exact ⟨f, by rw [hM]⟩
        | cons m' M => simp at hM
    obtain ⟨f, rfl⟩ := this
    refine ⟨⟨b, o, c⟩, ⟨b', o', c'⟩, known_add (p := ⟨b, o, c⟩) (q := ⟨b', o', c'⟩) he hL (fun y hy => ?_) (h2.below hb) (fun _ => g2) ?_⟩
    · rw [List.mem_singleton] at hy; subst hy; exact g3
    · show (b :: ((wz L ++ ([(wx (ab (f, x)).x, (⟨x.1.b, x.1.o, 0⟩ : Pl)), (wy (ab (f, x)).x, (⟨x.1.d, x.1.p, 0⟩ : Pl)), ((_ : Blk), (⟨b', o', c'⟩ : Pl))] : List (Blk × Pl))).map Prod.snd).map Pl.blk).Nodup
      rw [List.map_append, List.map_append, wz_bks]
      show (b :: (bks (L.map Prod.snd) ++ [x.1.b, x.1.d, b'])).Nodup
      have n1 := g3.1.ne g2
      have n2 := g3.2.ne g2
      have lb : b < w0.heap.size := h2.lt
      rw [List.nodup_cons, List.nodup_append]
      refine ⟨fun h => ?_, h4, ?_, fun y hy z hz => ?_⟩
      · rcases List.mem_append.1 h with h | h
        · exact (hbl b h).2 rfl
        · simp only [List.mem_cons, List.not_mem_nil, or_false] at h
          omega
      · simp only [List.nodup_cons, List.mem_cons, List.not_mem_nil, or_false, not_or, List.nodup_nil, and_true, not_false_eq_true]
        omega
      · have := (hbl y hy).1
        simp only [List.mem_cons, List.not_mem_nil, or_false] at hz
        omega

theorem old_post {E : List (Nat × (Bool × TM))} {L M : List (Bool × TM)} {P Q : Pl} {w w' : World} {e : Ending} (H : AddEnd (chkOld (E.map fun x => (x.1, ab x.2))) L M P Q w e w')
    (hE : ∀ z ∈ E, zμ (zA L M P Q) (1001 + 2 * z.1) = ⟨z.2.2.1.b, z.2.2.1.o, 0⟩ ∧ zμ (zA L M P Q) (1002 + 2 * z.1) = ⟨z.2.2.1.d, z.2.2.1.p, 0⟩ ∧ 1002 + 2 * z.1 < 1000 + (preA (L.map ab) (M.map ab)).length)
    (hT : ∀ z ∈ E, TOk w z.2.2) (hN : (bks (E.map fun x => x.2.2)).Nodup) : Below w.heap.size w w' ∧ ∃ v, e = .returned v ∧ Slc v ∧ Pst w' v (E.map fun x => x.2.2) := by
  obtain ⟨hB, v, h', μ', hc, rfl, hold, hnew, _⟩ := H
  obtain ⟨b, o, c, h1, h2⟩ := old_end hc (fun x hx => by
    obtain ⟨a1, a2, a3⟩ := hE x hx
    exact ⟨(hold _ (by omega)).trans a1, (hold _ a3).trans a2⟩) fun id b hi hl => (hnew id b hi hl).1
  refine ⟨hB, _, rfl, ⟨_, _, _, h1⟩, b, o, c, by rw [List.length_map]; exact h1, h2, fun x hx => ?_, hN⟩
  obtain ⟨z, hz, rfl⟩ := List.mem_map.1 hx
  exact (hT z hz).below hB
theorem any_post {L M : List (Bool × TM)} {P Q : Pl} {w w' : World} {e : Ending} (H : AddEnd chkAny L M P Q w e w') : Below w.heap.size w w' ∧ ∃ v, e = .returned v ∧ Slc v := by
  obtain ⟨hB, v, h', μ', hc, rfl, _⟩ := H
  exact ⟨hB, _, rfl, slc_ren (chkAny_eq hc)⟩

theorem mem_sgn (b : Bool) : b ∈ sgn := by cases b <;> simp [sgn]
theorem all_at {α : Type} {f : α → Bool} {l : List α} (h : allL f l = true) {x : α} (hx : x ∈ l) : f x = true := List.all_eq_true.1 ((allL_eq _ _).symm.trans h) x hx

section
variable {w0 w : World} {v q : Value}
abbrev Out (w : World) (L : List TM) (e : Ending) (w' : World) : Prop := Below w.heap.size w w' ∧ ∃ v, e = .returned v ∧ Slc v ∧ Pst w' v L

theorem s00 (hp : Pst w0 v []) (hb : Below w0.heap.size w0 w) (hq : Qst w w0.heap.size q []) : Calls Tryz.prog 18 #[v, q] w (Out w []) := by
  obtain ⟨P, Q, K⟩ := step_call (chk := chkOld []) (L := []) (M := []) a0_ok hp hb hq
  exact K.mono fun e w' H => old_post (E := []) H (fun z hz => by cases hz) (fun z hz => by cases hz) List.nodup_nil
theorem s01 {x : TM} (hx : x.2 ∈ monos) (hp : Pst w0 v []) (hb : Below w0.heap.size w0 w) (hq : Qst w w0.heap.size q [x]) : Calls Tryz.prog 18 #[v, q] w (Out w [x]) := by
  have he := all_at (all_at b0_ok (mem_sgn (decide (x.1.k < 0)))) hx
  obtain ⟨P, Q, K⟩ := step_call (chk := chkOld [(0, ab (false, x))]) (L := []) (M := [(false, x)]) he hp hb hq
  rcases hq with ⟨h, _⟩ | ⟨y, b, o, c, h1, rfl, g2, g3, g4, g5⟩
  · cases h
  · cases h1
    refine K.mono fun e w' H => old_post (E := [(0, (false, x))]) H (fun z hz => ?_) (fun z hz => ?_) ?_
    · rw [List.mem_singleton] at hz; subst hz; exact ⟨zA_M [] [(false, x)] P Q 0 _ rfl, zA_M [] [(false, x)] P Q 1 _ rfl, by simp [preA, wbl, qrow]⟩
    · rw [List.mem_singleton] at hz; subst hz; exact g3
    · simpa [bks] using g4
theorem s10 {x : TM} (hx : x.2 ∈ monos) (hp : Pst w0 v [x]) (hb : Below w0.heap.size w0 w) (hq : Qst w w0.heap.size q []) : Calls Tryz.prog 18 #[v, q] w (Out w [x]) := by
  have he := all_at (all_at a1_ok (mem_sgn (decide (x.1.k < 0)))) hx
  obtain ⟨P, Q, K⟩ := step_call (chk := chkOld [(0, ab (false, x))]) (L := [(false, x)]) (M := []) he hp hb hq
  obtain ⟨b, o, c, _, h2, h3, h4⟩ := hp
  refine K.mono fun e w' H => old_post (E := [(0, (false, x))]) H (fun z hz => ?_) (fun z hz => ?_) h4
  · rw [List.mem_singleton] at hz; subst hz; exact ⟨zA_L [(false, x)] [] P Q 0 _ rfl, zA_L [(false, x)] [] P Q 1 _ rfl, by simp [preA, wbl, qrow]⟩
  · rw [List.mem_singleton] at hz; subst hz; exact (h3 x (.head _)).below hb
/-- Words of the one and of the other. -/
theorem nd2 {x y : TM} (hp : Pst w0 v [x]) (hq : Qst w w0.heap.size q [y]) : TOk w y ∧ (bks [x, y]).Nodup ∧ (bks [y, x]).Nodup := by
  obtain ⟨b, o, c, _, h2, h3, h4⟩ := hp
  have hx := h3 x (.head _)
  have l1 := hx.1.lt
  have l2 := hx.2.lt
  have h5 : x.1.b ≠ x.1.d := by simpa [bks] using h4
  rcases hq with ⟨h, _⟩ | ⟨y, b, o, c, h1, rfl, g2, g3, g4, g5, g6, g7⟩
  · cases h
  · cases h1
    refine ⟨g3, ?_, ?_⟩
    all_goals
      simp only [bks, List.nodup_cons, List.mem_cons, List.not_mem_nil, or_false, not_or, List.nodup_nil, and_true, not_false_eq_true]
      omega
theorem s11 {x y : TM} (h : (x.2, y.2) ∈ pairs) (hp : Pst w0 v [x]) (hb : Below w0.heap.size w0 w) (hq : Qst w w0.heap.size q [y]) : Calls Tryz.prog 18 #[v, q] w (Out w [x, y]) := by
  have he := all_at (all_at (all_at b1_ok (mem_sgn (decide (x.1.k < 0)))) (mem_sgn (decide (y.1.k < 0)))) h
  obtain ⟨P, Q, K⟩ := step_call (chk := chkOld [(0, ab (false, x)), (1, ab (false, y))]) (L := [(false, x)]) (M := [(false, y)]) he hp hb hq
  obtain ⟨n1, n2, n3⟩ := nd2 hp hq
  obtain ⟨b, o, c, _, h2, h3, h4⟩ := hp
  refine K.mono fun e w' H => old_post (E := [(0, (false, x)), (1, (false, y))]) H (fun z hz => ?_) (fun z hz => ?_) n2
  · simp only [List.mem_cons, List.not_mem_nil, or_false] at hz
    rcases hz with rfl | rfl
    · exact ⟨zA_L [(false, x)] [(false, y)] P Q 0 _ rfl, zA_L [(false, x)] [(false, y)] P Q 1 _ rfl, by simp [preA, wbl, qrow]⟩
    · exact ⟨zA_M [(false, x)] [(false, y)] P Q 0 _ rfl, zA_M [(false, x)] [(false, y)] P Q 1 _ rfl, by simp [preA, wbl, qrow]⟩
  · simp only [List.mem_cons, List.not_mem_nil, or_false] at hz
    rcases hz with rfl | rfl
    · exact (h3 x (.head _)).below hb
    · exact n1
theorem s11' {x y : TM} (h : (y.2, x.2) ∈ pairs) (hp : Pst w0 v [x]) (hb : Below w0.heap.size w0 w) (hq : Qst w w0.heap.size q [y]) : Calls Tryz.prog 18 #[v, q] w (Out w [y, x]) := by
  have he := all_at (all_at (all_at b1_ok' (mem_sgn (decide (y.1.k < 0)))) (mem_sgn (decide (x.1.k < 0)))) h
  obtain ⟨P, Q, K⟩ := step_call (chk := chkOld [(1, ab (false, y)), (0, ab (false, x))]) (L := [(false, x)]) (M := [(false, y)]) he hp hb hq
  obtain ⟨n1, n2, n3⟩ := nd2 hp hq
  obtain ⟨b, o, c, _, h2, h3, h4⟩ := hp
  refine K.mono fun e w' H => old_post (E := [(1, (false, y)), (0, (false, x))]) H (fun z hz => ?_) (fun z hz => ?_) n3
  · simp only [List.mem_cons, List.not_mem_nil, or_false] at hz
    rcases hz with rfl | rfl
    · exact ⟨zA_M [(false, x)] [(false, y)] P Q 0 _ rfl, zA_M [(false, x)] [(false, y)] P Q 1 _ rfl, by simp [preA, wbl, qrow]⟩
    · exact ⟨zA_L [(false, x)] [(false, y)] P Q 0 _ rfl, zA_L [(false, x)] [(false, y)] P Q 1 _ rfl, by simp [preA, wbl, qrow]⟩
  · simp only [List.mem_cons, List.not_mem_nil, or_false] at hz
    rcases hz with rfl | rfl
    · exact n1
    · exact (h3 x (.head _)).below hb
theorem c1_at {e : Int × Int} (h : e ∈ monos) {k l : Int} (hk : k ∈ pm 6) (hl : l ∈ pm 3) : aRun (chkNew (k + l) e) [knw k e] [knw l e] = true := by
  rcases List.mem_append.1 (show e ∈ es1 ++ es2 from h) with h | h
  · exact all_at (all_at (all_at c1_ok1 h) hk) hl
  · exact all_at (all_at (all_at c1_ok2 h) hk) hl
theorem s11e {x y : TM} (h : x.2 = y.2) (hm : x.2 ∈ monos) (hk : x.1.k ∈ pm 6) (hl : y.1.k ∈ pm 3) (hp : Pst w0 v [x]) (hb : Below w0.heap.size w0 w) (hq : Qst w w0.heap.size q [y]) :
    Calls Tryz.prog 18 #[v, q] w fun e w' => (x.1.k + y.1.k = 0 ∧ Out w [] e w') ∨ (x.1.k + y.1.k ≠ 0 ∧ ∃ t : Rt, t.k = x.1.k + y.1.k ∧ Out w [(t, x.2)] e w') := by
  obtain ⟨x, e⟩ := x
  obtain ⟨y, e'⟩ := y
  simp only at h
  subst h
  have he := c1_at hm hk hl
  obtain ⟨P, Q, K⟩ := step_call (chk := chkNew (x.k + y.k) e) (L := [(true, (x, e))]) (M := [(true, (y, e))]) he hp hb hq
  refine K.mono fun en w' H => ?_
  by_cases h0 : x.k + y.k = 0
  · left
    refine ⟨h0, ?_⟩
    refine old_post (E := []) (L := [(true, (x, e))]) (M := [(true, (y, e))]) (P := P) (Q := Q) ?_ (fun z hz => by cases hz) (fun z hz => by cases hz) List.nodup_nil
    obtain ⟨hB, v, h', μ', hc, rest⟩ := H
    refine ⟨hB, v, h', μ', ?_, rest⟩
    rcases chkNew_eq hc with ⟨_, h⟩ | ⟨_, _, _, _, _, h1, _⟩
    · exact h
    · exact absurd h0 h1
  · right
    obtain ⟨hB, v, h', μ', hc, rfl, hold, hnew, hinj⟩ := H
    obtain ⟨t, ht, b, o, c, g1, g2, g3, g4⟩ := new_end h0 hc hnew hinj
    refine ⟨h0, t, ht, hB, _, rfl, ⟨_, _, _, g1⟩, b, o, c, g1, g2, fun z hz => ?_, by simpa [bks] using g4⟩
    rw [List.mem_singleton] at hz; subst hz; exact g3
abbrev OutAny (w : World) (e : Ending) (w' : World) : Prop := Below w.heap.size w w' ∧ ∃ v, e = .returned v ∧ Slc v
theorem s20 {x y : TM} (h : (x.2, y.2) ∈ pairs) (hp : Pst w0 v [x, y]) (hb : Below w0.heap.size w0 w) (hq : Qst w w0.heap.size q []) : Calls Tryz.prog 18 #[v, q] w (OutAny w) := by
  have he := all_at (all_at (all_at a2_ok (mem_sgn (decide (x.1.k < 0)))) (mem_sgn (decide (y.1.k < 0)))) h
  obtain ⟨P, Q, K⟩ := step_call (chk := chkAny) (L := [(false, x), (false, y)]) (M := []) he hp hb hq
  exact K.mono fun e w' H => any_post H
theorem eqP_iff {a b : Int × Int} : eqP a b = true ↔ a = b := by
  obtain ⟨a1, a2⟩ := a; obtain ⟨b1, b2⟩ := b
  simp [eqP]
theorem b2_ok (s : Bool) : b2 s = true := by cases s; exact b2f_ok; exact b2t_ok
theorem ite2_false {b x : Bool} (hb : b = false) (h : ite2 b x = true) : x = true := by subst hb; exact h
theorem c2_at (s : Bool) {p : (Int × Int) × (Int × Int)} (h : p ∈ pairs) {k l : Int} (hk : k ∈ pm 3) (hl : l ∈ pm 3) : aRun chkAny [knw k p.1, opn s p.2] [knw l p.1] = true := by
  rcases List.mem_append.1 (show p ∈ ps1 ++ ps2 from h) with h | h
  · cases s
    · exact all_at (all_at (all_at c2f1 h) hk) hl
    · exact all_at (all_at (all_at c2t1 h) hk) hl
  · cases s
    · exact all_at (all_at (all_at c2f2 h) hk) hl
    · exact all_at (all_at (all_at c2t2 h) hk) hl
theorem c2_at' (s : Bool) {p : (Int × Int) × (Int × Int)} (h : p ∈ pairs) {k l : Int} (hk : k ∈ pm 3) (hl : l ∈ pm 3) : aRun chkAny [opn s p.1, knw k p.2] [knw l p.2] = true := by
  rcases List.mem_append.1 (show p ∈ ps1 ++ ps2 from h) with h | h
  · cases s
    · exact all_at (all_at (all_at c2f1' h) hk) hl
    · exact all_at (all_at (all_at c2t1' h) hk) hl
  · cases s
    · exact all_at (all_at (all_at c2f2' h) hk) hl
    · exact all_at (all_at (all_at c2t2' h) hk) hl
theorem s21 {x y z : TM} (h : (x.2, y.2) ∈ pairs) (hm : z.2 ∈ monos) (hx : x.1.k ∈ pm 3) (hy : y.1.k ∈ pm 3) (hz : z.1.k ∈ pm 3) (hp : Pst w0 v [x, y]) (hb : Below w0.heap.size w0 w) (hq : Qst w w0.heap.size q [z]) :
    Calls Tryz.prog 18 #[v, q] w (OutAny w) := by
  by_cases h1 : x.2 = z.2
  · have he := c2_at (decide (y.1.k < 0)) h hx hz
    obtain ⟨P, Q, K⟩ := step_call (chk := chkAny) (L := [(true, x), (false, y)]) (M := [(true, z)]) (by
      have e1 : ab (true, z) = knw z.1.k x.2 := by rw [h1]; rfl
      show aRun chkAny [knw x.1.k x.2, opn (decide (y.1.k < 0)) y.2] [ab (true, z)] = true
      rw [e1]; exact he) hp hb hq
    exact K.mono fun e w' H => any_post H
  by_cases h2 : y.2 = z.2
  · have he := c2_at' (decide (x.1.k < 0)) h hy hz
    obtain ⟨P, Q, K⟩ := step_call (chk := chkAny) (L := [(false, x), (true, y)]) (M := [(true, z)]) (by
      have e1 : ab (true, z) = knw z.1.k y.2 := by rw [h2]; rfl
      show aRun chkAny [opn (decide (x.1.k < 0)) x.2, knw y.1.k y.2] [ab (true, z)] = true
      rw [e1]; exact he) hp hb hq
    exact K.mono fun e w' H => any_post H
  have he := all_at (all_at (all_at (all_at (b2_ok (decide (x.1.k < 0))) (mem_sgn (decide (y.1.k < 0)))) (mem_sgn (decide (z.1.k < 0)))) h) hm
  have e1 : eqP x.2 z.2 = false := by cases hc : eqP x.2 z.2 with | true => exact absurd (eqP_iff.1 hc) h1 | false => rfl
  have e2 : eqP y.2 z.2 = false := by cases hc : eqP y.2 z.2 with | true => exact absurd (eqP_iff.1 hc) h2 | false => rfl
  have he := ite2_false (by show (eqP x.2 z.2 || eqP y.2 z.2) = false; rw [e1, e2]; rfl) he
  obtain ⟨P, Q, K⟩ := step_call (chk := chkAny) (L := [(false, x), (false, y)]) (M := [(false, z)]) he hp hb hq
  exact K.mono fun e w' H => any_post H
end

def Good : Nat → List TM → Prop
  | 0, L => L = []
  | 1, L => L = [] ∨ ∃ x : TM, L = [x] ∧ x.1.k ∈ pm 3 ∧ x.2 ∈ monos
  | _, L => L = [] ∨ (∃ x : TM, L = [x] ∧ x.1.k ∈ pm 6 ∧ x.2 ∈ monos) ∨ ∃ x y : TM, L = [x, y] ∧ x.1.k ∈ pm 3 ∧ y.1.k ∈ pm 3 ∧ (x.2, y.2) ∈ pairs
def GoodQ (M : List TM) : Prop := M = [] ∨ ∃ x : TM, M = [x] ∧ x.1.k ∈ pm 3 ∧ x.2 ∈ monos
def AddPost (r : Nat) (w : World) (e : Ending) (w' : World) : Prop := Below w.heap.size w w' ∧ ∃ v, e = .returned v ∧ Slc v ∧ (r < 2 → ∃ L, Pst w' v L ∧ Good (r + 1) L)
theorem pm36 {k : Int} (h : k ∈ pm 3) : k ∈ pm 6 := by
  have : ∀ a ∈ pm 3, a ∈ pm 6 := by decide
  exact this k h
theorem pm33 {k l : Int} (h : k ∈ pm 3) (h' : l ∈ pm 3) (h0 : k + l ≠ 0) : k + l ∈ pm 6 := by
  have : ∀ a ∈ pm 3, ∀ b ∈ pm 3, a + b ≠ 0 → a + b ∈ pm 6 := by decide
  exact this k h l h' h0
theorem tri {a b : Int × Int} (h : a ∈ monos) (h' : b ∈ monos) : a = b ∨ (a, b) ∈ pairs ∨ (b, a) ∈ pairs := by
  have : ∀ a ∈ monos, ∀ b ∈ monos, a = b ∨ (a, b) ∈ pairs ∨ (b, a) ∈ pairs := by decide
  exact this a h b h'
theorem Out.post {r : Nat} {w w' : World} {e : Ending} {L : List TM} (h : Out w L e w') (hg : r < 2 → Good (r + 1) L) : AddPost r w e w' := by
  obtain ⟨h1, v, h2, h3, h4⟩ := h
  exact ⟨h1, v, h2, h3, fun hr => ⟨L, h4, hg hr⟩⟩
theorem add_step {r : Nat} {w0 w : World} {v q : Value} {L M : List TM} (hr : r < 3) (hg : Good r L) (hm : GoodQ M) (hp : Pst w0 v L) (hb : Below w0.heap.size w0 w) (hq : Qst w w0.heap.size q M) :
    Calls Tryz.prog 18 #[v, q] w (AddPost r w) := by
  have key : L = [] → Calls Tryz.prog 18 #[v, q] w (AddPost r w) := by
    rintro rfl
    rcases hm with rfl | ⟨x, rfl, hk, he⟩
    · refine (s00 hp hb hq).mono fun e w' h => Out.post h fun _ => ?_
      match r with
      | 0 => exact .inl rfl
      | 1 => exact .inl rfl
      | r + 2 => exact .inl rfl
    · refine (s01 he hp hb hq).mono fun e w' h => Out.post h fun _ => ?_
      match r with
      | 0 => exact .inr ⟨x, rfl, hk, he⟩
      | 1 => exact .inr (.inl ⟨x, rfl, pm36 hk, he⟩)
      | r + 2 => exact .inr (.inl ⟨x, rfl, pm36 hk, he⟩)
  have key1 : ∀ x : TM, L = [x] → x.1.k ∈ pm 6 → x.2 ∈ monos → 0 < r → (r = 1 → x.1.k ∈ pm 3) → Calls Tryz.prog 18 #[v, q] w (AddPost r w) := by
    rintro x rfl hk he h0 h1
    have two : ∀ L, Good 2 L → r < 2 → Good (r + 1) L := fun L h hr => by rw [show r = 1 by omega]; exact h
    rcases hm with rfl | ⟨y, rfl, hk', he'⟩
    · exact (s10 he hp hb hq).mono fun e w' h => Out.post h (two _ (.inr (.inl ⟨x, rfl, hk, he⟩)))
    rcases tri he he' with h | h | h
    · refine (s11e h he hk hk' hp hb hq).mono fun e w' h => ?_
      rcases h with ⟨_, h⟩ | ⟨hs, t, ht, h⟩
      · exact Out.post h (two _ (.inl rfl))
      · exact Out.post h fun hr => two _ (.inr (.inl ⟨(t, x.2), rfl, by show t.k ∈ pm 6; rw [ht]; exact pm33 (h1 (by omega)) hk' hs, he⟩)) hr
    · exact (s11 h hp hb hq).mono fun e w' g => Out.post g fun hr => two _ (.inr (.inr ⟨x, y, rfl, h1 (by omega), hk', h⟩)) hr
    · exact (s11' h hp hb hq).mono fun e w' g => Out.post g fun hr => two _ (.inr (.inr ⟨y, x, rfl, hk', h1 (by omega), h⟩)) hr
  match r, hr, hg with
  | 0, _, hg => exact key hg
  | 1, _, hg =>
    rcases hg with h | ⟨x, h, hk, he⟩
    · exact key h
    · exact key1 x h (pm36 hk) he (by omega) fun _ => hk
  | 2, _, hg =>
    rcases hg with h | ⟨x, h, hk, he⟩ | ⟨x, y, rfl, hk, hk', he⟩
    · exact key h
    · exact key1 x h hk he (by omega) fun h => by omega
    · have fin : OutAny w = AddPost 2 w := by
        funext e w'
        unfold AddPost
        simp
      rcases hm with rfl | ⟨z, rfl, hz, he'⟩
      · exact (s20 he hp hb hq).mono fun e w' h => by rw [← fin]; exact h
      · exact (s21 he he' hk hk' hz hp hb hq).mono fun e w' h => by rw [← fin]; exact h
end Go.Proofs.YtaokhbanpfmkmaaGreat

namespace Go.Proofs.YtaokhbanpfmkmaaGreat
set_option linter.unusedVariables false
set_option linter.unusedSimpArgs false
open Go.RowKit

/-! Made. -/
def TLaid (T : Value) (w : World) : Prop := (∃ a c, T = .slice a 0 c) ∨ ∃ (z : Nat → Nat → Int) (b off n cap : Nat), T = .slice (some ⟨b, off, none⟩) n cap ∧ n ≤ 9223372036854775807 ∧ b < w.heap.size ∧
  ∀ k, k < n → ∀ j, j < 5 → w.cell? ⟨b, off + k * 5 + j, none⟩ = some (.int .i8 (z k j)) ∧ -128 ≤ z k j ∧ z k j ≤ 127

abbrev MB (a b : Int) : Obj := .cells #[.int .i64 a, .int .i64 b, .int .i64 0, .int .i64 0, .int .i64 0, .int .i64 0, .int .i64 0, .int .i64 0] 71 (0, 0)
/-- What holds of the result at the head of round k. -/
def Rnd (w : World) (v : Value) (k : Nat) : Prop := k < 3 → ∃ L, Pst w v L ∧ Good k L

theorem whole_c {k : Int} (hk : k ∈ Go.Proofs.YtaokhbanpfmkmaaGreat.cs) (w : World) :
    Calls Tryz.prog 20 #[.int .i64 k] w fun e w' => Below w.heap.size w w' ∧ ∃ r : Wt, r.k = k ∧
      e = .returned (.agg #[.bool (decide (r.k < 0)), .slice (some ⟨r.b, r.o, none⟩) (ln r.k) 2, .bool false, .slice (some ⟨r.d, r.p, none⟩) 1 2]) ∧ r.Ok w' w.heap.size := whole_calls hk w
theorem Qst.mono {w : World} {m m' : Nat} {q : Value} {M : List TM} (h : Qst w m q M) (hm : m' ≤ m) : Qst w m' q M := by
  rcases h with h | ⟨x, b, o, c, h1, h2, h3, h4, h5, h6, h7, h8⟩
  · exact .inl h
  · exact .inr ⟨x, b, o, c, h1, h2, h3, h4, h5, by omega, by omega, by omega⟩
theorem Cells.row {w : World} {b o : Nat} {t : Rt} {e : Int × Int} (h : Cells w b o (t.cs ++ intsV (mono e))) : RowAt w b o (flatT [(t, e)]) := by
  obtain ⟨c, h1, h2⟩ := h
  have hl : flatT [(t, e)] = t.cs ++ intsV (mono e) := by unfold flatT flatT; rw [List.append_nil]
  rw [hl]
  refine ⟨c, h1, h2, ?_⟩
  have := h2 11 (.int .i64 0) rfl
  show o + 12 ≤ c.size
  rcases Nat.lt_or_ge (o + 11) c.size with g | g
  · omega
  · rw [Array.getElem?_eq_none g] at this; cases this
theorem cs_pm {k : Int} (h : k ∈ Go.Proofs.YtaokhbanpfmkmaaGreat.cs) (h0 : k ≠ 0) : k ∈ pm 3 := by
  have : ∀ k ∈ Go.Proofs.YtaokhbanpfmkmaaGreat.cs, k ≠ 0 → k ∈ pm 3 := by decide
  exact this k h h0
theorem scale_c {c u : Wt} {a b' : Int} {b l1 l2 : Nat} {w : World} (hc : c.Ok w l1) (hu : u.Ok w l2) (hu1 : u.k = 1) (hk : c.k ∈ Go.Proofs.YtaokhbanpfmkmaaGreat.cs) (he : (a, b') ∈ monos)
    (hn : [c.b, c.d, u.b, u.d, b].Nodup)
    (hrow : w.heap[b]? = some (.cells #[.bool (decide (u.k < 0)), .slice (some ⟨u.b, u.o, none⟩) (ln u.k) 2, .bool false, .slice (some ⟨u.d, u.p, none⟩) 1 2,
      .int .i64 a, .int .i64 b', .int .i64 0, .int .i64 0, .int .i64 0, .int .i64 0, .int .i64 0, .int .i64 0] 83 (0, 0))) :
    Calls Tryz.prog 19 #[.agg #[.bool (decide (c.k < 0)), .slice (some ⟨c.b, c.o, none⟩) (ln c.k) 2, .bool false, .slice (some ⟨c.d, c.p, none⟩) 1 2], .slice (some ⟨b, 0, none⟩) 1 1] w fun e w' =>
      Below w.heap.size w w' ∧ ∃ q M, e = .returned q ∧ GoodQ M ∧ Qst w' w.heap.size q M := by
  refine (scale_calls (e := (a, b')) hc hu hu1 hk he hn hrow).mono fun en w' ⟨hb, h⟩ => ⟨hb, ?_⟩
  rcases h with ⟨_, rfl⟩ | ⟨h0, t, b2, o, cap, ht, hok, hlt, rfl, hcell⟩
  · exact ⟨_, [], rfl, .inl rfl, .inl ⟨rfl, rfl⟩⟩
  · exact ⟨_, [(t, (a, b'))], rfl, .inr ⟨(t, (a, b')), rfl, by show t.k ∈ pm 3; rw [ht]; exact cs_pm hk h0, he⟩,
      .inr ⟨(t, (a, b')), b2, o, cap, rfl, rfl, hcell.row, ⟨hok.hb, hok.hd⟩, hok.ne, hlt, hok.lb, hok.ld⟩⟩
theorem W2At.lt {w : World} {b o n : Nat} (h : W2At w b o n) : b < w.heap.size := by
  obtain ⟨c, h1, _⟩ := h; exact lt_of_heap h1
theorem Wt.Ok.below {r : Wt} {w w' : World} {lo : Nat} (h : r.Ok w lo) (hb : Below w.heap.size w w') : r.Ok w' lo := ⟨h.ne, h.lb, h.ld, h.hb.below hb, h.hd.below hb⟩
theorem nodup_w {c u : Wt} {w1 w2 : World} {l : Nat} (hc : c.Ok w1 l) (hu : u.Ok w2 w1.heap.size) : [c.b, c.d, u.b, u.d, w2.heap.size].Nodup := by
  have := hc.hb.lt; have := hc.hd.lt; have := hu.hb.lt; have := hu.hd.lt; have := hu.lb; have := hu.ld; have := hc.ne; have := hu.ne
  simp only [List.nodup_cons, List.mem_cons, List.not_mem_nil, or_false, not_or, List.nodup_nil, and_true, not_false_eq_true]
  omega
theorem scale_w {c u : Wt} {kc a b' : Int} {l1 l2 : Nat} {w : World} (hck : c.k = kc) (huk : u.k = 1) (hc : c.Ok w l1) (hu : u.Ok w l2) (hk : kc ∈ Go.Proofs.YtaokhbanpfmkmaaGreat.cs) (he : (a, b') ∈ monos)
    (hn : [c.b, c.d, u.b, u.d, w.heap.size].Nodup) :
    Calls Tryz.prog 19 #[.agg #[.bool (decide (kc < 0)), .slice (some ⟨c.b, c.o, none⟩) (ln kc) 2, .bool false, .slice (some ⟨c.d, c.p, none⟩) 1 2], .slice (some ⟨w.heap.size, 0, none⟩) 1 1]
      (w.alloc (.cells #[.bool false, .slice (some ⟨u.b, u.o, none⟩) (ln 1) 2, .bool false, .slice (some ⟨u.d, u.p, none⟩) 1 2,
        .int .i64 a, .int .i64 b', .int .i64 0, .int .i64 0, .int .i64 0, .int .i64 0, .int .i64 0, .int .i64 0] 83)) fun e w' =>
      Below w.heap.size w w' ∧ ∃ x l cp M, e = .returned (.slice x l cp) ∧ GoodQ M ∧ Qst w' w.heap.size (.slice x l cp) M := by
  subst hck
  have hB : ∀ o : Obj, Below w.heap.size w (w.alloc o) := fun o => (Below.refl _ w).alloc (Nat.le_refl _) o
  have hu' : decide (u.k < 0) = false := by rw [huk]; rfl
  have h := scale_c (a := a) (b' := b') (b := w.heap.size) (w := w.alloc (.cells #[.bool (decide (u.k < 0)), .slice (some ⟨u.b, u.o, none⟩) (ln u.k) 2, .bool false, .slice (some ⟨u.d, u.p, none⟩) 1 2,
      .int .i64 a, .int .i64 b', .int .i64 0, .int .i64 0, .int .i64 0, .int .i64 0, .int .i64 0, .int .i64 0] 83)) (hc.below (hB _)) (hu.below (hB _)) huk hk he hn
    (by show (w.heap.push _)[w.heap.size]? = _; rw [Array.getElem?_push, if_pos rfl])
  rw [hu', huk] at h
  refine h.mono fun e w' ⟨h1, q, M, h2, h3, h4⟩ => ⟨(hB _).then h1, ?_⟩
  have h5 : Qst w' w.heap.size q M := h4.mono (by show w.heap.size ≤ (w.heap.push _).size; simp)
  rcases h5 with ⟨rfl, rfl⟩ | ⟨x, b, o, c, rfl, rfl, h6⟩
  · exact ⟨_, _, _, [], h2, h3, .inl ⟨rfl, rfl⟩⟩
  · exact ⟨_, _, _, [x], h2, h3, .inr ⟨x, b, o, c, rfl, rfl, h6⟩⟩
theorem mod_cs {x : Int} (h1 : -128 ≤ x) (h2 : x ≤ 127) : IntKind.i64.wrap (x.tmod 4) ∈ Go.Proofs.YtaokhbanpfmkmaaGreat.cs := by
  have h : x.tmod 4 = 0 ∨ x.tmod 4 = 1 ∨ x.tmod 4 = 2 ∨ x.tmod 4 = 3 ∨ x.tmod 4 = -1 ∨ x.tmod 4 = -2 ∨ x.tmod 4 = -3 := by
    rcases Int.le_total 0 x with h | h
    · rw [Int.tmod_eq_emod_of_nonneg h]; omega
    · have e : x.tmod 4 = -((-x).tmod 4) := by rw [← Int.neg_tmod, Int.neg_neg]
      rw [e, Int.tmod_eq_emod_of_nonneg (by omega)]; omega
  rcases h with h | h | h | h | h | h | h <;> rw [h] <;> decide

set_option maxRecDepth 8000 in
set_option maxHeartbeats 4000000 in
theorem made_some (z : Nat → Nat → Int) (b off n cap : Nat) (w : World) (hn : n ≤ 9223372036854775807) (hb : b < w.heap.size)
    (hz : ∀ k, k < n → ∀ j, j < 5 → w.cell? ⟨b, off + k * 5 + j, none⟩ = some (.int .i8 (z k j)) ∧ -128 ≤ z k j ∧ z k j ≤ 127) :
    Calls Tryz.prog 6 #[.agg #[.slice (some ⟨b, off, none⟩) n cap], .int .i64 2, .int .i64 2, .int .i64 3] w fun e w' => (∃ a l c, e = .returned (.slice a l c)) ∧ Below w.heap.size w w' := by
  go_enter Tryz.func6, Tryz.ntmps6
  go_wp2
  go_loopw [9, 10] (fun s9 s10 wr => ∃ k : Nat, k ≤ 3 ∧ s10 = .int .i64 k ∧ Slc s9 ∧ Hid (Below w.heap.size w wr ∧ wr.heap[w.heap.size]? = some (.cells #[.slice (some ⟨b, off, none⟩) n cap] 24 (0, 0)) ∧ Rnd wr s9 k)) (fun _ s10 _ => 3 - (intOf s10).toNat)
  case atStart =>
    refine ⟨0, by omega, rfl, ⟨_, _, _, rfl⟩, ((Below.refl _ w).alloc (Nat.le_refl _) _).alloc (by simp) _, ?_, fun _ => ⟨[], ⟨w.heap.size + 1, 0, 0, rfl, ⟨#[], ?_, (fun i v h => by cases h), by simp [flatT]⟩, (fun x hx => by cases hx), List.nodup_nil⟩, rfl⟩⟩
    · show ((w.heap.push _).push _)[w.heap.size]? = _
      rw [Array.getElem?_push, if_neg (by simp), Array.getElem?_push, if_pos rfl]
    · show ((w.heap.push _).push _)[w.heap.size + 1]? = _
      rw [Array.getElem?_push, if_pos (by simp)]
  case round =>
    obtain ⟨k, hk, rfl, ⟨a9, l9, c9, rfl⟩, hbel, hrow, hrnd⟩ := hrel
    obtain ⟨wo, hwo⟩ : ∃ wo, wo = wr := ⟨_, rfl⟩
    subst hwo
    have hlt : w.heap.size < wo.heap.size := lt_of_heap hrow
    have c0 : wo.cell? ⟨w.heap.size, 0, none⟩ = some (.slice (some ⟨b, off, none⟩) n cap) := by simp [World.cell?, hrow]
    have H : Aside (Below w.heap.size w wo ∧ wo.heap[w.heap.size]? = some (.cells #[.slice (some ⟨b, off, none⟩) n cap] 24 (0, 0)) ∧ Rnd wo (.slice a9 l9 c9) k) := ⟨hbel, hrow, hrnd⟩
    have Z : Aside (∀ k, k < n → ∀ j, j < 5 → w.cell? ⟨b, off + k * 5 + j, none⟩ = some (.int .i8 (z k j)) ∧ -128 ≤ z k j ∧ z k j ≤ 127) := hz
    clear hbel hrow hrnd hz
    go_wp2
    · have hd : decide ((k : Int) < 3) = true := decide_eq_true (by omega)
      simp only [hd]
      go_loopw [12, 13] (fun s12 s13 wr => ∃ (i : Nat) (a b : Int), i ≤ 2 ∧ s13 = .int .i64 i ∧ s12 = .int .i64 (2 - a - b) ∧ (0 ≤ a ∧ 0 ≤ b ∧ a + b ≤ 2 ∧ (i ≤ 1 → b = 0) ∧ (i = 0 → a = 0)) ∧ Hid (Below wo.heap.size wo wr ∧ wr.heap[wo.heap.size]? = some (MB a b))) (fun _ s13 _ => 2 - (intOf s13).toNat)
      case atStart =>
        refine ⟨0, 0, 0, by omega, rfl, rfl, by omega, ((Below.refl _ wo).alloc (Nat.le_refl _) _), ?_⟩
        show (wo.heap.push _)[wo.heap.size]? = _
        rw [Array.getElem?_push, if_pos rfl]
      case round =>
        obtain ⟨i, a, b', hi, rfl, rfl, hab, hbi, hm⟩ := hrel
        have hkn : k < n := by assumption
        have hsi := hbi.size
        have d0 : wr.cell? ⟨w.heap.size, 0, none⟩ = some (.slice (some ⟨b, off, none⟩) n cap) := (hbi.cell (p := ⟨w.heap.size, 0, none⟩) hlt).trans c0
        have zc : ∀ j, j < 5 → wr.cell? ⟨b, off + k * 5 + j, none⟩ = some (.int .i8 (z k j)) := fun j hj =>
          ((hbi.cell (p := ⟨b, off + k * 5 + j, none⟩) (by show b < _; omega)).trans (H.out.1.cell (p := ⟨b, off + k * 5 + j, none⟩) hb)).trans (Z.out k hkn j hj).1
        have hcase : (i = 0 ∧ a = 0 ∧ b' = 0) ∨ (i = 1 ∧ b' = 0 ∧ a = 0) ∨ (i = 1 ∧ b' = 0 ∧ a = 1) ∨ (i = 1 ∧ b' = 0 ∧ a = 2) ∨ i = 2 := by omega
        have hmc0 : wr.cell? ⟨wo.heap.size, 0, none⟩ = some (.int .i64 a) := cell_at hm 0 rfl
        have hmc1 : wr.cell? ⟨wo.heap.size, 1, none⟩ = some (.int .i64 b') := cell_at hm 1 rfl
        have M : Aside (Below wo.heap.size wo wr ∧ wr.heap[wo.heap.size]? = some (MB a b') ∧ wo.heap.size ≤ wr.heap.size) := ⟨hbi, hm, hsi⟩
        have fr0 : wr.frozen? ⟨wo.heap.size, 0, none⟩ = false := by simp [World.frozen?, hm]
        have fr1 : wr.frozen? ⟨wo.heap.size, 1, none⟩ = false := by simp [World.frozen?, hm]
        have S0 : ∀ x : Int, Aside (Below wo.heap.size wo (wr.setCell ⟨wo.heap.size, 0, none⟩ (.int .i64 x)) ∧ (wr.setCell ⟨wo.heap.size, 0, none⟩ (.int .i64 x)).heap[wo.heap.size]? = some (MB x b')) := fun x =>
          ⟨hbi.setCell (Nat.le_refl _) _, heap_setCell_same _ _ _ _ _ _ hm⟩
        have S1 : ∀ x : Int, Aside (Below wo.heap.size wo (wr.setCell ⟨wo.heap.size, 1, none⟩ (.int .i64 x)) ∧ (wr.setCell ⟨wo.heap.size, 1, none⟩ (.int .i64 x)).heap[wo.heap.size]? = some (MB a x)) := fun x =>
          ⟨hbi.setCell (Nat.le_refl _) _, heap_setCell_same _ _ _ _ _ _ hm⟩
        rcases hcase with ⟨rfl, rfl, rfl⟩ | ⟨rfl, rfl, rfl⟩ | ⟨rfl, rfl, rfl⟩ | ⟨rfl, rfl, rfl⟩ | rfl
        · have z1 := zc 1 (by omega)
          have r1 := (Z.out k hkn 1 (by omega)).2
          clear zc hbi hm hsi
          go_wp2_with (go_at_call 17; refine (abs_calls _ _ r1.1 r1.2).mono ?_; rintro e w2 ⟨rfl, rfl⟩)
          all_goals
            go_roundw
            case rel => exact ⟨1, _, 0, by omega, by go_num, by first | rfl | (congr 1; omega), by omega, (S0 _).out⟩
            case measure => simp [intOf]
        · have z1 := zc 2 (by omega)
          have r1 := (Z.out k hkn 2 (by omega)).2
          clear zc hbi hm hsi
          go_wp2_with (go_at_call 17; refine (abs_calls _ _ r1.1 r1.2).mono ?_; rintro e w2 ⟨rfl, rfl⟩)
          all_goals
            go_roundw
            case rel => exact ⟨2, 0, _, by omega, by go_num, by first | rfl | (congr 1; omega), by omega, (S1 _).out⟩
            case measure => simp [intOf]
        · have z1 := zc 2 (by omega)
          have r1 := (Z.out k hkn 2 (by omega)).2
          clear zc hbi hm hsi
          go_wp2_with (go_at_call 17; refine (abs_calls _ _ r1.1 r1.2).mono ?_; rintro e w2 ⟨rfl, rfl⟩)
          all_goals
            go_roundw
            case rel => exact ⟨2, 1, _, by omega, by go_num, by first | rfl | (congr 1; omega), by omega, (S1 _).out⟩
            case measure => simp [intOf]
        · have z1 := zc 2 (by omega)
          have r1 := (Z.out k hkn 2 (by omega)).2
          clear zc hbi hm hsi
          go_wp2_with (go_at_call 17; refine (abs_calls _ _ r1.1 r1.2).mono ?_; rintro e w2 ⟨rfl, rfl⟩)
          all_goals
            go_roundw
            case rel => exact ⟨2, 2, _, by omega, by go_num, by first | rfl | (congr 1; omega), by omega, (S1 _).out⟩
            case measure => simp [intOf]
        · have he : (a, b') ∈ monos := by
            have : (a = 0 ∧ b' = 0) ∨ (a = 1 ∧ b' = 0) ∨ (a = 2 ∧ b' = 0) ∨ (a = 0 ∧ b' = 1) ∨ (a = 0 ∧ b' = 2) ∨ (a = 1 ∧ b' = 1) := by omega
            rcases this with ⟨rfl, rfl⟩ | ⟨rfl, rfl⟩ | ⟨rfl, rfl⟩ | ⟨rfl, rfl⟩ | ⟨rfl, rfl⟩ | ⟨rfl, rfl⟩ <;> simp [monos]
          have z0 : wr.cell? ⟨b, off + k * 5, none⟩ = some (.int .i8 (z k 0)) := zc 0 (by omega)
          have r0 := (Z.out k hkn 0 (by omega)).2
          have hcm := mod_cs r0.1 r0.2
          have h1m : (1 : Int) ∈ Go.Proofs.YtaokhbanpfmkmaaGreat.cs := by simp [Go.Proofs.YtaokhbanpfmkmaaGreat.cs]
          have hmlt : wo.heap.size < wr.heap.size := lt_of_heap hm
          have hblt : b < wr.heap.size := by omega
          have hxlt : w.heap.size < wr.heap.size := by omega
          have hS : ∀ w' : World, Below wr.heap.size wr w' → w'.cell? ⟨w.heap.size, 0, none⟩ = some (.slice (some ⟨b, off, none⟩) n cap) ∧ w'.cell? ⟨b, off + k * 5, none⟩ = some (.int .i8 (z k 0)) ∧
              w'.cell? ⟨wo.heap.size, 0, none⟩ = some (.int .i64 a) ∧ w'.cell? ⟨wo.heap.size, 1, none⟩ = some (.int .i64 b') ∧ w'.cell? ⟨wo.heap.size, 2, none⟩ = some (.int .i64 0) ∧
              w'.cell? ⟨wo.heap.size, 3, none⟩ = some (.int .i64 0) ∧ w'.cell? ⟨wo.heap.size, 4, none⟩ = some (.int .i64 0) ∧ w'.cell? ⟨wo.heap.size, 5, none⟩ = some (.int .i64 0) ∧
              w'.cell? ⟨wo.heap.size, 6, none⟩ = some (.int .i64 0) ∧ w'.cell? ⟨wo.heap.size, 7, none⟩ = some (.int .i64 0) := fun w' B =>
            ⟨(B.cell (p := ⟨w.heap.size, 0, none⟩) hxlt).trans d0, (B.cell (p := ⟨b, off + k * 5, none⟩) hblt).trans z0, (B.cell (p := ⟨wo.heap.size, 0, none⟩) hmlt).trans (cell_at hm 0 rfl), (B.cell (p := ⟨wo.heap.size, 1, none⟩) hmlt).trans (cell_at hm 1 rfl),
              (B.cell (p := ⟨wo.heap.size, 2, none⟩) hmlt).trans (cell_at hm 2 rfl), (B.cell (p := ⟨wo.heap.size, 3, none⟩) hmlt).trans (cell_at hm 3 rfl), (B.cell (p := ⟨wo.heap.size, 4, none⟩) hmlt).trans (cell_at hm 4 rfl),
              (B.cell (p := ⟨wo.heap.size, 5, none⟩) hmlt).trans (cell_at hm 5 rfl), (B.cell (p := ⟨wo.heap.size, 6, none⟩) hmlt).trans (cell_at hm 6 rfl), (B.cell (p := ⟨wo.heap.size, 7, none⟩) hmlt).trans (cell_at hm 7 rfl)⟩
          obtain ⟨L, hP0, hg⟩ := H.out.2.2 (by omega)
          have hP := hP0.below hbi
          clear hP0
          have BW : Aside (Below w.heap.size w wr ∧ wr.heap[w.heap.size]? = some (.cells #[.slice (some ⟨b, off, none⟩) n cap] 24 (0, 0))) := ⟨H.out.1.then hbi, (hbi.block w.heap.size hlt).trans H.out.2.1⟩
          have B0 : Below wr.heap.size wr wr.drew := (Below.refl _ wr).drew
          clear zc hbi hm hsi S0 S1 fr0 fr1 d0 z0 hmc0 hmc1
          go_wp2_with fail
          go_region_held3 (fun w' => w'.cell? ⟨w.heap.size, 0, none⟩ = some (.slice (some ⟨b, off, none⟩) n cap) ∧ w'.cell? ⟨b, off + k * 5, none⟩ = some (.int .i8 (z k 0)) ∧
              w'.cell? ⟨wo.heap.size, 0, none⟩ = some (.int .i64 a) ∧ w'.cell? ⟨wo.heap.size, 1, none⟩ = some (.int .i64 b') ∧ w'.cell? ⟨wo.heap.size, 2, none⟩ = some (.int .i64 0) ∧
              w'.cell? ⟨wo.heap.size, 3, none⟩ = some (.int .i64 0) ∧ w'.cell? ⟨wo.heap.size, 4, none⟩ = some (.int .i64 0) ∧ w'.cell? ⟨wo.heap.size, 5, none⟩ = some (.int .i64 0) ∧
              w'.cell? ⟨wo.heap.size, 6, none⟩ = some (.int .i64 0) ∧ w'.cell? ⟨wo.heap.size, 7, none⟩ = some (.int .i64 0))
            (first | exact hS _ (by assumption) | exact hS _ (Below.alloc (by assumption) (Below.size (by assumption)) _))
            (first
              | (go_at_call 20; refine (whole_c ?_ _).mono ?_; with_reducible exact hcm; rintro e w1 ⟨hb1, c, hck, rfl, okc⟩; have B1 := B0.then hb1)
              | (go_at_call 20; refine (whole_c ?_ _).mono ?_; with_reducible exact h1m; rintro e w2 ⟨hb2, u, huk, rfl, oku⟩; have B2 := B1.then hb2)
              | (go_at_call 19; refine (scale_w hck huk (okc.below hb2) oku hcm he (nodup_w okc oku)).mono ?_; rintro e w3 ⟨hb3, x3, l3, c3, M, rfl, hgq, hQ⟩; have B3 := B2.then hb3)
              | (go_at_call 18; refine (add_step (r := k) ?_ hg hgq hP B3 (hQ.mono B2.size)).mono ?_; omega; rintro e w4 ⟨hb4, v4, rfl, ⟨a4, l4, c4, rfl⟩, hnext⟩; have B4 := B3.then hb4))
          have BZ : Aside (Below w.heap.size w w4 ∧ w4.heap[w.heap.size]? = some (.cells #[.slice (some ⟨b, off, none⟩) n cap] 24 (0, 0)) ∧ Rnd w4 (.slice a4 l4 c4) (k + 1)) :=
            ⟨BW.out.1.then B4, (B4.block w.heap.size hxlt).trans BW.out.2, fun h => hnext (by omega)⟩
          clear hnext hS hb1 hb2 hb3 hb4 B0 B1 B2 B3 B4 hP hQ
          go_wp2_with fail
          all_goals
            go_roundw
            case rel => exact ⟨k + 1, by omega, by go_num, ⟨_, _, _, rfl⟩, BZ.out⟩
            case measure => simp [intOf]; omega
    · go_ret
      exact ⟨⟨_, _, _, rfl⟩, H.out.1⟩
    · go_ret
      exact ⟨⟨_, _, _, rfl⟩, H.out.1⟩

set_option maxRecDepth 8000 in
set_option maxHeartbeats 4000000 in
theorem made_nil (a0 : Option Addr) (cap : Nat) (w : World) :
    Calls Tryz.prog 6 #[.agg #[.slice a0 0 cap], .int .i64 2, .int .i64 2, .int .i64 3] w fun e w' => (∃ a l c, e = .returned (.slice a l c)) ∧ Below w.heap.size w w' := by
  go_enter Tryz.func6, Tryz.ntmps6
  go_wp2
  go_loopw [9, 10] (fun s9 s10 wr => ∃ k : Nat, k = 0 ∧ s10 = .int .i64 k ∧ Slc s9 ∧ Hid (Below w.heap.size w wr ∧ wr.heap[w.heap.size]? = some (.cells #[.slice a0 0 cap] 24 (0, 0)))) (fun _ s10 _ => 3 - (intOf s10).toNat)
  case atStart =>
    refine ⟨0, rfl, rfl, ⟨_, _, _, rfl⟩, ((Below.refl _ w).alloc (Nat.le_refl _) _).alloc (by simp) _, ?_⟩
    show ((w.heap.push _).push _)[w.heap.size]? = _
    rw [Array.getElem?_push, if_neg (by simp), Array.getElem?_push, if_pos rfl]
  case round =>
    obtain ⟨k, rfl, rfl, ⟨a9, l9, c9, rfl⟩, hbel, hrow⟩ := hrel
    have c0 : wr.cell? ⟨w.heap.size, 0, none⟩ = some (.slice a0 0 cap) := by simp [World.cell?, hrow]
    have H : Aside (Below w.heap.size w wr) := hbel
    clear hbel hrow
    go_wp2
    all_goals
      go_ret
      exact ⟨⟨_, _, _, rfl⟩, H.out⟩

theorem made_ok {T : Value} {w : World} (h : TLaid T w) : MadeOk T w := by
  intro w1 hb1
  rcases h with ⟨a, c, rfl⟩ | ⟨z, b, off, n, cap, rfl, hn, hb, hz⟩
  · exact made_nil a c w1
  · exact made_some z b off n cap w1 hn (Nat.lt_of_lt_of_le hb hb1.size) fun k hk j hj => ⟨(hb1.cell (p := ⟨b, off + k * 5 + j, none⟩) hb).trans (hz k hk j hj).1, (hz k hk j hj).2⟩
end Go.Proofs.YtaokhbanpfmkmaaGreat
