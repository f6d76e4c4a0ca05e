/- A verified evaluator: a part of it. -/
import Derived.Test.YtaokhbanpfmkmaaGreatEvE
import Derived.Laws.Strings2
namespace Go.Ev
set_option linter.unusedVariables false
set_option linter.unusedSimpArgs false
variable {U : Ids}

/-! append. -/
section
variable {P : Program} {lo : Nat} {μ : Mu} {h : Hp} {w : World}

theorem growBy_le (n : Nat) : ∀ (r c : Nat), Builtin.growBy n r c ≤ (c + 768) * 2 ^ r
  | 0, c => by simp [Builtin.growBy]
  | r + 1, c => by
    unfold Builtin.growBy
    split
    · have : c + 768 ≤ (c + 768) * 2 ^ (r + 1) := Nat.le_mul_of_pos_right _ (Nat.pow_pos (by omega))
      omega
    · refine Nat.le_trans (growBy_le n r _) ?_
      rw [Nat.pow_succ, ← Nat.mul_assoc, Nat.mul_right_comm]
      exact Nat.mul_le_mul_right _ (by omega)

theorem nextcap_le {n c b : Nat} (hn : n ≤ 1048576) (hc : c ≤ 1048576) (hb : b ≤ 1048576) : Builtin.nextslicecap n c * b ≤ 2 ^ 48 := by
  have : Builtin.nextslicecap n c ≤ 33554432 := by
    unfold Builtin.nextslicecap
    have := growBy_le n 4 c
    have h3 : (c + 768) * 2 ^ 4 ≤ 33554432 := by
      have : (2 : Nat) ^ 4 = 16 := rfl
      rw [this]; omega
    split
    · omega
    · split
      · omega
      · exact Nat.le_trans this h3
  have h2 := Nat.mul_le_mul this hb
  exact Nat.le_trans h2 (Nat.le_of_ble_eq_true (by rfl))

/-- The cells of what is appended, in memory. -/
theorem src_ok {sz n : Nat} {x : Value} {new : List Value} (s : Sat P lo μ h.look w) (hn : lenV x = some n) (he : srcCells h (n * sz) x = some new) :
    (Builtin.lenOf (ren μ x)).run P w = .ok n w ∧ (Builtin.firstCells sz n (ren μ x)).run P w = .ok ⟨new.map (ren μ)⟩ w := by
  cases x <;> simp only [lenV] at hn <;> try cases hn
  case slice a c =>
    rw [ren_slice]
    cases a with
    | none =>
      simp only [srcCells, Option.some.injEq] at he
      subst he
      exact ⟨rfl, rfl⟩
    | some a =>
      refine ⟨rfl, ?_⟩
      simp only [srcCells] at he
      rw [ite'_eq] at he
      simp only [Option.map_some, Builtin.firstCells]
      split at he
      · rename_i h0
        rw [beq_eq] at h0
        cases he
        rw [h0]; rfl
      · exact run_rd s he
  case string b =>
    simp only [srcCells, Option.some.injEq] at he
    subst he
    refine ⟨by simp [Builtin.lenOf], ?_⟩
    rw [ren_string]
    obtain ⟨⟨l⟩⟩ := b
    have e : (ByteArray.mk ⟨l⟩).extract 0 (ByteArray.mk ⟨l⟩).size = ByteArray.mk ⟨l⟩ := by
      simp
    simp only [Builtin.firstCells, e, mapL_eq, Sem.run_pure]
    congr 1
    apply Array.ext'
    simp [byteV, List.map_map]

theorem src_st {n : Nat} {x : Value} {new : List Value} (ok : HpOk U h) (he : srcCells h n x = some new) : ∀ v ∈ new, Stable (Vis U h) v := by
  cases x <;> simp only [srcCells] at he <;> try cases he
  case slice a l c =>
    cases a with
    | none => cases he; intro v hv; cases hv
    | some a =>
      simp only at he
      rw [ite'_eq] at he
      split at he
      · cases he; intro v hv; cases hv
      · exact st_rd ok he
  case string b =>
    intro v hv
    rw [mapL_eq] at hv
    obtain ⟨x, _, rfl⟩ := List.mem_map.1 hv
    exact stable_closed rfl


/-- A new row with room behind what is known. -/
theorem newOpen_ok {w' : World} (ok : HpOk U h) (s : Sat P lo μ h.look w) (hlo : lo ≤ w.heap.size) {cs : List Value} (hst : ∀ v ∈ cs, Stable (Vis U h) v) {c : Array Value} {e : TypeId} {sz x : Nat}
    (hsz : sizeT P e = some sz) (hpos : 0 < sz) (hc : ∀ (i : Nat) (v : Value), cs[i]? = some v → c[i]? = some (ren μ v)) (hsize : c.size = cs.length + x * sz)
    (hw : w'.heap = w.heap.push (.cells c e (0, 0))) (hos : w'.os = w.os) (htape : w'.tape = w.tape) (hout : w'.output = w.output) :
    Go2 P U lo μ (muNew μ h w x) h (h.add (.row cs e true)) w w' := by
  refine go2_add ok s hlo (fun v hv => (hst v hv).mono fun i hi => (vis_add ok _ i).2 (.inl hi)) hw hos htape hout ⟨c, ?_, ?_, ?_, ?_⟩
  · rw [upMu_same, hw]; exact heap_push_last _ _
  · intro i v hv
    rw [upMu_same, ren_up (hst v (List.mem_of_getElem? hv))]
    simpa using hc i v hv
  · rw [upMu_same]; simp; omega
  · rw [if_pos rfl, upMu_same]
    exact ⟨sz, hsz, hpos, by simp; omega⟩

/-- A row grows where it lies: its old number goes, a new one is given. -/
theorem swap_ok {w' : World} {n0 : Nat} {cs0 cs : List Value} {e : TypeId} (ok : HpOk U h) (s : Sat P lo μ h.look w) (hl0 : h.look n0 = some (.row cs0 e true)) (hst : ∀ v ∈ cs, Stable (Vis U h) v) {c : Array Value} {base ext sz : Nat}
    (hsz : sizeT P e = some sz) (hpos : 0 < sz) (hwc : w'.heap[(μ n0).blk]? = some (.cells c e (0, 0))) (hc : ∀ i v, cs[i]? = some v → c[base + i]? = some (ren μ v)) (hsize : c.size = base + cs.length + ext * sz)
    (hs : w'.heap.size = w.heap.size) (hw : ∀ k, k ≠ (μ n0).blk → w'.heap[k]? = w.heap[k]?) (hos : w'.os = w.os) (htape : w'.tape = w.tape) (hout : w'.output = w.output) :
    Go2 P U lo μ (upMu μ h.next ⟨(μ n0).blk, base, ext⟩) h ((h.put n0 none).add (.row cs e true)) w w' := by
  have hv : n0 < h.next ∧ hidden n0 h.hid = false := ⟨ok.lt hl0, (look_vis hl0).1⟩
  have st1 : Step U h (h.put n0 none) := step_put ok hv.1 hv.2 (by intro b hb; cases hb)
  have ok1 := st1.ok
  have n1 : (h.put n0 none).next = h.next := put_next _ _ _
  have vis1 : ∀ i, Vis U h i → Vis U ((h.put n0 none).add (.row cs e true)) i := fun i hi => (vis_add ok1 _ i).2 (.inl ((vis_put _ _ _).2 hi))
  have st2 : Step U (h.put n0 none) ((h.put n0 none).add (.row cs e true)) := step_add ok1 fun v hv => (hst v hv).mono vis1
  have hlook : ∀ id, ((h.put n0 none).add (.row cs e true)).look id = if id = h.next then some (.row cs e true) else if id = n0 then none else h.look id := by
    intro id
    rw [look_add ok1, n1, look_put hv.2]
  have hag : ∀ id, id ≠ h.next → upMu μ h.next ⟨(μ n0).blk, base, ext⟩ id = μ id := fun id hn => upMu_ne hn
  have hblk : ∀ id b, id ≠ n0 → h.look id = some b → BlkOk P w' (upMu μ h.next ⟨(μ n0).blk, base, ext⟩) id b := by
    intro id b hne hb
    refine (s.blk id b hb).move (ok.st id b hb) (fun i hi => hag i (by have := hi.1; omega)) (hag id (by have := ok.lt hb; omega)) (hw _ ?_)
    intro e'; exact hne (s.inj id n0 b _ hb hl0 e')
  refine ⟨st1.trans st2, ⟨?_, ⟨?_, ?_, ?_, ?_⟩, ?_, ?_, Nat.le_of_eq hs.symm, ?_, ?_, hos, htape, hout⟩⟩
  · intro id hn
    refine hag id fun e' => hn ?_
    subst e'; exact ⟨Nat.le_refl _, by rw [add_next, n1]; omega⟩
  · intro id hi; rw [hag id (by have := ok.nx; omega)]; exact s.low id hi
  · intro id b hl
    rw [hlook] at hl
    split at hl
    · rename_i e'; subst e'; cases hl
      refine ⟨c, by rw [upMu_same]; exact hwc, ?_, ?_, ?_⟩
      · intro i v hv'
        rw [upMu_same, ren_up (hst v (List.mem_of_getElem? hv'))]
        exact hc i v hv'
      · rw [upMu_same]; simp only; omega
      · rw [if_pos rfl, upMu_same]; exact ⟨sz, hsz, hpos, hsize⟩
    · split at hl
      · cases hl
      · rename_i h1 h2; exact hblk id b h2 hl
  · intro id id' b b' h1 h2 e'
    rw [hlook] at h1 h2
    split at h1 <;> split at h2
    · omega
    · rename_i e1 e2
      split at h2
      · cases h2
      · rename_i e3
        rw [e1, upMu_same, hag id' e2] at e'
        exact absurd (s.inj n0 id' _ b' hl0 h2 e') (fun x => e3 x.symm)
    · rename_i e1 e2
      split at h1
      · cases h1
      · rename_i e3
        rw [e2, upMu_same, hag id e1] at e'
        exact absurd (s.inj id n0 b _ h1 hl0 e') e3
    · rename_i e1 e2
      split at h1
      · cases h1
      · split at h2
        · cases h2
        · rw [hag id e1, hag id' e2] at e'
          exact s.inj id id' b b' h1 h2 e'
  · intro id b hl
    rw [hlook] at hl
    split at hl
    · rename_i e'; subst e'; rw [upMu_same]; exact s.lo n0 _ hl0
    · rename_i e1
      split at hl
      · cases hl
      · rw [hag id e1]; exact s.lo id b hl
  · intro id hn hnw
    rw [hlook, if_neg, if_neg]
    · rintro rfl
      exact hnw (by unfold Wr; rw [add_mw, put_mw]; omega)
    · rintro rfl; exact hn ⟨Nat.le_refl _, by rw [add_next, n1]; omega⟩
  · intro id b' hn hl
    rw [hlook, if_neg] at hl
    · split at hl
      · cases hl
      · exact ⟨b', hl⟩
    · rintro rfl; exact hn ⟨Nat.le_refl _, by rw [add_next, n1]; omega⟩
  · intro k hk hn
    refine hw k fun e' => ?_
    exact hn n0 _ (by unfold Wr; rw [add_mw, put_mw]; omega) hl0 e'.symm
  · rintro id b' ⟨h1, h2⟩ _
    rw [add_next, n1] at h2
    have : id = h.next := by omega
    subst this
    rw [upMu_same]
    exact .inr ⟨n0, _, by unfold Wr; rw [add_mw, put_mw]; omega, hl0, rfl⟩


theorem elB_some {t : TypeId} {r : TypeId × Nat} (he : (elB P t).e = some r) :
    P.underlying t = some (.slice r.1) ∧ sizeT P r.1 = some r.2 ∧ r.2 ≠ 0 ∧ (∃ b z, bytesT P r.1 = some b ∧ b ≤ 1048576 ∧ zeroCellsOf P r.1 = some z) := by
  unfold elB at he
  cases hq : (ob (elemOfT P t) fun e => ob (sizeT P e) fun sz => ob (bytesT P e) fun b => ob (zeroCellsOf P e) fun _ =>
    ite' (Nat.beq sz 0) none (ite' (Nat.ble b 1048576) (some (e, sz)) none)) with
  | none => simp [hq] at he
  | some q =>
    simp only [hq, Option.some.injEq] at he
    subst he
    obtain ⟨e, h1, hq⟩ := ob_eq_some.1 hq
    obtain ⟨sz, h2, hq⟩ := ob_eq_some.1 hq
    obtain ⟨b, h3, hq⟩ := ob_eq_some.1 hq
    obtain ⟨z, h4, hq⟩ := ob_eq_some.1 hq
    obtain ⟨h5, hq⟩ := ite'_eq_some'.1 hq
    obtain ⟨h6, hq⟩ := ite'_eq_some.1 hq
    cases hq
    rw [beq_ne] at h5
    rw [ble_eq] at h6
    exact ⟨elemOf_some h1, h2, h5, b, z, h3, h6, h4⟩

theorem run_zeroCells' {t : TypeId} {z : List Value} (hz : zeroCellsOf P t = some z) :
    ∃ v, (∀ w, (zeroValue t).run P w = .ok v w) ∧ v.cells.toList = z := by
  unfold zeroCellsOf at hz
  obtain ⟨z', h1, h2⟩ := ob_eq_some.1 hz
  obtain ⟨n, h0, h2⟩ := ob_eq_some.1 h2
  obtain ⟨h3, h4⟩ := ite'_eq_some.1 h2
  obtain ⟨h7, h8⟩ := ite'_eq_some.1 h4
  cases h8
  unfold zeroOf at h1
  obtain ⟨i, h5, h6⟩ := ob_eq_some.1 h1
  exact ⟨z', fun w => by simp [zeroValue, typeInfo, h5, h6], rfl⟩

section
variable {argTypes : List TypeId} {ty t u e : TypeId} {d : TypeDesc} {sz len n : Nat} {x : Value} {newc : Array Value} {base : Option Addr} {cap : Nat}

theorem run_append_in (h1 : argTypes[0]? = some t) (h2 : P.underlying t = some (.slice e)) (h3 : sizeT P e = some sz) (h4 : argTypes[1]? = some u) (h5 : P.underlying u = some d) (h6 : notInt d = true)
    (h7 : (Builtin.lenOf x).run P w = .ok n w) (h8 : (Builtin.firstCells sz n x).run P w = .ok newc w) (hn : len + n ≤ cap) :
    (Builtin.append_ argTypes.toArray ty #[.slice base len cap, x]).run P w =
      match base with
      | some a => ((storeCells (a.add (len * sz)) newc.toList).run P w).andThen fun _ w' => .ok (.slice base (len + n) cap) w'
      | none => .ok (.slice base (len + n) cap) w := by
  cases d <;> first
    | (exfalso; simp [notInt] at h6; done)
    | (unfold Builtin.append_
       simp only [List.getElem?_toArray, h1, h4, List.getElem?_cons_zero, List.getElem?_cons_succ, Sem.run_bind, run_underlying h2, run_underlying h5, Result.andThen_ok, run_size h3, Sem.run_pure, Bool.false_eq_true, if_false, h7, Bool.not_false, if_true, Sem.run_ite, hn, h8]
       cases base <;> simp)

theorem run_append_out (h1 : argTypes[0]? = some t) (h2 : P.underlying t = some (.slice e)) (h3 : sizeT P e = some sz) (h4 : argTypes[1]? = some u) (h5 : P.underlying u = some d) (h6 : notInt d = true)
    (h7 : (Builtin.lenOf x).run P w = .ok n w) (h8 : ∀ k, (Builtin.firstCells sz n x).run P { w with drawn := k } = .ok newc { w with drawn := k }) (hn : ¬ len + n ≤ cap) {b : Nat} {z : List Value} (hb : bytesT P e = some b) (hb' : b ≤ 1048576) (hz : zeroCellsOf P e = some z) (hs : len + n ≤ 1048576)
    {oldc : Array Value} (h9 : ∀ k, (Builtin.firstCells sz len (.slice base len cap)).run P { w with drawn := k } = .ok oldc { w with drawn := k }) :
    ∃ y rest, rest.size = y * sz ∧ (Builtin.append_ argTypes.toArray ty #[.slice base len cap, x]).run P w =
      .ok (.slice (some ⟨w.heap.size, 0, none⟩) (len + n) (len + n + y)) { w with drawn := w.drawn + 1, heap := w.heap.push (.cells (oldc ++ newc ++ rest) e (0, 0)) } := by
  unfold bytesT at hb
  obtain ⟨info, i1, i2⟩ := om_eq_some.1 hb
  have hcap : ¬ Builtin.nextslicecap (len + n) cap * info.bytes > 2 ^ 48 := by
    have := nextcap_le (n := len + n) (c := cap) (b := info.bytes) hs (by omega) (by omega)
    omega
  have hbig : ¬ ((len : Int) + (n : Int) > IntKind.i64.max) := by
    have : IntKind.i64.max = 9223372036854775807 := by decide
    omega
  have hti : ∀ w, (typeInfo e).run P w = .ok info w := by intro w; simp [typeInfo, i1]
  obtain ⟨v, z1, z2⟩ := run_zeroCells' hz
  obtain ⟨_, _, _, _, z4⟩ := run_zeroCells hz w
  have hvs : v.cells.size = sz := by
    rw [h3] at z4
    have := Option.some.inj z4
    rw [this, ← z2]; simp
  have hcut : ∀ y, len + n ≤ (Question.appendCap (len + n) cap e).cut y := fun y => Nat.le_add_right _ _
  have hfor : (Question.appendCap (len + n) cap e).forced = false := rfl
  have hbig' : ¬ (((len + n : Nat) : Int) > IntKind.i64.max) := by
    have : IntKind.i64.max = 9223372036854775807 := by decide
    omega
  refine ⟨(Question.appendCap (len + n) cap e).cut (w.tape w.drawn (.appendCap (len + n) cap e)) - (len + n), Builtin.zeroCells v.cells ((Question.appendCap (len + n) cap e).cut (w.tape w.drawn (.appendCap (len + n) cap e)) - (len + n)), ?_, ?_⟩
  · simp [Builtin.zeroCells, hvs]
  · generalize hq : (Question.appendCap (len + n) cap e) = q at hcut hfor ⊢
    have hc := hcut (w.tape w.drawn q)
    have e1 : len + n + (q.cut (w.tape w.drawn q) - (len + n)) = q.cut (w.tape w.drawn q) := by omega
    rw [e1]
    cases d <;> first
      | (exfalso; simp [notInt] at h6; done)
      | (unfold Builtin.append_
         simp only [List.getElem?_toArray, h1, h4, List.getElem?_cons_zero, List.getElem?_cons_succ, Sem.run_bind, run_underlying h2, run_underlying h5, Result.andThen_ok, run_size h3, Sem.run_pure, Bool.false_eq_true, if_false, h7, Bool.not_false, if_true, Sem.run_ite, hn, hti, hcap, hbig', false_and,
           run_choose, hq, hfor, run_askRoom, h9, h8, z1, newRow, run_newObj])
end

end
end Go.Ev

namespace Go.Ev
set_option linter.unusedVariables false
set_option linter.unusedSimpArgs false
variable {U : Ids}
section
variable {P : Program} {lo : Nat} {μ : Mu} {h : Hp} {w : World}

theorem toList_get {c : Array Value} {l : List Value} (h : c.toList = l) (i : Nat) : c[i]? = l[i]? := by rw [← h]; simp

/-- The old cells of a slice that is appended to. -/
theorem run_old {sz len cap n : Nat} {base : Option Addr} {old : List Value} {w : World} (s : Sat P lo μ h.look w) (hn : n = len * sz) (he : baseCells h n base = some old) :
    (Builtin.firstCells sz len (.slice (base.map (renA μ)) len cap)).run P w = .ok ⟨old.map (ren μ)⟩ w := by
  subst hn
  cases base with
  | none =>
    simp only [baseCells] at he
    obtain ⟨_, h2⟩ := ite'_eq_some.1 he
    cases h2; rfl
  | some a =>
    simp only [baseCells] at he
    rw [ite'_eq] at he
    simp only [Option.map_some, Builtin.firstCells]
    split at he
    · rename_i h0
      rw [beq_eq] at h0
      cases he
      rw [h0]; rfl
    · exact run_rd s he

theorem st_old {n : Nat} {base : Option Addr} {old : List Value} (ok : HpOk U h) (he : baseCells h n base = some old) : (∀ v ∈ old, Stable (Vis U h) v) ∧ old.length = n := by
  cases base with
  | none =>
    simp only [baseCells] at he
    obtain ⟨h1, h2⟩ := ite'_eq_some.1 he
    cases h2
    rw [beq_eq] at h1
    exact ⟨(by intro v hv; cases hv), h1.symm⟩
  | some a =>
    simp only [baseCells] at he
    rw [ite'_eq] at he
    split at he
    · rename_i h0
      rw [beq_eq] at h0
      cases he
      exact ⟨(by intro v hv; cases hv), h0.symm⟩
    · obtain ⟨_, _, _, _, h4⟩ := rd_some he
      exact ⟨st_rd ok he, h4⟩

theorem appendV_slice {e : TypeId} {sz : Nat} {x sv : Value} {q : Value × Hp} (he : appendV h e sz x sv = some q) : ∃ base len cap, sv = .slice base len cap := by
  cases sv <;> simp [appendV] at he
  exact ⟨_, _, _, rfl⟩

theorem sat_drawn {k : Nat} (s : Sat P lo μ h.look w) : Sat P lo μ h.look { w with drawn := k } :=
  ⟨s.low, fun id b hl => by have := s.blk id b hl; cases b <;> exact this, s.inj, s.lo⟩

theorem append_ok {argTypes : List TypeId} {ty : TypeId} {sv x r : Value} {h' : Hp} (ok : HpOk U h) (s : Sat P lo μ h.look w) (hlo : lo ≤ w.heap.size) (hs : Stable (Vis U h) sv)
    (he : evAppend P h argTypes sv x = some (r, h')) :
    ∃ μ' w', Go2 P U lo μ μ' h h' w w' ∧ (Builtin.append_ argTypes.toArray ty #[ren μ sv, ren μ x]).run P w = .ok (ren μ' r) w' ∧ Stable (Vis U h') r := by
  unfold evAppend at he
  obtain ⟨t, a1, he⟩ := ob_eq_some.1 he
  obtain ⟨⟨e, sz⟩, a2, he⟩ := ob_eq_some.1 he
  obtain ⟨u, a3, he⟩ := ob_eq_some.1 he
  obtain ⟨d, a4, he⟩ := ob_eq_some.1 he
  obtain ⟨a5, he⟩ := ite'_eq_some.1 he
  obtain ⟨b1, b2, b3, b, z, b4, b5, b6⟩ := elB_some a2
  simp only at b1 b2 b3 b4 b6 he
  rw [nth_eq] at a1 a3
  obtain ⟨base, len, cap, rfl⟩ := appendV_slice he
  simp only [appendV] at he
  obtain ⟨n, c1, he⟩ := ob_eq_some.1 he
  obtain ⟨c2, he⟩ := ite'_eq_some.1 he
  obtain ⟨new, c3, he⟩ := ob_eq_some.1 he
  obtain ⟨c4, he⟩ := ite'_eq_some.1 he
  obtain ⟨c5, he⟩ := ite'_eq_some.1 he
  rw [ble_eq] at c2
  rw [beq_eq, lenL_eq] at c4
  rw [allL_eq, List.all_eq_true] at c5
  simp only [nAdd, nMul] at c2 c3 c4 he
  obtain ⟨d1, d2⟩ := src_ok (P := P) s c1 c3
  have hnew := src_st ok c3
  have hcap := capKnown_le μ base cap
  have hOPEN : OPEN = 18446744073709551616 := rfl
  rw [ren_slice]
  unfold appendTo at he
  rw [ite'_eq] at he
  by_cases hfit : len + n ≤ capKnown cap
  · -- in place
    rw [if_pos (ble_eq.2 hfit), ite'_eq] at he
    have hrun := run_append_in (P := P) (w := w) (ty := ty) (base := base.map (renA μ)) (cap := realCap μ base cap) (len := len) a1 b1 b2 a3 a4 a5 d1 d2 (by omega)
    by_cases hz : len + n = len
    · rw [if_pos (beq_eq.2 hz)] at he
      simp only [Option.some.injEq, Prod.mk.injEq] at he
      obtain ⟨rfl, rfl⟩ := he
      have hn0 : n = 0 := by omega
      have hnil : new = [] := by
        apply List.eq_nil_of_length_eq_zero; rw [c4, hn0]; simp
      refine ⟨μ, w, .refl ok s, ?_, ?_⟩
      · rw [hrun, ren_slice]
        subst hnil
        cases base with
        | none => rfl
        | some a => simp [storeCells]
      · cases base with
        | none => exact stable_of_const fun μ => by simp
        | some a => exact stable_slice (stable_slice_inv hs)
    · rw [if_neg (by rw [beq_eq]; exact hz)] at he
      obtain ⟨a, rfl, he⟩ := ob_eq_some.1 he
      obtain ⟨h2, g1, g2⟩ := om_eq_some.1 he
      simp only [nMul] at g1
      simp only [Prod.mk.injEq] at g2
      obtain ⟨rfl, rfl⟩ := g2
      obtain ⟨w', r1, r2⟩ := wr_ok ok s g1 c5 hnew
      refine ⟨μ, w', r2, ?_, stable_slice (r2.step.vis _ (stable_slice_inv hs))⟩
      rw [hrun]
      simp only [Option.map_some]
      rw [← renA_wf, r1]
      simp [ren_slice]
  · rw [if_neg (by rw [ble_eq]; exact hfit), ite'_eq] at he
    have hst : ∀ old, (∀ v ∈ old, Stable (Vis U h) v) → ∀ v ∈ appL old new, Stable (Vis U h) v := by
      intro old ho v hv
      rw [appL_eq, List.mem_append] at hv
      exact hv.elim (ho v) (hnew v)
    have d2k : ∀ k, (Builtin.firstCells sz n (ren μ x)).run P { w with drawn := k } = .ok ⟨new.map (ren μ)⟩ { w with drawn := k } := fun k => (src_ok (P := P) (sat_drawn (k := k) s) c1 c3).2
    -- the memory behind a growth into a new row
    have fresh : ∀ (old : List Value) (h1 : Hp) (_ : h1.next = h.next) (ok1 : HpOk U h1) (_ : ∀ id, Vis U h id → Vis U h1 id) (s1 : Sat P lo μ h1.look w) (_ : ∀ v ∈ old, Stable (Vis U h) v) (_ : old.length = len * sz) (_ : ¬ len + n ≤ realCap μ base cap)
        (_ : ∀ k, (Builtin.firstCells sz len (.slice (base.map (renA μ)) len (realCap μ base cap))).run P { w with drawn := k } = .ok ⟨old.map (ren μ)⟩ { w with drawn := k }),
        ∃ μ' w', Go2 P U lo μ μ' h1 (h1.add (.row (appL old new) e true)) w w' ∧
          (Builtin.append_ argTypes.toArray ty #[.slice (base.map (renA μ)) len (realCap μ base cap), ren μ x]).run P w = .ok (ren μ' (.slice (some ⟨h.next, 0, none⟩) (len + n) (OPEN + (len + n)))) w' := by
      intro old h1 hnx ok1 hv1 s1 ho hol hg hf
      obtain ⟨y, rest, q1, q2⟩ := run_append_out (P := P) (w := w) (ty := ty) (base := base.map (renA μ)) (cap := realCap μ base cap) (len := len) a1 b1 b2 a3 a4 a5 d1 d2k hg b4 b5 b6 c2 hf
      refine ⟨muNew μ h1 w y, { w with drawn := w.drawn + 1, heap := w.heap.push (.cells (⟨old.map (ren μ)⟩ ++ ⟨new.map (ren μ)⟩ ++ rest) e (0, 0)) }, newOpen_ok (x := y) (c := ⟨old.map (ren μ)⟩ ++ ⟨new.map (ren μ)⟩ ++ rest) ok1 s1 hlo (fun v hv => (hst old ho v hv).mono hv1) b2 (by omega) ?_ ?_ rfl rfl rfl rfl, ?_⟩
      · intro i v hv
        rw [appL_eq] at hv
        have hi : i < (old ++ new).length := by
          rcases Nat.lt_or_ge i (old ++ new).length with hh | hh
          · exact hh
          · rw [List.getElem?_eq_none hh] at hv; cases hv
        have e1 : ((⟨old.map (ren μ)⟩ ++ ⟨new.map (ren μ)⟩ ++ rest : Array Value)).toList = (old ++ new).map (ren μ) ++ rest.toList := by simp
        rw [toList_get e1, List.getElem?_append_left (by simpa using hi), List.getElem?_map, hv]
        rfl
      · rw [appL_eq]; simp [q1, hol, c4]
      · rw [q2, ren_slice1, renCap_open (Nat.le_add_right _ _)]
        unfold renA muNew
        rw [← hnx]
        simp only [upMu_same]
        rw [Nat.add_sub_cancel_left]
    by_cases eo : OPEN ≤ cap
    · -- an open end
      rw [if_pos (ble_eq.2 eo)] at he
      obtain ⟨a, hba, he2⟩ := ob_eq_some.1 he
      clear he
      subst hba
      have he := he2
      clear he2
      obtain ⟨blk, g1, he⟩ := ob_eq_some.1 he
      cases blk with
      | map es c => simp [growAt] at he
      | iter => simp [growAt] at he
      | loop => simp [growAt] at he
      | defb => simp [growAt] at he
      | row cs e' o =>
      cases o with
      | false => simp [growAt] at he
      | true =>
      simp only [growAt] at he
      obtain ⟨g2, he1⟩ := ite'_eq_some.1 he
      obtain ⟨g3, he2⟩ := ite'_eq_some.1 he1
      obtain ⟨old, g4, he3⟩ := om_eq_some.1 he2
      clear he he1 he2
      rw [beq_eq] at g2
      subst g2
      rw [beq_eq, lenL_eq] at g3
      rw [dropL_eq] at g4
      obtain ⟨g5, g6⟩ := takeN_some.1 g4
      simp only [nAdd, nMul] at g3 g5 g6
      simp only [grow, Prod.mk.injEq] at he3
      obtain ⟨rfl, rfl⟩ := he3
      rw [put_next]
      have hv := ok.vis g1
      have hrow : Ev.rowAt h a = some cs := by unfold Ev.rowAt; rw [g1]; rfl
      have hall := ok.st _ _ g1
      have ho : ∀ v ∈ old, Stable (Vis U h) v := by
        intro v hv'; rw [g6] at hv'; exact hall v (List.mem_of_mem_drop (List.mem_of_mem_take hv'))
      have hol : old.length = len * sz := by rw [g6, List.length_take]; omega
      obtain ⟨c, r1, r2, r3, r4⟩ := s.blk _ _ g1
      rw [if_pos rfl] at r4
      obtain ⟨sz', r5, r6, r7⟩ := r4
      have hsz : sz' = sz := by rw [b2] at r5; exact (Option.some.inj r5).symm
      subst hsz
      have hreal : realCap μ (some a) cap = capKnown cap + (μ a.block).ext := by
        show renCap μ a cap = _
        rw [renCap_open eo, capKnown_open eo]
      by_cases hin : len + n ≤ realCap μ (some a) cap
      · -- it grows in place
        have hrun := run_append_in (P := P) (w := w) (ty := ty) (base := some (renA μ a)) (cap := realCap μ (some a) cap) (len := len) a1 b1 b2 a3 a4 a5 d1 d2 hin
        have hlen : len * sz' ≤ capKnown cap * sz' := by
          have : (cs.drop a.off).length = capKnown cap * sz' := by rw [List.length_drop]; omega
          omega
        have hfits : (μ a.block).base + a.off + len * sz' + n * sz' ≤ c.size := by
          have h1 : (len + n) * sz' ≤ (capKnown cap + (μ a.block).ext) * sz' := Nat.mul_le_mul_right _ (by omega)
          rw [Nat.add_mul, Nat.add_mul] at h1
          omega
        have hst' := run_storeCells_at P (μ a.block).blk ((μ a.block).base + a.off + len * sz') e (new.map (ren μ)) 0 c w r1 (by simp [c4]; omega) (by
          intro v hv'
          obtain ⟨y, hy, rfl⟩ := List.mem_map.1 hv'
          exact plain_ren μ (c5 y hy))
        have hadd : (renA μ a).add (len * sz') = ⟨(μ a.block).blk, (μ a.block).base + a.off + len * sz', none⟩ := by
          rw [← renA_wf]; unfold renA wf; simp [Nat.add_assoc]
        obtain ⟨f1, f2, f3, f4, _⟩ := setRow_facts (w := w) (g := (μ a.block).blk) (c := c) (e := e) (c' := (c.toList.take ((μ a.block).base + a.off + len * sz' + 0) ++ new.map (ren μ) ++ c.toList.drop ((μ a.block).base + a.off + len * sz' + 0 + (new.map (ren μ)).length)).toArray) r1
        have hcl : c.toList.length = c.size := by simp
        refine ⟨_, _, swap_ok (base := (μ a.block).base + a.off) (ext := realCap μ (some a) cap - (len + n)) (sz := sz') ok s g1 (hst old ho) b2 r6 (setRow_heap w _ c _ e (0, 0) r1) ?_ ?_ f1 (fun k hk => setRow_other w _ k _ hk) f2 f3 f4, ?_, ?_⟩
        · intro i v hv'
          rw [appL_eq] at hv'
          rw [List.getElem?_toArray, List.append_assoc, append_map_get (f := id) (by simp [c4]; omega)]
          simp only [List.length_map, Nat.add_zero]
          by_cases h1 : i < len * sz'
          · rw [if_pos (by omega)]
            rw [List.getElem?_append_left (by omega)] at hv'
            have := r2 (a.off + i) v (rd_get (n := len * sz') g6 hv')
            rw [Array.getElem?_toList, ← Nat.add_assoc] at *
            exact this
          · rw [List.getElem?_append_right (by omega), hol] at hv'
            have hi : i - len * sz' < new.length := by
              rcases Nat.lt_or_ge (i - len * sz') new.length with hh | hh
              · exact hh
              · rw [List.getElem?_eq_none hh] at hv'; cases hv'
            rw [if_neg (by omega), if_pos (by omega), List.getElem?_map, show (μ a.block).base + a.off + i - ((μ a.block).base + a.off + len * sz') = i - len * sz' from by omega, hv']
            rfl
        · rw [appL_eq]
          have e1 : (realCap μ (some a) cap - (len + n)) * sz' = realCap μ (some a) cap * sz' - (len + n) * sz' := Nat.sub_mul _ _ _
          have e2 : (len + n) * sz' ≤ realCap μ (some a) cap * sz' := Nat.mul_le_mul_right _ hin
          have e3 : (len + n) * sz' = len * sz' + n * sz' := Nat.add_mul _ _ _
          have e4 : realCap μ (some a) cap * sz' = capKnown cap * sz' + (μ a.block).ext * sz' := by rw [hreal, Nat.add_mul]
          simp only [List.size_toArray, List.length_append, List.length_take, List.length_drop, List.length_map, hol, c4]
          omega
        · rw [show (some a).map (renA μ) = some (renA μ a) from rfl, hrun]
          simp only [hadd]
          rw [hst']
          simp only [Result.andThen_ok]
          rw [nAdd, ren_slice1, renCap_open (Nat.le_add_right _ _)]
          unfold renA
          simp only [upMu_same, Nat.add_zero]
          rw [Nat.add_sub_cancel_left, show len + n + (realCap μ (some a) cap - (len + n)) = realCap μ (some a) cap from by omega]
        · refine stable_slice ?_
          have h2 := (step_put ok (ok.lt g1) (look_vis g1).1 (b := none) (by intro b hb; cases hb)).ok
          have := vis_new h2 (.row (appL old new) e true)
          rwa [put_next] at this
      · -- a new row
        have g7 := go2_put (P := P) (lo := lo) (μ := μ) (w' := w) (b := none) ok s g1 (by intro b hb; cases hb) rfl (fun _ _ => rfl) rfl rfl rfl (by intro b hb; cases hb)
        have hfirst : ∀ k, (Builtin.firstCells sz' len (.slice ((some a).map (renA μ)) len (realCap μ (some a) cap))).run P { w with drawn := k } = .ok ⟨old.map (ren μ)⟩ { w with drawn := k } := by
          intro k
          have : rd h a (len * sz') = some old := by unfold rd; rw [hrow]; simp only [ob_some, dropL_eq]; exact g4
          simp only [Option.map_some, Builtin.firstCells]
          exact run_rd (sat_drawn s) this
        obtain ⟨μ', w', k1, k2⟩ := fresh old (h.put a.block none) (put_next _ _ _) g7.ok (fun id hi => (vis_put _ _ _).2 hi) g7.sat ho hol hin hfirst
        refine ⟨μ', w', g7.trans k1, k2, ?_⟩
        refine stable_slice ?_
        have := vis_new g7.ok (.row (appL old new) e true)
        rwa [put_next] at this
    · rw [if_neg (by rw [ble_eq]; exact eo)] at he
      obtain ⟨old, g1, g2⟩ := om_eq_some.1 he
      simp only [grow, Prod.mk.injEq] at g2
      obtain ⟨rfl, rfl⟩ := g2
      have hreal : realCap μ base cap = capKnown cap := by
        cases base with
        | none => exact (capKnown_exact eo).symm
        | some a => exact (renCap_exact eo).trans (capKnown_exact eo).symm
      obtain ⟨ho, hol⟩ := st_old ok g1
      obtain ⟨μ', w', k1, k2⟩ := fresh old h rfl ok (fun _ hi => hi) s ho hol (by omega) (fun k => run_old (sat_drawn s) rfl g1)
      exact ⟨μ', w', k1, k2, stable_slice (vis_new ok _)⟩

end
end Go.Ev
