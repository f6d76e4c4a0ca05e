import Derived.Test.YtgkfjelbenbnnaaGreatEvC
import Derived.Laws.CopyRow
import Derived.Orders
namespace Go.Ev
set_option linter.unusedVariables false
set_option linter.unusedSimpArgs false
variable {U : Ids}

/-! The operations that look at memory, one by one: what the evaluator gives is what the model's run gives. -/

theorem boolOf_some {v : Value} {b : Bool} : boolOf? v = some b ↔ v = .bool b := by cases v <;> simp [boolOf?]
theorem intOf_some {v : Value} {x : IntKind × Int} : intOf? v = some x ↔ v = .int x.1 x.2 := by
  cases v <;> simp [intOf?]
  constructor
  · rintro rfl; exact ⟨rfl, rfl⟩
  · rintro ⟨rfl, rfl⟩; rfl
theorem natOf_some {v : Value} {n : Nat} : natOf? v = some n ↔ ∃ k, v = .int k (.ofNat n) := by
  cases v <;> simp [natOf?]
  rename_i k m
  cases m with
  | ofNat m => simp [natI]; omega
  | negSucc m => simp [natI]
theorem addrOf_some {v : Value} {a : Addr} : addrOf? v = some a ↔ v = .pointer (some a) := by cases v <;> simp [addrOf?]
theorem sliceOf_some {v : Value} {x : Option Addr × Nat × Nat} : sliceOf? v = some x ↔ v = .slice x.1 x.2.1 x.2.2 := by
  cases v <;> simp [sliceOf?]
  constructor
  · rintro rfl; exact ⟨rfl, rfl, rfl⟩
  · rintro ⟨rfl, rfl, rfl⟩; rfl
theorem aggOf_some {v : Value} {l : List Value} : aggOf? v = some l ↔ v = .agg ⟨l⟩ := by
  cases v <;> simp [aggOf?]
  rename_i cs; cases cs; simp
theorem tupleOf_some {v : Value} {l : List Value} : tupleOf? v = some l ↔ v = .tuple ⟨l⟩ := by
  cases v <;> simp [tupleOf?]
  rename_i cs; cases cs; simp
theorem cellsOf_eq (v : Value) : cellsOf v = v.cells.toList := by cases v <;> rfl
theorem isPlain_eq (v : Value) : isPlain v = v.oneCell' := by cases v <;> rfl
theorem cells_ren (μ : Mu) (v : Value) : (ren μ v).cells.toList = v.cells.toList.map (ren μ) := by
  cases v
  case agg cs => rw [ren]; exact renArr_toList μ cs
  case slice a n c => cases a <;> rfl
  case float => rfl
  case complex => rfl
  case pointer a => cases a <;> rfl
  case map r => cases r <;> rfl
  case chan r => rw [ren]; rfl
  case func f a b => obtain ⟨a⟩ := a; obtain ⟨b⟩ := b; rfl
  case tuple vs => obtain ⟨l⟩ := vs; rfl
  all_goals rfl
theorem plain_ren (μ : Mu) {v : Value} (h : isPlain v = true) : (ren μ v).oneCell' = true := by
  cases v
  case agg => simp [isPlain] at h
  case tuple => simp [isPlain] at h
  case slice a n c => cases a <;> rfl
  case pointer a => cases a <;> rfl
  case map r => cases r <;> rfl
  case chan r => rw [ren]; rfl
  case func f a b => obtain ⟨a⟩ := a; obtain ⟨b⟩ := b; rfl
  all_goals rfl
theorem stable_cells {S : Ids} {v : Value} (h : Stable S v) : ∀ c ∈ v.cells.toList, Stable S c := by
  cases v
  case agg cs => obtain ⟨l⟩ := cs; exact stable_agg.1 h
  all_goals (intro c hc; simp [Value.cells] at hc; subst hc; exact h)

section
variable {P : Program} {lo : Nat} {μ : Mu} {h : Hp} {w : World}

theorem info_of_size {t : TypeId} {n : Nat} (hs : sizeT P t = some n) : ∃ i, P.info? t = some i ∧ i.size = n := by
  unfold sizeT at hs
  obtain ⟨i, h1, h2⟩ := om_eq_some.1 hs
  exact ⟨i, h1, h2⟩
theorem run_size {t : TypeId} {n : Nat} (hs : sizeT P t = some n) (w : World) : (sizeOf t).run P w = .ok n w := by
  obtain ⟨i, h1, h2⟩ := info_of_size hs
  simp [sizeOf, typeInfo, h1, h2]
theorem run_agg {t : TypeId} {b : Bool} (hs : aggT P t = some b) (w : World) : (isAgg t).run P w = .ok b w := by
  unfold aggT at hs
  obtain ⟨d, h1, h2⟩ := om_eq_some.1 hs
  unfold isAgg
  rw [Sem.run_bind, run_underlying h1]
  subst h2
  cases d <;> rfl
theorem run_zeroV {t : TypeId} {z : Value} (hz : zeroV P t = some z) (w : World) : (zeroValue t).run P w = .ok z w ∧ closedA z = true := by
  unfold zeroV at hz
  obtain ⟨z', h1, h2⟩ := ob_eq_some.1 hz
  obtain ⟨h3, h4⟩ := ite'_eq_some.1 h2
  cases h4
  unfold zeroOf at h1
  obtain ⟨i, h5, h6⟩ := ob_eq_some.1 h1
  refine ⟨?_, h3⟩
  simp [zeroValue, typeInfo, h5, h6]
theorem run_zeroCells {t : TypeId} {z : List Value} (hz : zeroCellsOf P t = some z) (w : World) :
    ∃ v, (zeroValue t).run P w = .ok v w ∧ v.cells.toList = z ∧ closedL z = true ∧ sizeT P t = some z.length := by
  unfold zeroCellsOf at hz
  obtain ⟨z', h1, h2⟩ := ob_eq_some.1 hz
  obtain ⟨n, h0, h2⟩ := ob_eq_some.1 h2
  obtain ⟨h3, h4⟩ := ite'_eq_some.1 h2
  obtain ⟨h7, h8⟩ := ite'_eq_some.1 h4
  cases h8
  rw [beq_eq, lenL_eq] at h7
  unfold zeroOf at h1
  obtain ⟨i, h5, h6⟩ := ob_eq_some.1 h1
  exact ⟨z', by simp [zeroValue, typeInfo, h5, h6], rfl, h3, by rw [h0, h7]⟩

theorem renA_wf (n : Nat) (a : Addr) : renA μ (wf n a) = (renA μ a).add n := by
  unfold renA wf Addr.add
  split
  · rename_i e; subst e; simp
  · simp [Nat.add_assoc]

/-- The row at a visible address. -/
theorem row_at {a : Addr} {cs : List Value} (s : Sat P lo μ h.look w) (hr : Ev.rowAt h a = some cs) :
    ∃ e o c, h.look a.block = some (.row cs e o) ∧ w.heap[(μ a.block).blk]? = some (.cells c e (0, 0)) ∧ (∀ i v, cs[i]? = some v → c[(μ a.block).base + i]? = some (ren μ v)) := by
  unfold Ev.rowAt at hr
  obtain ⟨b, h1, h2⟩ := ob_eq_some.1 hr
  cases b with
  | row cs' e o =>
    simp only [rowOf, Option.some.injEq] at h2
    subst h2
    obtain ⟨c, h3, h4, _⟩ := s.blk _ _ h1
    exact ⟨e, o, c, h1, h3, h4⟩
  | map es c => simp [rowOf] at h2
  | iter a b c d => simp [rowOf] at h2

theorem cell_at {a : Addr} {cs : List Value} (s : Sat P lo μ h.look w) (hr : Ev.rowAt h a = some cs) {i : Nat} {v : Value} (hv : cs[i]? = some v) :
    w.cell? ⟨(μ a.block).blk, (μ a.block).base + i, none⟩ = some (ren μ v) := by
  obtain ⟨e, o, c, _, h3, h4⟩ := row_at s hr
  simp [World.cell?, h3, h4 i v hv]

theorem rd_some {a : Addr} {n : Nat} {l : List Value} (hr : rd h a n = some l) : ∃ cs, Ev.rowAt h a = some cs ∧ a.off + n ≤ cs.length + (if n = 0 then a.off else 0) ∧ l = (cs.drop a.off).take n ∧ l.length = n := by
  unfold rd at hr
  obtain ⟨cs, h1, h2⟩ := ob_eq_some.1 hr
  rw [dropL_eq] at h2
  obtain ⟨h3, h4⟩ := takeN_some.1 h2
  refine ⟨cs, h1, ?_, h4, ?_⟩
  · simp at h3; split <;> omega
  · rw [h4, List.length_take]; omega

theorem rd_get {a : Addr} {n : Nat} {l cs : List Value} (hl : l = (cs.drop a.off).take n) {j : Nat} {v : Value} (hv : l[j]? = some v) : cs[a.off + j]? = some v := by
  subst hl
  rw [List.getElem?_take] at hv
  split at hv
  · rw [List.getElem?_drop] at hv; exact hv
  · cases hv

theorem run_rd {a : Addr} {n : Nat} {l : List Value} (s : Sat P lo μ h.look w) (hr : rd h a n = some l) :
    (loadCells (renA μ a) n).run P w = .ok (l.map (ren μ)).toArray w := by
  obtain ⟨cs, h1, _, h3, h4⟩ := rd_some hr
  have := run_loadCells_list (P := P) w (renA μ a) (l.map (ren μ)) fun j v hv => by
    rw [List.getElem?_map] at hv
    cases hj : l[j]? with
    | none => rw [hj] at hv; cases hv
    | some x =>
      rw [hj] at hv
      cases hv
      have hc := cell_at s h1 (rd_get h3 hj)
      rw [← renA_wf]
      unfold renA wf
      simpa using hc
  rwa [List.length_map, h4] at this

theorem st_row {a : Addr} {cs : List Value} (ok : HpOk U h) (hr : Ev.rowAt h a = some cs) : ∀ v ∈ cs, Stable (Vis U h) v := by
  unfold Ev.rowAt at hr
  obtain ⟨b, h1, h2⟩ := ob_eq_some.1 hr
  have := ok.st _ _ h1
  cases b with
  | row cs' e o => simp only [rowOf, Option.some.injEq] at h2; subst h2; exact this
  | map es c => simp [rowOf] at h2
  | iter a b c d => simp [rowOf] at h2

theorem st_rd {a : Addr} {n : Nat} {l : List Value} (ok : HpOk U h) (hr : rd h a n = some l) : ∀ v ∈ l, Stable (Vis U h) v := by
  obtain ⟨cs, h1, _, h3, _⟩ := rd_some hr
  intro v hv
  subst h3
  exact st_row ok h1 v (List.mem_of_mem_drop (List.mem_of_mem_take hv))

theorem load_ok {t : TypeId} {v r : Value} (ok : HpOk U h) (s : Sat P lo μ h.look w) (he : evLoad P h t v = some r) :
    (Instr.loadAt t (ren μ v)).run P w = .ok (ren μ r) w ∧ Stable (Vis U h) r := by
  unfold evLoad at he
  obtain ⟨a, h1, h2⟩ := ob_eq_some.1 he
  rw [addrOf_some] at h1
  subst h1
  unfold lb at h2
  cases hg : aggT P t with
  | none => simp [hg, lbNo] at h2
  | some b =>
    simp only [hg] at h2
    cases b with
    | true =>
      simp only [ite'_true] at h2
      cases hs : sizeT P t with
      | none => simp [hs, lbNo] at h2
      | some n =>
        simp only [hs, ldAgg] at h2
        obtain ⟨l, h3, h4⟩ := om_eq_some.1 h2
        subst h4
        refine ⟨?_, stable_agg.2 (st_rd ok h3)⟩
        rw [ren_ptrA, ren_agg]
        simp [Instr.loadAt, Instr.sureAddr, loadVar, run_agg hg, run_size hs, run_rd s h3]
    | false =>
      simp only [ite'_false, rd1] at h2
      obtain ⟨cs, h3, h4⟩ := ob_eq_some.1 h2
      rw [nth_eq] at h4
      refine ⟨?_, st_row ok h3 r (List.mem_of_getElem? h4)⟩
      have hc := cell_at s h3 h4
      rw [ren_ptrA]
      simp [Instr.loadAt, Instr.sureAddr, loadVar, run_agg hg, renA, hc]

theorem append_map_get {f : Value → Value} {cs vs : List Value} {off : Nat} (h : off + vs.length ≤ cs.length) (i : Nat) :
    (cs.take off ++ (vs ++ cs.drop (off + vs.length)))[i]? = if i < off then cs[i]? else if i < off + vs.length then vs[i - off]? else cs[i]? := by
  by_cases h1 : i < off
  · rw [if_pos h1, List.getElem?_append_left (by simp; omega), List.getElem?_take, if_pos h1]
  · rw [if_neg h1, List.getElem?_append_right (by simp; omega)]
    simp only [List.length_take, Nat.min_eq_left (show off ≤ cs.length by omega)]
    by_cases h2 : i < off + vs.length
    · rw [if_pos h2, List.getElem?_append_left (by omega)]
    · rw [if_neg h2, List.getElem?_append_right (by omega), List.getElem?_drop]
      congr 1; omega

theorem setRow_facts {w : World} {g : Nat} {c c' : Array Value} {e : TypeId} (hg : w.heap[g]? = some (.cells c e (0, 0))) :
    (w.setRow g c').heap.size = w.heap.size ∧ (w.setRow g c').os = w.os ∧ (w.setRow g c').tape = w.tape ∧ (w.setRow g c').output = w.output ∧ (w.setRow g c').drawn = w.drawn := by
  unfold World.setRow
  simp

/-- Cells are written. -/
theorem wr_ok {a : Addr} {vs : List Value} {h' : Hp} (ok : HpOk U h) (s : Sat P lo μ h.look w) (hw : wr h a vs = some h') (hp : ∀ v ∈ vs, isPlain v = true) (hst : ∀ v ∈ vs, Stable (Vis U h) v) :
    ∃ w', (storeCells (renA μ a) (vs.map (ren μ))).run P w = .ok () w' ∧ Go2 P U lo μ μ h h' w w' := by
  unfold wr at hw
  obtain ⟨b, h1, h2⟩ := ob_eq_some.1 hw
  cases b with
  | map es c => simp [wrBlk] at h2
  | iter a b c d => simp [wrBlk] at h2
  | row cs e o =>
    simp only [wrBlk] at h2
    obtain ⟨r, h3, h4⟩ := om_eq_some.1 h2
    obtain ⟨h5, h6⟩ := setL_some.1 h3
    subst h4
    obtain ⟨c, hc1, hc2, hc3, hc4⟩ := s.blk _ _ h1
    have hrun := run_storeCells_at P (μ a.block).blk ((μ a.block).base + a.off) e (vs.map (ren μ)) 0 c w hc1 (by simp; omega) (by
      intro v hv
      obtain ⟨x, hx, rfl⟩ := List.mem_map.1 hv
      exact plain_ren μ (hp x hx))
    refine ⟨_, hrun, ?_⟩
    obtain ⟨f1, f2, f3, f4, _⟩ := setRow_facts (c' := (c.toList.take ((μ a.block).base + a.off + 0) ++ vs.map (ren μ) ++ c.toList.drop ((μ a.block).base + a.off + 0 + (vs.map (ren μ)).length)).toArray) hc1
    refine go2_put ok s h1 ?_ f1 (fun k hk => setRow_other w _ k _ hk) f2 f3 f4 ?_
    · intro b' hb'
      cases hb'
      intro v hv
      subst h6
      have hall := ok.st _ _ h1
      simp only [List.mem_append] at hv
      rcases hv with hv | hv | hv
      · exact hall v (List.mem_of_mem_take hv)
      · exact hst v hv
      · exact hall v (List.mem_of_mem_drop hv)
    · intro b' hb'
      cases hb'
      refine ⟨_, setRow_heap w _ c _ e (0, 0) hc1, ?_, ?_, ?_⟩
      · intro i v hv
        subst h6
        rw [append_map_get (f := id) h5] at hv
        have hl : c.toList.length = c.size := by simp
        rw [List.getElem?_toArray, List.append_assoc, append_map_get (f := id) (by simp; omega)]
        simp only [List.length_map, Nat.add_zero]
        by_cases h1' : i < a.off
        · rw [if_pos h1'] at hv
          rw [if_pos (by omega)]
          simpa using hc2 i v hv
        · rw [if_neg h1'] at hv
          rw [if_neg (by omega)]
          by_cases h2' : i < a.off + vs.length
          · rw [if_pos h2'] at hv
            rw [if_pos (by omega), List.getElem?_map, show (μ a.block).base + i - ((μ a.block).base + a.off) = i - a.off from by omega, hv]
            rfl
          · rw [if_neg h2'] at hv
            rw [if_neg (by omega)]
            simpa using hc2 i v hv
      · subst h6; simp; omega
      · cases o with
        | false => trivial
        | true =>
          simp only [if_true] at hc4 ⊢
          obtain ⟨sz, g1, g2, g3⟩ := hc4
          refine ⟨sz, g1, g2, ?_⟩
          subst h6; simp; omega

theorem store_ok {t : TypeId} {a v : Value} {h' : Hp} (ok : HpOk U h) (s : Sat P lo μ h.look w) (hv : Stable (Vis U h) v) (he : evStore P h t a v = some h') :
    ∃ w', (Instr.storeAt t (ren μ a) (ren μ v)).run P w = .ok () w' ∧ Go2 P U lo μ μ h h' w w' := by
  unfold evStore at he
  obtain ⟨a, h1, h2⟩ := ob_eq_some.1 he
  rw [addrOf_some] at h1
  subst h1
  obtain ⟨n, h3, h4⟩ := ob_eq_some.1 h2
  obtain ⟨h5, h6⟩ := ite'_eq_some.1 h4
  obtain ⟨h7, h8⟩ := ite'_eq_some.1 h6
  rw [beq_eq, lenL_eq, cellsOf_eq] at h5
  rw [allL_eq, List.all_eq_true, cellsOf_eq] at h7
  rw [cellsOf_eq] at h8
  obtain ⟨w', hr, hg⟩ := wr_ok ok s h8 h7 (stable_cells hv)
  refine ⟨w', ?_, hg⟩
  rw [ren_ptrA]
  have hc : (ren μ v).cells.size = n := by
    have := congrArg List.length (cells_ren μ v)
    simp at this; simp at h5; omega
  simp [Instr.storeAt, Instr.sureAddr, storeVar, run_size h3, hc, cells_ren, hr]

/-! Addresses. -/
theorem run_asIntOf {k : IntKind} {n : Int} (w : World) : (asIntOf (.int k n)).run P w = .ok (k, n) w := rfl

theorem ixAt_ok {i : Nat} {a : Addr} {len : Nat} {e : TypeId} {r : Value} (ha : Vis U h a.block) (he : ixAt P i a len e = some r) :
    ∃ s, sizeT P e = some s ∧ i < len ∧ r = .pointer (some (wf (i * s) a)) ∧ Stable (Vis U h) r := by
  unfold ixAt at he
  obtain ⟨h1, h2⟩ := ite'_eq_some.1 he
  rw [blt_eq] at h1
  obtain ⟨s, h3, h4⟩ := om_eq_some.1 h2
  subst h4
  exact ⟨s, h3, h1, rfl, stable_ptr ha⟩

theorem indexAddr_ok {t : TypeId} {x ix r : Value} (hx : Stable (Vis U h) x) (he : evIndexAddr P t x ix = some r) :
    (Instr.indexAt t (ren μ x) (ren μ ix)).run P w = .ok (ren μ r) w ∧ Stable (Vis U h) r := by
  unfold evIndexAddr at he
  obtain ⟨i, h1, h2⟩ := ob_eq_some.1 he
  obtain ⟨k, rfl⟩ := natOf_some.1 h1
  unfold ixB at h2
  cases hd : P.underlying t with
  | none => simp [hd, ixNo] at h2
  | some d =>
    simp only [hd] at h2
    cases d <;> simp only [ixD, ixNo] at h2 <;> try cases h2
    case slice e =>
      unfold ixSl at h2
      obtain ⟨y, h3, h4⟩ := ob_eq_some.1 h2
      rw [sliceOf_some] at h3
      obtain ⟨b, len, cap⟩ := y
      simp only at h3
      subst h3
      unfold ixS at h4
      simp only at h4
      obtain ⟨a, rfl, h6⟩ := ob_eq_some.1 h4
      obtain ⟨sz, g1, g2, rfl, g4⟩ := ixAt_ok (h := h) (stable_slice_inv hx) h6
      refine ⟨?_, g4⟩
      have hlt : (i : Int) < (len : Int) := by omega
      simp [Instr.indexAt, asIntOf, run_underlying hd, run_size g1, hlt, renA_wf]
      intro hh; omega
    case array len e =>
      unfold ixArr at h2
      obtain ⟨a, h3, h4⟩ := ob_eq_some.1 h2
      rw [addrOf_some] at h3
      subst h3
      obtain ⟨sz, g1, g2, rfl, g4⟩ := ixAt_ok (h := h) (stable_ptr_inv hx) h4
      refine ⟨?_, g4⟩
      have hlt : (i : Int) < (len : Int) := by omega
      simp [Instr.indexAt, asIntOf, Instr.sureAddr, run_underlying hd, run_size g1, hlt, renA_wf]
      intro hh; omega

theorem fieldOf_some {s : TypeId} {i : Nat} {f : Field} (hf : fieldOf P s i = some f) : ∃ fs, P.underlying s = some (.struct fs) ∧ fs[i]? = some f := by
  unfold fieldOf at hf
  obtain ⟨d, h1, h2⟩ := ob_eq_some.1 hf
  obtain ⟨fs, h3, h4⟩ := ob_eq_some.1 h2
  cases d <;> simp [structOf] at h3
  rename_i fields
  subst h3
  rw [nth_eq] at h4
  exact ⟨fields, h1, by simpa using h4⟩

theorem fieldAddr_ok {t : TypeId} {x r : Value} {i : Nat} (hx : Stable (Vis U h) x) (he : evFieldAddr P t x i = some r) :
    (Instr.fieldAt t (ren μ x) i).run P w = .ok (ren μ r) w ∧ Stable (Vis U h) r := by
  unfold evFieldAddr at he
  obtain ⟨n, h1, h2⟩ := ob_eq_some.1 he
  obtain ⟨a, h3, h4⟩ := om_eq_some.1 h2
  subst h4
  rw [addrOf_some] at h3
  subst h3
  unfold fb at h1
  cases hf : fieldOf P t i with
  | none => simp [hf] at h1
  | some f =>
    obtain ⟨fs, g1, g2⟩ := fieldOf_some hf
    simp only [hf, fbF] at h1
    cases hs : sizeT P f.type with
    | none => simp [hs] at h1
    | some m =>
      simp only [hs] at h1
      rw [ite'_eq] at h1
      split at h1
      · cases h1
      · rename_i hm
        rw [Bool.not_eq_true, beq_ne] at hm
        simp only [Option.some.injEq] at h1
        subst h1
        refine ⟨?_, stable_ptr (a := wf f.offset a) (show Vis U h a.block from stable_ptr_inv hx)⟩
        simp [Instr.fieldAt, run_underlying g1, g2, Instr.sureAddr, fieldPlace, run_size hs, hm, renA_wf]

theorem part_ok {t : TypeId} {cs : List Value} {off : Nat} {r : Value} (hc : ∀ v ∈ cs, Stable (Vis U h) v) (he : partOf P t cs off = some r) :
    (part t ⟨cs.map (ren μ)⟩ off).run P w = .ok (ren μ r) w ∧ Stable (Vis U h) r := by
  unfold partOf at he
  obtain ⟨b, h1, h2⟩ := ob_eq_some.1 he
  cases b with
  | true =>
    simp only [ite'_true] at h2
    obtain ⟨n, h3, h4⟩ := ob_eq_some.1 h2
    obtain ⟨l, h5, h6⟩ := om_eq_some.1 h4
    rw [dropL_eq] at h5
    obtain ⟨h7, h8⟩ := takeN_some.1 h5
    subst h6
    refine ⟨?_, stable_agg.2 fun v hv => hc v ?_⟩
    · rw [ren_agg]
      simp only [part, Sem.run_bind, run_agg h1, Result.andThen_ok, run_size h3, if_true, Sem.run_pure]
      congr 2
      apply Array.ext'
      subst h8
      simp [List.extract_eq_take_drop, List.map_take, List.map_drop]
    · subst h8; exact List.mem_of_mem_drop (List.mem_of_mem_take hv)
  | false =>
    simp only [ite'_false, nth_eq] at h2
    refine ⟨?_, hc r (List.mem_of_getElem? h2)⟩
    simp [part, run_agg h1, h2]

theorem field_ok {t : TypeId} {x r : Value} {i : Nat} (hx : Stable (Vis U h) x) (he : evField P t x i = some r) :
    (Instr.field t (ren μ x) i).run P w = .ok (ren μ r) w ∧ Stable (Vis U h) r := by
  unfold evField at he
  obtain ⟨f, h1, h2⟩ := ob_eq_some.1 he
  obtain ⟨cs, h3, h4⟩ := ob_eq_some.1 h2
  rw [aggOf_some] at h3
  subst h3
  obtain ⟨fs, g1, g2⟩ := fieldOf_some h1
  obtain ⟨p1, p2⟩ := part_ok (μ := μ) (w := w) (stable_agg.1 hx) h4
  refine ⟨?_, p2⟩
  rw [ren_agg]
  simp [Instr.field, run_underlying g1, g2, asAgg, p1]

theorem indexAgg_ok {t : TypeId} {cs : List Value} {ix r : Value} (hx : ∀ v ∈ cs, Stable (Vis U h) v) (he : evIndexAgg P t cs ix = some r) :
    (Instr.index t (ren μ (.agg ⟨cs⟩)) (ren μ ix)).run P w = .ok (ren μ r) w ∧ Stable (Vis U h) r := by
  unfold evIndexAgg at he
  obtain ⟨i, h1, h2⟩ := ob_eq_some.1 he
  obtain ⟨k, rfl⟩ := natOf_some.1 h1
  obtain ⟨d, h3, h4⟩ := ob_eq_some.1 h2
  obtain ⟨ne, h5, h6⟩ := ob_eq_some.1 h4
  obtain ⟨h7, h8⟩ := ite'_eq_some.1 h6
  obtain ⟨sz, h9, h10⟩ := ob_eq_some.1 h8
  cases d <;> simp [arrOf] at h5
  rename_i len elem
  subst h5
  simp only at h7 h9 h10
  rw [blt_eq] at h7
  obtain ⟨p1, p2⟩ := part_ok (μ := μ) (w := w) hx h10
  refine ⟨?_, p2⟩
  rw [ren_agg, ren_int]
  have hlt : (i : Int) < (len : Int) := by omega
  simp [Instr.index, asIntOf, run_underlying h3, run_size h9, h7]
  simpa using p1

end
end Go.Ev
