/- A verified evaluator: a part of it. -/
import Derived.Test.YtaokhbanpfmkmaaGreatEvC
import Derived.Great.FillDense
namespace Go.Ev
set_option linter.unusedVariables false
set_option linter.unusedSimpArgs false
variable {U : Ids}

/-! Slices; what makes memory. -/
section
variable {P : Program} {lo : Nat} {μ : Mu} {h : Hp} {w : World}

theorem optNat_some {d : Nat} {x : Option Value} {n : Nat} (hn : optNat d x = some n) : (x = none ∧ n = d) ∨ ∃ k, x = some (.int k (.ofNat n)) := by
  cases x with
  | none => simp [optNat] at hn; exact .inl ⟨rfl, hn.symm⟩
  | some v => obtain ⟨k, rfl⟩ := natOf_some.1 hn; exact .inr ⟨k, rfl⟩

theorem run_sliceBound {k : IntKind} {n y : Nat} (code : BoundsCode) (hn : n ≤ y) (w : World) : (Instr.sliceBound (.int k (n : Int)) y code).run P w = .ok n w := by
  have h1 : (n : Int) ≤ (y : Int) := by omega
  simp [Instr.sliceBound, asIntOf]
  intro; omega

/-- A bound as the concrete run has it. -/
def IsB (d : Nat) (x : Option Value) (n : Nat) : Prop := (x = none ∧ n = d) ∨ ∃ k, x = some (.int k (n : Int))
theorem isB_of {d : Nat} {x : Option Value} {n : Nat} (hn : optNat d x = some n) : IsB d (x.map (ren μ)) n := by
  rcases optNat_some hn with ⟨rfl, rfl⟩ | ⟨k, rfl⟩
  · exact .inl ⟨rfl, rfl⟩
  · exact .inr ⟨k, by simp⟩

/-- The bounds of a slice expression, where they hold. -/
theorem run_sliceBounds {isS : Bool} {len cap l hh m : Nat} {lo' hi mx : Option Value}
    (h1 : IsB 0 lo' l) (h2 : IsB len hi hh) (h3 : IsB cap mx m) (hnone : hi = none → mx = none) (hl : l ≤ hh) (hm : hh ≤ m) (hc : m ≤ cap) (w : World) :
    (Instr.sliceBounds isS len cap lo' hi mx).run P w = .ok (l, hh, m) w := by
  unfold Instr.sliceBounds
  rcases h3 with ⟨rfl, rfl⟩ | ⟨k3, rfl⟩
  · rcases h2 with ⟨rfl, rfl⟩ | ⟨k2, rfl⟩
    · rcases h1 with ⟨rfl, rfl⟩ | ⟨k1, rfl⟩
      · simp
      · simp [run_sliceBound _ hl]
    · rcases h1 with ⟨rfl, rfl⟩ | ⟨k1, rfl⟩
      · simp [run_sliceBound _ hm]
      · simp [run_sliceBound _ hm, run_sliceBound _ hl]
  · rcases h2 with ⟨rfl, rfl⟩ | ⟨k2, rfl⟩
    · have := hnone rfl; cases this
    · rcases h1 with ⟨rfl, rfl⟩ | ⟨k1, rfl⟩
      · simp [run_sliceBound _ hm, run_sliceBound _ hc]
      · simp [run_sliceBound _ hm, run_sliceBound _ hc, run_sliceBound _ hl]

theorem OPEN_pos : 0 < OPEN := by decide
/-- The concrete capacity. -/
def realCap (μ : Mu) (a : Option Addr) (cap : Nat) : Nat := match a with | none => cap | some a => renCap μ a cap
theorem ren_slice (μ : Mu) (a : Option Addr) (n c : Nat) : ren μ (.slice a n c) = .slice (a.map (renA μ)) n (realCap μ a c) := by
  cases a <;> simp [realCap]
theorem capKnown_eq (c : Nat) : capKnown c = if OPEN ≤ c then c - OPEN else c := by
  unfold capKnown
  rw [ite'_eq]
  by_cases h : OPEN ≤ c
  · rw [if_pos (ble_eq.2 h), if_pos h]; rfl
  · rw [if_neg (by rw [ble_eq]; exact h), if_neg h]
theorem capKnown_open {c : Nat} (h : OPEN ≤ c) : capKnown c = c - OPEN := by rw [capKnown_eq, if_pos h]
theorem capKnown_exact {c : Nat} (h : ¬ OPEN ≤ c) : capKnown c = c := by rw [capKnown_eq, if_neg h]
theorem renCap_open {a : Addr} {c : Nat} (h : OPEN ≤ c) : renCap μ a c = c - OPEN + (μ a.block).ext := by unfold renCap; rw [if_pos h]
theorem renCap_exact {a : Addr} {c : Nat} (h : ¬ OPEN ≤ c) : renCap μ a c = c := by unfold renCap; rw [if_neg h]
theorem capKnown_le (μ : Mu) (a : Option Addr) (c : Nat) : capKnown c ≤ realCap μ a c := by
  by_cases e : OPEN ≤ c
  · rw [capKnown_open e]
    cases a with
    | none => exact Nat.sub_le _ _
    | some a => simp only [realCap]; rw [renCap_open e]; exact Nat.le_add_right _ _
  · rw [capKnown_exact e]
    cases a with
    | none => exact Nat.le_refl _
    | some a => simp only [realCap]; rw [renCap_exact e]; exact Nat.le_refl _
theorem cap_arith (O c l x : Nat) (hl : l ≤ if O ≤ c then c - O else c) : (if O ≤ c - l then c - l - O + x else c - l) = (if O ≤ c then c - O + x else c) - l := by
  by_cases e : O ≤ c
  · rw [if_pos e] at hl ⊢
    by_cases e2 : O ≤ c - l
    · rw [if_pos e2]; omega
    · omega
  · rw [if_neg e] at hl ⊢
    rw [if_neg (by omega)]
theorem renCap_sub {a a' : Addr} {c l : Nat} (hb : a'.block = a.block) (hl : l ≤ capKnown c) : renCap μ a' (c - l) = renCap μ a c - l := by
  unfold renCap
  rw [hb]
  rw [capKnown_eq] at hl
  exact cap_arith OPEN c l _ hl

theorem lift_eq (s : Nat) (a : Option Addr) : (lift s a).map (renA μ) = (a.map (renA μ)).map (·.add s) := by
  cases a with
  | none => rfl
  | some a => simp [lift, renA_wf]

/-- An address that was only named: no block lies there. -/
theorem go2_bump (ok : HpOk U h) (s : Sat P lo μ h.look w) (p : Pl) : Go2 P U lo μ (upMu μ h.next p) h ⟨h.m, Nat.succ h.next, h.mw, h.hid⟩ w w := by
  have hlook : ∀ id, (⟨h.m, Nat.succ h.next, h.mw, h.hid⟩ : Hp).look id = h.look id := fun _ => rfl
  have hag : ∀ id, id ≠ h.next → upMu μ h.next p id = μ id := fun id hn => upMu_ne hn
  have hvis : ∀ id, Vis U h id → Vis U ⟨h.m, Nat.succ h.next, h.mw, h.hid⟩ id := fun id hv => ⟨Nat.lt_succ_of_lt hv.1, hv.2⟩
  have hne : ∀ id b, h.look id = some b → id ≠ h.next := fun id b hl => by have := ok.lt hl; omega
  refine ⟨⟨Nat.le_succ _, Nat.le_refl _, rfl, fun _ _ _ => rfl, ⟨Nat.le_succ_of_le ok.nx, fun id hi => ok.top id (Nat.le_of_succ_le hi), ok.down.mono (Nat.le_succ _), fun id b hl => (ok.st id b hl).mono hvis, fun id hu => ⟨(ok.unk id hu).1, Nat.lt_succ_of_lt (ok.unk id hu).2.1, (ok.unk id hu).2.2⟩⟩⟩, ?_⟩
  refine ⟨?_, ⟨?_, ?_, ?_, ?_⟩, fun _ _ _ => rfl, fun id b' _ hl => ⟨b', hl⟩, Nat.le_refl _, fun _ _ _ => rfl, ?_, rfl, rfl, rfl⟩
  · intro id hn
    refine hag id fun e => hn ?_
    subst e; exact ⟨Nat.le_refl _, Nat.lt_succ_self _⟩
  · intro id hi; rw [hag id (by have := ok.nx; omega)]; exact s.low id hi
  · intro id b hl
    exact (s.blk id b hl).move (ok.st id b hl) (fun i hi => hag i (by have := hi.1; omega)) (hag id (hne id b hl)) rfl
  · intro id id' b b' h1 h2 e
    rw [hag id (hne id b h1), hag id' (hne id' b' h2)] at e
    exact s.inj id id' b b' h1 h2 e
  · intro id b hl
    rw [hag id (hne id b hl)]; exact s.lo id b hl
  · rintro id b' ⟨h1, h2⟩ hl
    have h3 := ok.lt (show h.look id = some b' from hl)
    exact absurd h3 (by omega)

/-- x[l:h:m] of a slice. -/
theorem sliceOf_ok {sz cap l hh len : Nat} {a : Option Addr} {mx hi lo' : Option Value} {r : Value} {h' : Hp} {t e : TypeId} (ok : HpOk U h) (s : Sat P lo μ h.look w)
    (hu : P.underlying t = some (.slice e)) (hsz : sizeT P e = some sz) (hx : Stable (Vis U h) (.slice a len cap)) (h1 : optNat 0 lo' = some l) (h2 : optNat len hi = some hh) (hnone : hi = none → mx = none)
    (he : sliceOf h sz a cap l hh mx = some (r, h')) :
    ∃ μ', Go2 P U lo μ μ' h h' w w ∧ (Instr.sliceAt t (ren μ (.slice a len cap)) (lo'.map (ren μ)) (hi.map (ren μ)) (mx.map (ren μ))).run P w = .ok (ren μ' r) w ∧ Stable (Vis U h') r := by
  have hbase : ∀ b, a = some b → Vis U h b.block := by rintro b rfl; exact stable_slice_inv hx
  have hnone' : hi.map (ren μ) = none → mx.map (ren μ) = none := by
    intro e
    have e' : hi = none := by simpa using e
    rw [hnone e']; rfl
  have run : ∀ m, IsB (realCap μ a cap) (mx.map (ren μ)) m → l ≤ hh → hh ≤ m → m ≤ realCap μ a cap →
      (Instr.sliceAt t (ren μ (.slice a len cap)) (lo'.map (ren μ)) (hi.map (ren μ)) (mx.map (ren μ))).run P w =
        .ok (.slice (if m = l then a.map (renA μ) else (a.map (renA μ)).map (·.add (l * sz))) (hh - l) (m - l)) w := by
    intro m hm q1 q2 q3
    rw [ren_slice]
    have hb := run_sliceBounds (P := P) (isS := true) (isB_of (μ := μ) h1) (isB_of (μ := μ) h2) hm hnone' q1 q2 q3 w
    simp [Instr.sliceAt, Instr.slice, run_underlying hu, hb, run_size hsz]
  have stS : ∀ (b : Option Addr) (n c : Nat), (∀ x, b = some x → Vis U h x.block) → Stable (Vis U h) (.slice b n c) := by
    intro b n c hb
    cases b with
    | none => exact stable_of_const fun μ => by simp
    | some x => exact stable_slice (hb x rfl)
  have hlift : ∀ x, lift (l * sz) a = some x → Vis U h x.block := by
    intro x hx'
    cases a with
    | none => simp [lift] at hx'
    | some b => simp only [lift, Option.some.injEq] at hx'; subst hx'; exact hbase b rfl
  unfold sliceOf at he
  cases mx with
  | some mv =>
    simp only at he
    obtain ⟨m, g1, g2⟩ := ob_eq_some.1 he
    obtain ⟨g3, g4⟩ := ite'_eq_some.1 g2
    obtain ⟨g5, g6⟩ := ite'_eq_some.1 g4
    obtain ⟨g7, g8⟩ := ite'_eq_some.1 g6
    obtain ⟨g9, g10⟩ := ite'_eq_some.1 g8
    rw [ble_eq] at g3 g5 g7
    rw [blt_eq] at g9
    simp only [Option.some.injEq, Prod.mk.injEq] at g10
    obtain ⟨rfl, rfl⟩ := g10
    obtain ⟨k, rfl⟩ := natOf_some.1 g1
    have hcap := capKnown_le μ a cap
    have hsmall : ¬ OPEN ≤ m - l := by omega
    have hreal : ∀ b : Option Addr, realCap μ b (m - l) = m - l := by
      intro b
      cases b with
      | none => rfl
      | some b => exact renCap_exact hsmall
    refine ⟨μ, .refl ok s, ?_, ?_⟩
    · rw [run m (.inr ⟨k, by simp⟩) g3 g5 (by omega), ite'_eq]
      simp only [beq_eq, nSub, nMul]
      rw [ren_slice, hreal]
      by_cases e : m = l
      · rw [if_pos e, if_pos e]
      · rw [if_neg e, if_neg e, lift_eq]
    · rw [ite'_eq]
      split
      · exact stS _ _ _ hbase
      · exact stS _ _ _ hlift
  | none =>
    simp only at he
    obtain ⟨g3, g4⟩ := ite'_eq_some.1 he
    obtain ⟨g5, g6⟩ := ite'_eq_some.1 g4
    rw [ble_eq] at g3 g5
    have hcap := capKnown_le μ a cap
    have hrun := run (realCap μ a cap) (.inl ⟨rfl, rfl⟩) g3 (by omega) (Nat.le_refl _)
    rw [ite'_eq] at g6
    by_cases eo : OPEN ≤ cap
    · rw [if_pos (ble_eq.2 eo), ite'_eq] at g6
      by_cases el : l = capKnown cap
      · rw [if_pos (beq_eq.2 el)] at g6
        obtain ⟨b, rfl, hb⟩ := om_eq_some.1 g6
        simp only [Prod.mk.injEq] at hb
        obtain ⟨rfl, rfl⟩ := hb
        have hh0 : hh - l = 0 := by omega
        refine ⟨_, go2_bump ok s ⟨(renA μ b).block, if realCap μ (some b) cap = l then (renA μ b).off else ((renA μ b).add (l * sz)).off, realCap μ (some b) cap - l⟩, ?_, stable_slice ?_⟩
        · rw [hrun, ren_slice]
          simp only [Option.map_some, nSub]
          have e1 : realCap (upMu μ h.next ⟨(renA μ b).block, if realCap μ (some b) cap = l then (renA μ b).off else ((renA μ b).add (l * sz)).off, realCap μ (some b) cap - l⟩) (some ⟨h.next, 0, none⟩) OPEN = realCap μ (some b) cap - l := by
            show renCap _ _ _ = _
            rw [renCap_open (Nat.le_refl _)]
            simp only [upMu_same]
            omega
          rw [e1]
          congr 2
          unfold renA
          simp only [upMu_same]
          split
          · simp
          · simp [Addr.add]; split <;> simp_all
        · exact ⟨Nat.lt_succ_self _, fun hu => Nat.lt_irrefl _ (ok.unk _ hu).2.1⟩
      · rw [if_neg (by rw [beq_eq]; exact el)] at g6
        simp only [Option.some.injEq, Prod.mk.injEq] at g6
        obtain ⟨rfl, rfl⟩ := g6
        refine ⟨μ, .refl ok s, ?_, stS _ _ _ hlift⟩
        have e2 : realCap μ (lift (l * sz) a) (cap - l) = realCap μ a cap - l := by
          cases a with
          | none => rfl
          | some b => exact renCap_sub (a := b) (a' := wf (l * sz) b) rfl (by omega)
        simp only [nMul, nSub]
        rw [hrun, if_neg (by omega), ren_slice, lift_eq, e2]
    · rw [if_neg (by rw [ble_eq]; exact eo)] at g6
      simp only [Option.some.injEq, Prod.mk.injEq] at g6
      obtain ⟨rfl, rfl⟩ := g6
      have hreal : ∀ b : Option Addr, realCap μ b cap = cap := by
        intro b
        cases b with
        | none => rfl
        | some b => exact renCap_exact eo
      have hreal' : ∀ b : Option Addr, realCap μ b (cap - l) = cap - l := by
        intro b
        cases b with
        | none => rfl
        | some b => exact renCap_exact (by omega)
      refine ⟨μ, .refl ok s, ?_, ?_⟩
      · rw [hrun, hreal, ite'_eq]
        simp only [beq_eq, nSub, nMul]
        rw [ren_slice, hreal']
        by_cases e : cap = l
        · rw [if_pos e, if_pos e]
        · rw [if_neg e, if_neg e, lift_eq]
      · rw [ite'_eq]
        split
        · exact stS _ _ _ hbase
        · exact stS _ _ _ hlift

/-- x[l:h:m]. -/
theorem slice_ok {t : TypeId} {x r : Value} {lo' hi mx : Option Value} {h' : Hp} (ok : HpOk U h) (s : Sat P lo μ h.look w) (hx : Stable (Vis U h) x) (he : evSlice P h t x lo' hi mx = some (r, h')) :
    ∃ μ', Go2 P U lo μ μ' h h' w w ∧ (Instr.sliceAt t (ren μ x) (lo'.map (ren μ)) (hi.map (ren μ)) (mx.map (ren μ))).run P w = .ok (ren μ' r) w ∧ Stable (Vis U h') r := by
  unfold evSlice at he
  obtain ⟨h0, he⟩ := ite'_eq_some.1 he
  have hnone : hi = none → mx = none := by
    rintro rfl
    cases mx with
    | none => rfl
    | some m => simp [okB] at h0
  obtain ⟨d, h1, h2⟩ := ob_eq_some.1 he
  unfold evSliceD at h2
  split at h2
  · rename_i e a len cap
    obtain ⟨sz, g1, g2⟩ := ob_eq_some.1 h2
    obtain ⟨l, g3, g4⟩ := ob_eq_some.1 g2
    obtain ⟨hh, g5, g6⟩ := ob_eq_some.1 g4
    exact sliceOf_ok ok s h1 g1 hx g3 g5 hnone g6
  · rename_i n e a
    obtain ⟨sz, g1, g2⟩ := ob_eq_some.1 h2
    obtain ⟨l, g3, g4⟩ := ob_eq_some.1 g2
    obtain ⟨hh, g5, g6⟩ := ob_eq_some.1 g4
    obtain ⟨m, g7, g8⟩ := ob_eq_some.1 g6
    obtain ⟨q1, q2⟩ := ite'_eq_some.1 g8
    obtain ⟨q3, q4⟩ := ite'_eq_some.1 q2
    obtain ⟨q5, q6⟩ := ite'_eq_some.1 q4
    obtain ⟨q7, q8⟩ := ite'_eq_some.1 q6
    rw [ble_eq] at q1 q3 q5
    rw [blt_eq] at q7
    simp only [Option.some.injEq, Prod.mk.injEq] at q8
    obtain ⟨rfl, rfl⟩ := q8
    have hnone' : hi.map (ren μ) = none → mx.map (ren μ) = none := by
      intro e
      have e' : hi = none := by simpa using e
      rw [hnone e']; rfl
    have hb := run_sliceBounds (P := P) (isS := false) (isB_of (μ := μ) g3) (isB_of (μ := μ) g5) (isB_of (μ := μ) g7) hnone' q1 q3 q5 w
    have ha := stable_ptr_inv hx
    refine ⟨μ, .refl ok s, ?_, ?_⟩
    · simp only [nMul, nSub]
      rw [ren_slice]
      have hreal : ∀ b : Option Addr, realCap μ b (m - l) = m - l := by
        intro b
        cases b with
        | none => rfl
        | some b => exact renCap_exact (by omega)
      rw [hreal]
      simp [Instr.sliceAt, Instr.sureAddr, run_underlying h1, hb, run_size g1, ite'_eq, beq_eq]
      by_cases e : m = l
      · rw [if_pos e, if_pos e]
      · rw [if_neg e, if_neg e, renA_wf]
    · rw [ite'_eq]
      split
      · exact stable_slice ha
      · exact stable_slice (a := wf (l * sz) _) ha
  · cases h2
end
end Go.Ev

namespace Go.Ev
set_option linter.unusedVariables false
set_option linter.unusedSimpArgs false
variable {U : Ids}

/-! What makes memory: boxes, rows, literals. -/
section
variable {P : Program} {lo : Nat} {μ : Mu} {h : Hp} {w : World}

/-- The renaming behind a new block. -/
abbrev muNew (μ : Mu) (h : Hp) (w : World) (e : Nat) : Mu := upMu μ h.next ⟨w.heap.size, 0, e⟩

theorem heap_push_last (a : Array Obj) (o : Obj) : (a.push o)[a.size]? = some o := by simp

/-- A new row, closed at its end. -/
theorem newRow_ok (ok : HpOk U h) (s : Sat P lo μ h.look w) (hlo : lo ≤ w.heap.size) {cs : List Value} (hst : ∀ v ∈ cs, Stable (Vis U h) v) {c : Array Value} (hc : c.toList = cs.map (ren μ)) (e : TypeId) :
    Go2 P U lo μ (muNew μ h w 0) h (h.add (.row cs e false)) w { w with heap := w.heap.push (.cells c e (0, 0)) } := by
  refine go2_add ok s hlo (fun v hv => (hst v hv).mono fun i hi => (vis_add ok _ i).2 (.inl hi)) rfl rfl rfl rfl ⟨c, ?_, ?_, ?_, trivial⟩
  · rw [upMu_same]; exact heap_push_last _ _
  · intro i v hv
    rw [upMu_same, ren_up (hst v (List.mem_of_getElem? hv))]
    have := congrArg (fun l => l[i]?) hc
    simp only [List.getElem?_map, hv, Option.map_some] at this
    simpa using this
  · rw [upMu_same]
    have := congrArg List.length hc
    simp at this ⊢; omega

theorem vis_new (ok : HpOk U h) (b : Blk) : Vis U (h.add b) h.next := (vis_add ok b _).2 (.inr rfl)

theorem ren_ptr_new (e : Nat) : ren (muNew μ h w e) (ptr h.next 0) = .pointer (some ⟨w.heap.size, 0, none⟩) := by
  rw [ren_ptr]; unfold muNew; rw [upMu_same]

theorem alloc_ok {e : TypeId} {z : List Value} (ok : HpOk U h) (s : Sat P lo μ h.look w) (hlo : lo ≤ w.heap.size) (hz : zeroCellsOf P e = some z) :
    ∃ μ' w', Go2 P U lo μ μ' h (h.add (.row z e false)) w w' ∧ (Instr.alloc e true (.tuple #[])).run P w = .ok (ren μ' (ptr h.next 0)) w' ∧ Stable (Vis U (h.add (.row z e false))) (ptr h.next 0) := by
  obtain ⟨v, h1, h2, h3, _⟩ := run_zeroCells hz w
  have hst : ∀ v ∈ z, Stable (Vis U h) v := by
    intro v hv
    unfold closedL at h3
    rw [allL_eq, List.all_eq_true] at h3
    exact stable_closed (h3 v hv)
  refine ⟨_, _, newRow_ok ok s hlo hst (c := v.cells) (by rw [h2, ren_closedL h3]) e, ?_, stable_ptr (vis_new ok _)⟩
  rw [ren_ptr_new]
  simp [Instr.alloc, h1, newVar, newRow]

theorem box_ok {e : TypeId} {v : Value} (ok : HpOk U h) (s : Sat P lo μ h.look w) (hlo : lo ≤ w.heap.size) (hv : Stable (Vis U h) v) :
    ∃ μ' w', Go2 P U lo μ μ' h (h.add (.row (cellsOf v) e false)) w w' ∧ (Instr.box e (ren μ v)).run P w = .ok (ren μ' (ptr h.next 0)) w' ∧ Stable (Vis U (h.add (.row (cellsOf v) e false))) (ptr h.next 0) := by
  refine ⟨_, _, newRow_ok ok s hlo (by rw [cellsOf_eq]; exact stable_cells hv) (c := (ren μ v).cells) (by rw [cellsOf_eq, cells_ren]) e, ?_, stable_ptr (vis_new ok _)⟩
  rw [ren_ptr_new]
  simp [Instr.box, newVar, newRow]

theorem elemOf_some {t e : TypeId} (he : elemOfT P t = some e) : P.underlying t = some (.slice e) := by
  unfold elemOfT at he
  obtain ⟨d, h1, h2⟩ := ob_eq_some.1 he
  cases d <;> simp [sliceElem] at h2
  subst h2; exact h1

theorem rep_stable {z : List Value} (hz : closedL z = true) (n : Nat) : ∀ v ∈ rep z n, closed v = true := by
  unfold closedL at hz
  rw [allL_eq, List.all_eq_true] at hz
  induction n with
  | zero => intro v hv; cases hv
  | succ n ih =>
    intro v hv
    rw [rep_succ, List.mem_append] at hv
    exact hv.elim (hz v) (ih v)
theorem rep_ren {z : List Value} (hz : closedL z = true) (n : Nat) (μ : Mu) : (rep z n).map (ren μ) = rep z n := by
  conv => rhs; rw [← List.map_id (rep z n)]
  exact List.map_congr_left fun v hv => ren_closed (rep_stable hz n v hv) μ

theorem zero_range {z : Array Value} {n c : Nat} (hn : n = c * z.size) : ((Array.range n).map fun i => z[i % z.size]!).toList = rep z.toList c := by
  subst hn
  apply List.ext_getElem?
  intro i
  by_cases hi : i < c * z.size
  · have hz : 0 < z.size := by
      rcases Nat.eq_zero_or_pos z.size with h0 | h0
      · rw [h0] at hi; simp at hi
      · exact h0
    have hm : i % z.size < z.size := Nat.mod_lt _ hz
    rw [rep_get _ _ _ (by simpa using hi)]
    simp [hi, hm]
  · rw [List.getElem?_eq_none (by simp; omega), List.getElem?_eq_none (by rw [rep_length]; simp; omega)]

theorem makeSlice_ok {t : TypeId} {l c r : Value} {h' : Hp} (ok : HpOk U h) (s : Sat P lo μ h.look w) (hlo : lo ≤ w.heap.size) (he : evMakeSlice P h t l c = some (r, h')) :
    ∃ μ' w', Go2 P U lo μ μ' h h' w w' ∧ (Instr.makeSlice t (ren μ l) (ren μ c)).run P w = .ok (ren μ' r) w' ∧ Stable (Vis U h') r := by
  unfold evMakeSlice at he
  obtain ⟨e, h1, he⟩ := ob_eq_some.1 he
  obtain ⟨ln, h2, he⟩ := ob_eq_some.1 he
  obtain ⟨cn, h3, he⟩ := ob_eq_some.1 he
  obtain ⟨sz, h4, he⟩ := ob_eq_some.1 he
  obtain ⟨z, h5, he⟩ := ob_eq_some.1 he
  obtain ⟨b, h6, he⟩ := ob_eq_some.1 he
  obtain ⟨q1, he⟩ := ite'_eq_some.1 he
  obtain ⟨q2, he⟩ := ite'_eq_some.1 he
  obtain ⟨q3, he⟩ := ite'_eq_some.1 he
  obtain ⟨q4, he⟩ := ite'_eq_some'.1 he
  simp only [Option.some.injEq, Prod.mk.injEq] at he
  obtain ⟨rfl, rfl⟩ := he
  rw [ble_eq] at q1 q2 q3
  rw [beq_ne] at q4
  simp only [nMul] at q2 q3
  obtain ⟨k1, rfl⟩ := natOf_some.1 h2
  obtain ⟨k2, rfl⟩ := natOf_some.1 h3
  obtain ⟨v, z1, z2, z3, z4⟩ := run_zeroCells h5 w
  have hsz : sz = z.length := by rw [h4] at z4; exact Option.some.inj z4
  have hcn : cn ≤ 1048576 := by
    have : cn * 1 ≤ cn * sz := Nat.mul_le_mul_left cn (by omega)
    omega
  have hu := elemOf_some h1
  unfold bytesT at h6
  obtain ⟨info, i1, i2⟩ := om_eq_some.1 h6
  have hst : ∀ v ∈ rep z cn, Stable (Vis U h) v := fun v hv => stable_closed (rep_stable z3 cn v hv)
  have w1 : IntKind.i64.wrap (ln : Int) = (ln : Int) := by simp [IntKind.wrap, IntKind.bits, IntKind.signed]; omega
  have w2 : IntKind.i64.wrap (cn : Int) = (cn : Int) := by simp [IntKind.wrap, IntKind.bits, IntKind.signed]; omega
  have hvs : v.cells.size = sz := by rw [hsz, ← z2]; simp
  have hb1 : ¬ ((info.bytes : Int) * (cn : Int) > 2 ^ 48) := by
    have : info.bytes * cn ≤ 1099511627776 := by rw [i2]; exact q3
    have h2' : ((info.bytes * cn : Nat) : Int) ≤ 1099511627776 := by omega
    rw [Int.natCast_mul] at h2'
    omega
  have run : (Instr.makeSlice t (.int k1 (ln : Int)) (.int k2 (cn : Int))).run P w =
      .ok (.slice (some ⟨w.heap.size, 0, none⟩) ln cn) { w with heap := w.heap.push (.cells ((Array.range (cn * sz)).map fun i => (if cn * sz = 0 then #[] else v.cells)[i % (if cn * sz = 0 then #[] else v.cells).size]!) e (0, 0)) } := by
    have t1 : ¬ (cn : Int) < 0 := by omega
    have t2 : ¬ (ln : Int) < 0 := by omega
    have t3 : ¬ (ln : Int) > (cn : Int) := by omega
    unfold Instr.makeSlice
    simp only [Sem.run_bind, run_underlying hu, Result.andThen_ok, asInt, run_asIntOf, Sem.run_pure, typeInfo, run_program, i1, w1, w2, t1, t2, t3, hb1, decide_false, Bool.or_self, Bool.false_eq_true, if_false]
    by_cases h0 : cn * sz = 0 <;> simp [run_size h4, h0, z1, newRow]
  refine ⟨_, _, newRow_ok ok s hlo hst (c := (Array.range (cn * sz)).map fun i => (if cn * sz = 0 then #[] else v.cells)[i % (if cn * sz = 0 then #[] else v.cells).size]!) ?_ e, ?_, stable_slice (vis_new ok _)⟩
  · rw [rep_ren z3]
    by_cases h0 : cn * sz = 0
    · have hc0 : cn = 0 := by
        rcases Nat.mul_eq_zero.1 h0 with h | h
        · exact h
        · exact absurd h q4
      subst hc0
      have : rep z 0 = [] := rfl
      simp [this]
    · simp only [if_neg h0]
      rw [zero_range (c := cn) (by rw [hvs]), z2]
  · rw [ren_int, ren_int]
    refine run.trans ?_
    rw [ren_slice1, renCap_exact (by have : OPEN = 18446744073709551616 := rfl; omega)]
    unfold renA muNew
    simp [upMu_same]

/-! Literals of structs, arrays and slices. -/

theorem fillL_nil (place : Nat → Option (Nat × Nat)) (cs : List Value) : fillL place [] cs = some cs := rfl
theorem fillL_cons (place : Nat → Option (Nat × Nat)) (p : Nat × Value) (ps : List (Nat × Value)) (cs : List Value) :
    fillL place (p :: ps) cs = ob (place p.1) fun os => ite' (Nat.beq (lenL (cellsOf p.2)) os.2) (ob (setL (cellsOf p.2) cs os.1) (fillL place ps)) none := rfl

theorem foldl_seg (off : Nat) (vs : List Value) (cs : List Value) (h : off + vs.length ≤ cs.length) :
    ((vs.zipIdx 0).foldl (fun (cs : Array Value) (x : Value × Nat) => cs.setIfInBounds (off + x.2) x.1) ⟨cs⟩) = ⟨cs.take off ++ (vs ++ cs.drop (off + vs.length))⟩ := by
  obtain ⟨h1, h2⟩ := Great.foldl_set off vs 0 ⟨cs⟩
  apply Array.ext'
  apply List.ext_getElem?
  intro i
  have := h2 i
  rw [Array.getElem?_toList, this, append_map_get (f := id) h]
  simp only [Nat.add_zero, List.size_toArray, List.getElem?_toArray]
  by_cases c1 : i < off
  · rw [if_pos c1, if_neg (by omega)]
  · rw [if_neg c1]
    by_cases c2 : i < off + vs.length
    · rw [if_pos c2, if_pos (by omega)]
    · rw [if_neg c2, if_neg (by omega)]

theorem fill_ok {place : Nat → Option (Nat × Nat)} {ps : List (Nat × Value)} {cs r : List Value} (he : fillL place ps cs = some r) :
    Instr.fill place ⟨cs.map (ren μ)⟩ (ps.map fun p => (p.1, ren μ p.2)) = some ⟨r.map (ren μ)⟩ ∧ (∀ S : Ids, (∀ v ∈ cs, Stable S v) → (∀ p ∈ ps, Stable S p.2) → ∀ v ∈ r, Stable S v) := by
  induction ps generalizing cs r with
  | nil =>
    rw [fillL_nil] at he
    cases he
    exact ⟨rfl, fun S h1 _ => h1⟩
  | cons p ps ih =>
    rw [fillL_cons] at he
    obtain ⟨os, h1, he⟩ := ob_eq_some.1 he
    obtain ⟨h2, he⟩ := ite'_eq_some.1 he
    obtain ⟨cs', h3, he⟩ := ob_eq_some.1 he
    rw [beq_eq, lenL_eq, cellsOf_eq] at h2
    rw [cellsOf_eq] at h3
    obtain ⟨h4, h5⟩ := setL_some.1 h3
    obtain ⟨i1, i2⟩ := ih he
    have hsz : (ren μ p.2).cells.size = os.2 := by
      have := congrArg List.length (cells_ren μ p.2)
      simp at this h2; omega
    have hl : p.2.cells.toList.length = os.2 := h2
    constructor
    · simp only [List.map_cons]
      rw [Instr.fill, h1]
      simp only [hsz, ne_eq, not_true_eq_false, decide_false, Bool.false_or, List.size_toArray, List.length_map, decide_eq_true_eq]
      rw [if_neg (by omega)]
      have e : (ren μ p.2).cells.zipIdx.foldl (fun cs (x : Value × Nat) => cs.setIfInBounds (os.1 + x.2) x.1) (⟨cs.map (ren μ)⟩ : Array Value) = ⟨cs'.map (ren μ)⟩ := by
        rw [← Array.foldl_toList, Array.toList_zipIdx, cells_ren, foldl_seg _ _ _ (by simp; simp at h4; omega)]
        subst h5
        simp [List.map_take, List.map_drop]
      rw [e]
      exact i1
    · intro S s1 s2
      refine i2 S ?_ (fun q hq => s2 q (List.mem_cons_of_mem _ hq))
      subst h5
      intro v hv
      simp only [List.mem_append] at hv
      rcases hv with hv | hv | hv
      · exact s1 v (List.mem_of_mem_take hv)
      · exact stable_cells (s2 p (List.mem_cons_self ..)) v hv
      · exact s1 v (List.mem_of_mem_drop hv)


theorem placesL_some {fs : List Field} {r : List (Nat × Nat)} (he : placesL P fs = some r) (w : World) :
    (fs.mapM fun (f : Field) => Functor.map (Prod.mk f.offset) (sizeOf f.type)).run P w = .ok r w := by
  induction fs generalizing r with
  | nil => cases he; rfl
  | cons f fs ih =>
    have he' : (ob (sizeT P f.type) fun n => om (placesL P fs) fun r => (f.offset, n) :: r) = some r := he
    obtain ⟨n, h1, h2⟩ := ob_eq_some.1 he'
    obtain ⟨r', h3, h4⟩ := om_eq_some.1 h2
    subst h4
    have := ih h3
    simp [List.mapM_cons, run_size h1, this]

theorem build_ok {t : TypeId} {parts : List (Nat × Value)} {r : Value} (hp : ∀ p ∈ parts, Stable (Vis U h) p.2) (he : evBuild P t parts = some r) :
    (Instr.build t (parts.map fun p => (p.1, ren μ p.2)).toArray).run P w = .ok (ren μ r) w ∧ Stable (Vis U h) r := by
  unfold evBuild at he
  obtain ⟨z, h1, he⟩ := ob_eq_some.1 he
  obtain ⟨d, h2, he⟩ := ob_eq_some.1 he
  obtain ⟨place, h3, he⟩ := ob_eq_some.1 he
  obtain ⟨l, h4, he⟩ := om_eq_some.1 he
  subst he
  obtain ⟨v, z1, z2, z3, _⟩ := run_zeroCells h1 w
  obtain ⟨f1, f2⟩ := fill_ok (μ := μ) h4
  rw [ren_closedL z3] at f1
  have hv : v.cells = ⟨z⟩ := by apply Array.ext'; exact z2
  refine ⟨?_, stable_agg.2 (f2 (Vis U h) (fun v hv => ?_) hp)⟩
  · rw [ren_agg]
    unfold plB at h3
    cases hs : structPlaces P d with
    | some pl =>
      simp only [hs, Option.some.injEq] at h3
      unfold structPlaces at hs
      obtain ⟨fs, g1, g2⟩ := ob_eq_some.1 hs
      cases d <;> simp [structOf] at g1
      subst g1
      have hpl := placesL_some g2 w
      have e : place = fun i => (⟨pl⟩ : Array (Nat × Nat))[i]? := by
        rw [← h3]; funext i; rw [nth_eq]; simp
      rw [e] at f1
      simp [Instr.build, z1, run_underlying h2, Array.mapM_eq_mapM_toList, hpl, hv]
      have f1' : Instr.fill (fun x => pl[x]?) (⟨z⟩ : Array Value) (parts.map fun p => (p.1, ren μ p.2)) = some ⟨l.map (ren μ)⟩ := by simpa using f1
      rw [f1']
      simp
    | none =>
      simp only [hs] at h3
      cases ha : (ob (arrOf d) fun ne => sizeT P ne.2) with
      | none => simp [ha] at h3
      | some sz =>
        simp only [ha, Option.some.injEq] at h3
        obtain ⟨ne, g1, g2⟩ := ob_eq_some.1 ha
        cases d <;> simp [arrOf] at g1
        subst g1
        rw [← h3] at f1
        have e : arrPlace sz = fun i => some (i * sz, sz) := rfl
        rw [e] at f1
        simp [Instr.build, z1, run_underlying h2, run_size g2, hv, f1]
  · unfold closedL at z3
    rw [allL_eq, List.all_eq_true] at z3
    exact stable_closed (z3 v hv)

theorem buildSlice_ok {t : TypeId} {n : Nat} {parts : List (Nat × Value)} {r : Value} {h' : Hp} (ok : HpOk U h) (s : Sat P lo μ h.look w) (hlo : lo ≤ w.heap.size) (hp : ∀ p ∈ parts, Stable (Vis U h) p.2)
    (he : evBuildSlice P h t n parts = some (r, h')) :
    ∃ μ' w', Go2 P U lo μ μ' h h' w w' ∧ (Instr.buildSlice t n (parts.map fun p => (p.1, ren μ p.2)).toArray).run P w = .ok (ren μ' r) w' ∧ Stable (Vis U h') r := by
  unfold evBuildSlice at he
  obtain ⟨e, h1, he⟩ := ob_eq_some.1 he
  obtain ⟨sz, h2, he⟩ := ob_eq_some.1 he
  obtain ⟨z, h3, he⟩ := ob_eq_some.1 he
  obtain ⟨q1, he⟩ := ite'_eq_some'.1 he
  obtain ⟨q2, he⟩ := ite'_eq_some.1 he
  obtain ⟨cells, h4, he⟩ := om_eq_some.1 he
  simp only [Prod.mk.injEq] at he
  obtain ⟨rfl, rfl⟩ := he
  rw [beq_ne] at q1
  rw [ble_eq] at q2
  simp only [nMul] at q2
  obtain ⟨v, z1, z2, z3, z4⟩ := run_zeroCells h3 w
  obtain ⟨f1, f2⟩ := fill_ok (μ := μ) h4
  rw [rep_ren z3] at f1
  have hst : ∀ v ∈ cells, Stable (Vis U h) v := f2 (Vis U h) (fun v hv => stable_closed (rep_stable z3 n v hv)) hp
  have hsz : sz = z.length := by rw [h2] at z4; exact Option.some.inj z4
  have hvs : v.cells.size = sz := by rw [hsz, ← z2]; simp
  refine ⟨_, _, newRow_ok ok s hlo hst (c := ⟨cells.map (ren μ)⟩) rfl e, ?_, stable_slice (vis_new ok _)⟩
  have hz : ((Array.range (n * sz)).map fun i => (if n * sz = 0 then #[] else v.cells)[i % (if n * sz = 0 then #[] else v.cells).size]!) = ⟨rep z n⟩ := by
    apply Array.ext'
    by_cases h0 : n * sz = 0
    · have hc0 : n = 0 := by
        rcases Nat.mul_eq_zero.1 h0 with h | h
        · exact h
        · exact absurd h q1
      subst hc0
      have : rep z 0 = [] := rfl
      simp [this]
    · simp only [if_neg h0]
      rw [zero_range (c := n) (by rw [hvs]), z2]
  have e2 : arrPlace sz = fun i => some (i * sz, sz) := rfl
  rw [e2] at f1
  have hlim : ¬ n * sz > 2 ^ 24 := by omega
  have run : (Instr.buildSlice t n (parts.map fun p => (p.1, ren μ p.2)).toArray).run P w = .ok (.slice (some ⟨w.heap.size, 0, none⟩) n n) { w with heap := w.heap.push (.cells ⟨cells.map (ren μ)⟩ e (0, 0)) } := by
    unfold Instr.buildSlice
    simp only [Sem.run_bind, run_underlying (elemOf_some h1), Result.andThen_ok, run_size h2, hlim, if_false]
    by_cases h0 : n * sz = 0
    · have hn : n = 0 := by
        rcases Nat.mul_eq_zero.1 h0 with h | h
        · exact h
        · exact absurd h q1
      subst hn
      have hr : (Array.map (fun (_ : Nat) => (default : Value)) (Array.range 0)) = #[] := by apply Array.ext'; simp
      have f1' : Instr.fill (fun i => some (i * sz, sz)) (#[] : Array Value) (parts.map fun p => (p.1, ren μ p.2)) = some ⟨cells.map (ren μ)⟩ := f1
      simp [hr, f1', newRow]
    · simp only [h0, if_false] at hz
      simp [h0, z1, hz, f1, newRow]
  refine run.trans ?_
  rw [ren_slice1, renCap_exact ?_]
  · unfold renA muNew
    simp [upMu_same]
  · have : OPEN = 18446744073709551616 := rfl
    have : n * 1 ≤ n * sz := Nat.mul_le_mul_left n (by omega)
    omega

end
end Go.Ev
