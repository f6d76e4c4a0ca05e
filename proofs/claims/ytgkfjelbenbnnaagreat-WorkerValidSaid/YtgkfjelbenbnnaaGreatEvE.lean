import Derived.Test.YtgkfjelbenbnnaaGreatEvD
namespace Go.Ev
set_option linter.unusedVariables false
set_option linter.unusedSimpArgs false
variable {U : Ids}

/-! Slices; what makes memory. -/
section
variable {P : Program} {lo : Nat} {μ : Mu} {h : Hp} {w : World}

theorem optNat_some {d : Nat} {x : Option Value} {n : Nat} (hn : optNat d x = some n) : (x = none ∧ n = d) ∨ ∃ k, x = some (.int k (.ofNat n)) := by
  cases x with
  | none => simp [optNat] at hn; exact .inl ⟨rfl, hn.symm⟩
  | some v => obtain ⟨k, rfl⟩ := natOf_some.1 hn; exact .inr ⟨k, rfl⟩

theorem run_sliceBound {k : IntKind} {n y : Nat} (code : BoundsCode) (hn : n ≤ y) (w : World) : (Instr.sliceBound (.int k (n : Int)) y code).run P w = .ok n w := by
  have h1 : (n : Int) ≤ (y : Int) := by omega
  simp [Instr.sliceBound, asIntOf]
  intro; omega

/-- A bound as the concrete run has it. -/
def IsB (d : Nat) (x : Option Value) (n : Nat) : Prop := (x = none ∧ n = d) ∨ ∃ k, x = some (.int k (n : Int))
theorem isB_of {d : Nat} {x : Option Value} {n : Nat} (hn : optNat d x = some n) : IsB d (x.map (ren μ)) n := by
  rcases optNat_some hn with ⟨rfl, rfl⟩ | ⟨k, rfl⟩
  · exact .inl ⟨rfl, rfl⟩
  · exact .inr ⟨k, by simp⟩

/-- The bounds of a slice expression, where they hold. -/
theorem run_sliceBounds {isS : Bool} {len cap l hh m : Nat} {lo' hi mx : Option Value}
    (h1 : IsB 0 lo' l) (h2 : IsB len hi hh) (h3 : IsB cap mx m) (hnone : hi = none → mx = none) (hl : l ≤ hh) (hm : hh ≤ m) (hc : m ≤ cap) (w : World) :
    (Instr.sliceBounds isS len cap lo' hi mx).run P w = .ok (l, hh, m) w := by
  unfold Instr.sliceBounds
  rcases h3 with ⟨rfl, rfl⟩ | ⟨k3, rfl⟩
  · rcases h2 with ⟨rfl, rfl⟩ | ⟨k2, rfl⟩
    · rcases h1 with ⟨rfl, rfl⟩ | ⟨k1, rfl⟩
      · simp
      · simp [run_sliceBound _ hl]
    · rcases h1 with ⟨rfl, rfl⟩ | ⟨k1, rfl⟩
      · simp [run_sliceBound _ hm]
      · simp [run_sliceBound _ hm, run_sliceBound _ hl]
  · rcases h2 with ⟨rfl, rfl⟩ | ⟨k2, rfl⟩
    · have := hnone rfl; cases this
    · rcases h1 with ⟨rfl, rfl⟩ | ⟨k1, rfl⟩
      · simp [run_sliceBound _ hm, run_sliceBound _ hc]
      · simp [run_sliceBound _ hm, run_sliceBound _ hc, run_sliceBound _ hl]

theorem OPEN_pos : 0 < OPEN := by decide
/-- The concrete capacity. -/
def realCap (μ : Mu) (a : Option Addr) (cap : Nat) : Nat := match a with | none => cap | some a => renCap μ a cap
theorem ren_slice (μ : Mu) (a : Option Addr) (n c : Nat) : ren μ (.slice a n c) = .slice (a.map (renA μ)) n (realCap μ a c) := by
  cases a <;> simp [realCap]
theorem capKnown_eq (c : Nat) : capKnown c = if OPEN ≤ c then c - OPEN else c := by
  unfold capKnown
  rw [ite'_eq]
  by_cases h : OPEN ≤ c
  · rw [if_pos (ble_eq.2 h), if_pos h]; rfl
  · rw [if_neg (by rw [ble_eq]; exact h), if_neg h]
theorem capKnown_open {c : Nat} (h : OPEN ≤ c) : capKnown c = c - OPEN := by rw [capKnown_eq, if_pos h]
theorem capKnown_exact {c : Nat} (h : ¬ OPEN ≤ c) : capKnown c = c := by rw [capKnown_eq, if_neg h]
theorem renCap_open {a : Addr} {c : Nat} (h : OPEN ≤ c) : renCap μ a c = c - OPEN + (μ a.block).ext := by unfold renCap; rw [if_pos h]
theorem renCap_exact {a : Addr} {c : Nat} (h : ¬ OPEN ≤ c) : renCap μ a c = c := by unfold renCap; rw [if_neg h]
theorem capKnown_le (μ : Mu) (a : Option Addr) (c : Nat) : capKnown c ≤ realCap μ a c := by
  by_cases e : OPEN ≤ c
  · rw [capKnown_open e]
    cases a with
    | none => exact Nat.sub_le _ _
    | some a => simp only [realCap]; rw [renCap_open e]; exact Nat.le_add_right _ _
  · rw [capKnown_exact e]
    cases a with
    | none => exact Nat.le_refl _
    | some a => simp only [realCap]; rw [renCap_exact e]; exact Nat.le_refl _
theorem cap_arith (O c l x : Nat) (hl : l ≤ if O ≤ c then c - O else c) : (if O ≤ c - l then c - l - O + x else c - l) = (if O ≤ c then c - O + x else c) - l := by
  by_cases e : O ≤ c
  · rw [if_pos e] at hl ⊢
    by_cases e2 : O ≤ c - l
    · rw [if_pos e2]; omega
    · omega
  · rw [if_neg e] at hl ⊢
    rw [if_neg (by omega)]
theorem renCap_sub {a a' : Addr} {c l : Nat} (hb : a'.block = a.block) (hl : l ≤ capKnown c) : renCap μ a' (c - l) = renCap μ a c - l := by
  unfold renCap
  rw [hb]
  rw [capKnown_eq] at hl
  exact cap_arith OPEN c l _ hl

theorem lift_eq (s : Nat) (a : Option Addr) : (lift s a).map (renA μ) = (a.map (renA μ)).map (·.add s) := by
  cases a with
  | none => rfl
  | some a => simp [lift, renA_wf]

/-- An address that was only named: no block lies there. -/
theorem go2_bump (ok : HpOk U h) (s : Sat P lo μ h.look w) (p : Pl) : Go2 P U lo μ (upMu μ h.next p) h ⟨h.m, Nat.succ h.next, h.mw, h.hid⟩ w w := by
  have hlook : ∀ id, (⟨h.m, Nat.succ h.next, h.mw, h.hid⟩ : Hp).look id = h.look id := fun _ => rfl
  have hag : ∀ id, id ≠ h.next → upMu μ h.next p id = μ id := fun id hn => upMu_ne hn
  have hvis : ∀ id, Vis U h id → Vis U ⟨h.m, Nat.succ h.next, h.mw, h.hid⟩ id := fun id hv => ⟨Nat.lt_succ_of_lt hv.1, hv.2⟩
  have hne : ∀ id b, h.look id = some b → id ≠ h.next := fun id b hl => by have := ok.lt hl; omega
  refine ⟨⟨Nat.le_succ _, Nat.le_refl _, rfl, fun _ _ _ => rfl, ⟨Nat.le_succ_of_le ok.nx, fun id hi => ok.top id (Nat.le_of_succ_le hi), ok.down.mono (Nat.le_succ _), fun id b hl => (ok.st id b hl).mono hvis, fun id hu => ⟨(ok.unk id hu).1, Nat.lt_succ_of_lt (ok.unk id hu).2.1, (ok.unk id hu).2.2⟩⟩⟩, ?_⟩
  refine ⟨?_, ⟨?_, ?_, ?_, ?_⟩, fun _ _ _ => rfl, fun id b' _ hl => ⟨b', hl⟩, Nat.le_refl _, fun _ _ _ => rfl, ?_, rfl, rfl, rfl⟩
  · intro id hn
    refine hag id fun e => hn ?_
    subst e; exact ⟨Nat.le_refl _, Nat.lt_succ_self _⟩
  · intro id hi; rw [hag id (by have := ok.nx; omega)]; exact s.low id hi
  · intro id b hl
    exact (s.blk id b hl).move (ok.st id b hl) (fun i hi => hag i (by have := hi.1; omega)) (hag id (hne id b hl)) rfl
  · intro id id' b b' h1 h2 e
    rw [hag id (hne id b h1), hag id' (hne id' b' h2)] at e
    exact s.inj id id' b b' h1 h2 e
  · intro id b hl
    rw [hag id (hne id b hl)]; exact s.lo id b hl
  · rintro id b' ⟨h1, h2⟩ hl
    have h3 := ok.lt (show h.look id = some b' from hl)
    exact absurd h3 (by omega)

/-- x[l:h:m] of a slice. -/
theorem sliceOf_ok {sz cap l hh len : Nat} {a : Option Addr} {mx hi lo' : Option Value} {r : Value} {h' : Hp} {t e : TypeId} (ok : HpOk U h) (s : Sat P lo μ h.look w)
    (hu : P.underlying t = some (.slice e)) (hsz : sizeT P e = some sz) (hx : Stable (Vis U h) (.slice a len cap)) (h1 : optNat 0 lo' = some l) (h2 : optNat len hi = some hh) (hnone : hi = none → mx = none)
    (he : sliceOf h sz a cap l hh mx = some (r, h')) :
    ∃ μ', Go2 P U lo μ μ' h h' w w ∧ (Instr.sliceAt t (ren μ (.slice a len cap)) (lo'.map (ren μ)) (hi.map (ren μ)) (mx.map (ren μ))).run P w = .ok (ren μ' r) w ∧ Stable (Vis U h') r := by
  have hbase : ∀ b, a = some b → Vis U h b.block := by rintro b rfl; exact stable_slice_inv hx
  have hnone' : hi.map (ren μ) = none → mx.map (ren μ) = none := by
    intro e
    have e' : hi = none := by simpa using e
    rw [hnone e']; rfl
  have run : ∀ m, IsB (realCap μ a cap) (mx.map (ren μ)) m → l ≤ hh → hh ≤ m → m ≤ realCap μ a cap →
      (Instr.sliceAt t (ren μ (.slice a len cap)) (lo'.map (ren μ)) (hi.map (ren μ)) (mx.map (ren μ))).run P w =
        .ok (.slice (if m = l then a.map (renA μ) else (a.map (renA μ)).map (·.add (l * sz))) (hh - l) (m - l)) w := by
    intro m hm q1 q2 q3
    rw [ren_slice]
    have hb := run_sliceBounds (P := P) (isS := true) (isB_of (μ := μ) h1) (isB_of (μ := μ) h2) hm hnone' q1 q2 q3 w
    simp [Instr.sliceAt, Instr.slice, run_underlying hu, hb, run_size hsz]
  have stS : ∀ (b : Option Addr) (n c : Nat), (∀ x, b = some x → Vis U h x.block) → Stable (Vis U h) (.slice b n c) := by
    intro b n c hb
    cases b with
    | none => exact stable_of_const fun μ => by simp
    | some x => exact stable_slice (hb x rfl)
  have hlift : ∀ x, lift (l * sz) a = some x → Vis U h x.block := by
    intro x hx'
    cases a with
    | none => simp [lift] at hx'
    | some b => simp only [lift, Option.some.injEq] at hx'; subst hx'; exact hbase b rfl
  unfold sliceOf at he
  cases mx with
  | some mv =>
    simp only at he
    obtain ⟨m, g1, g2⟩ := ob_eq_some.1 he
    obtain ⟨g3, g4⟩ := ite'_eq_some.1 g2
    obtain ⟨g5, g6⟩ := ite'_eq_some.1 g4
    obtain ⟨g7, g8⟩ := ite'_eq_some.1 g6
    obtain ⟨g9, g10⟩ := ite'_eq_some.1 g8
    rw [ble_eq] at g3 g5 g7
    rw [blt_eq] at g9
    simp only [Option.some.injEq, Prod.mk.injEq] at g10
    obtain ⟨rfl, rfl⟩ := g10
    obtain ⟨k, rfl⟩ := natOf_some.1 g1
    have hcap := capKnown_le μ a cap
    have hsmall : ¬ OPEN ≤ m - l := by omega
    have hreal : ∀ b : Option Addr, realCap μ b (m - l) = m - l := by
      intro b
      cases b with
      | none => rfl
      | some b => exact renCap_exact hsmall
    refine ⟨μ, .refl ok s, ?_, ?_⟩
    · rw [run m (.inr ⟨k, by simp⟩) g3 g5 (by omega), ite'_eq]
      simp only [beq_eq, nSub, nMul]
      rw [ren_slice, hreal]
      by_cases e : m = l
      · rw [if_pos e, if_pos e]
      · rw [if_neg e, if_neg e, lift_eq]
    · rw [ite'_eq]
      split
      · exact stS _ _ _ hbase
      · exact stS _ _ _ hlift
  | none =>
    simp only at he
    obtain ⟨g3, g4⟩ := ite'_eq_some.1 he
    obtain ⟨g5, g6⟩ := ite'_eq_some.1 g4
    rw [ble_eq] at g3 g5
    have hcap := capKnown_le μ a cap
    have hrun := run (realCap μ a cap) (.inl ⟨rfl, rfl⟩) g3 (by omega) (Nat.le_refl _)
    rw [ite'_eq] at g6
    by_cases eo : OPEN ≤ cap
    · rw [if_pos (ble_eq.2 eo), ite'_eq] at g6
      by_cases el : l = capKnown cap
      · rw [if_pos (beq_eq.2 el)] at g6
        obtain ⟨b, rfl, hb⟩ := om_eq_some.1 g6
        simp only [Prod.mk.injEq] at hb
        obtain ⟨rfl, rfl⟩ := hb
        have hh0 : hh - l = 0 := by omega
        refine ⟨_, go2_bump ok s ⟨(renA μ b).block, if realCap μ (some b) cap = l then (renA μ b).off else ((renA μ b).add (l * sz)).off, realCap μ (some b) cap - l⟩, ?_, stable_slice ?_⟩
        · rw [hrun, ren_slice]
          simp only [Option.map_some, nSub]
          have e1 : realCap (upMu μ h.next ⟨(renA μ b).block, if realCap μ (some b) cap = l then (renA μ b).off else ((renA μ b).add (l * sz)).off, realCap μ (some b) cap - l⟩) (some ⟨h.next, 0, none⟩) OPEN = realCap μ (some b) cap - l := by
            show renCap _ _ _ = _
            rw [renCap_open (Nat.le_refl _)]
            simp only [upMu_same]
            omega
          rw [e1]
          congr 2
          unfold renA
          simp only [upMu_same]
          split
          · simp
          · simp [Addr.add]; split <;> simp_all
        · exact ⟨Nat.lt_succ_self _, fun hu => Nat.lt_irrefl _ (ok.unk _ hu).2.1⟩
      · rw [if_neg (by rw [beq_eq]; exact el)] at g6
        simp only [Option.some.injEq, Prod.mk.injEq] at g6
        obtain ⟨rfl, rfl⟩ := g6
        refine ⟨μ, .refl ok s, ?_, stS _ _ _ hlift⟩
        have e2 : realCap μ (lift (l * sz) a) (cap - l) = realCap μ a cap - l := by
          cases a with
          | none => rfl
          | some b => exact renCap_sub (a := b) (a' := wf (l * sz) b) rfl (by omega)
        simp only [nMul, nSub]
        rw [hrun, if_neg (by omega), ren_slice, lift_eq, e2]
    · rw [if_neg (by rw [ble_eq]; exact eo)] at g6
      simp only [Option.some.injEq, Prod.mk.injEq] at g6
      obtain ⟨rfl, rfl⟩ := g6
      have hreal : ∀ b : Option Addr, realCap μ b cap = cap := by
        intro b
        cases b with
        | none => rfl
        | some b => exact renCap_exact eo
      have hreal' : ∀ b : Option Addr, realCap μ b (cap - l) = cap - l := by
        intro b
        cases b with
        | none => rfl
        | some b => exact renCap_exact (by omega)
      refine ⟨μ, .refl ok s, ?_, ?_⟩
      · rw [hrun, hreal, ite'_eq]
        simp only [beq_eq, nSub, nMul]
        rw [ren_slice, hreal']
        by_cases e : cap = l
        · rw [if_pos e, if_pos e]
        · rw [if_neg e, if_neg e, lift_eq]
      · rw [ite'_eq]
        split
        · exact stS _ _ _ hbase
        · exact stS _ _ _ hlift

/-- x[l:h:m]. -/
theorem slice_ok {t : TypeId} {x r : Value} {lo' hi mx : Option Value} {h' : Hp} (ok : HpOk U h) (s : Sat P lo μ h.look w) (hx : Stable (Vis U h) x) (he : evSlice P h t x lo' hi mx = some (r, h')) :
    ∃ μ', Go2 P U lo μ μ' h h' w w ∧ (Instr.sliceAt t (ren μ x) (lo'.map (ren μ)) (hi.map (ren μ)) (mx.map (ren μ))).run P w = .ok (ren μ' r) w ∧ Stable (Vis U h') r := by
  unfold evSlice at he
  obtain ⟨h0, he⟩ := ite'_eq_some.1 he
  have hnone : hi = none → mx = none := by
    rintro rfl
    cases mx with
    | none => rfl
    | some m => simp [okB] at h0
  obtain ⟨d, h1, h2⟩ := ob_eq_some.1 he
  unfold evSliceD at h2
  split at h2
  · rename_i e a len cap
    obtain ⟨sz, g1, g2⟩ := ob_eq_some.1 h2
    obtain ⟨l, g3, g4⟩ := ob_eq_some.1 g2
    obtain ⟨hh, g5, g6⟩ := ob_eq_some.1 g4
    exact sliceOf_ok ok s h1 g1 hx g3 g5 hnone g6
  · rename_i n e a
    obtain ⟨sz, g1, g2⟩ := ob_eq_some.1 h2
    obtain ⟨l, g3, g4⟩ := ob_eq_some.1 g2
    obtain ⟨hh, g5, g6⟩ := ob_eq_some.1 g4
    obtain ⟨m, g7, g8⟩ := ob_eq_some.1 g6
    obtain ⟨q1, q2⟩ := ite'_eq_some.1 g8
    obtain ⟨q3, q4⟩ := ite'_eq_some.1 q2
    obtain ⟨q5, q6⟩ := ite'_eq_some.1 q4
    obtain ⟨q7, q8⟩ := ite'_eq_some.1 q6
    rw [ble_eq] at q1 q3 q5
    rw [blt_eq] at q7
    simp only [Option.some.injEq, Prod.mk.injEq] at q8
    obtain ⟨rfl, rfl⟩ := q8
    have hnone' : hi.map (ren μ) = none → mx.map (ren μ) = none := by
      intro e
      have e' : hi = none := by simpa using e
      rw [hnone e']; rfl
    have hb := run_sliceBounds (P := P) (isS := false) (isB_of (μ := μ) g3) (isB_of (μ := μ) g5) (isB_of (μ := μ) g7) hnone' q1 q3 q5 w
    have ha := stable_ptr_inv hx
    refine ⟨μ, .refl ok s, ?_, ?_⟩
    · simp only [nMul, nSub]
      rw [ren_slice]
      have hreal : ∀ b : Option Addr, realCap μ b (m - l) = m - l := by
        intro b
        cases b with
        | none => rfl
        | some b => exact renCap_exact (by omega)
      rw [hreal]
      simp [Instr.sliceAt, Instr.sureAddr, run_underlying h1, hb, run_size g1, ite'_eq, beq_eq]
      by_cases e : m = l
      · rw [if_pos e, if_pos e]
      · rw [if_neg e, if_neg e, renA_wf]
    · rw [ite'_eq]
      split
      · exact stable_slice ha
      · exact stable_slice (a := wf (l * sz) _) ha
  · cases h2
end
end Go.Ev
