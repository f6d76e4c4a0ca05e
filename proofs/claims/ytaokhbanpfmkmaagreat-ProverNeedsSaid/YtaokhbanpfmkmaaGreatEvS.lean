/- A verified evaluator: a part of it. -/
import Derived.Test.YtaokhbanpfmkmaaGreatEvR
namespace Go.Ev
set_option linter.unusedVariables false
set_option linter.unusedSimpArgs false

/-! A region whose order is open, as a whole. -/

theorem wp_ex {P : Program} [NG P] {o : Oper} {a a2 : Act} {w : World} {c : Bool} {next : Act → World → Prop} (h : if c = true then o.wpIn Fence.wide 0 P a w next (fun _ _ _ => False) else next a2 w) : ∃ a' w', next a' w' := by
  cases c with
  | false => exact ⟨_, _, by simpa using h⟩
  | true =>
    simp only [if_true] at h
    obtain ⟨_, h⟩ := h
    generalize (o.semAt Fence.wide.round a.eval).run P w = r at h
    unfold Oper.uponIn at h
    split at h
    · exact ⟨_, _, h⟩
    · exact ⟨_, _, h⟩
    · exact ⟨_, _, h⟩
    · obtain ⟨_, _, h⟩ := h
      obtain ⟨e, w', fr, hR, _⟩ := h [] (room_wide _)
      cases e with
      | returned v => exact ⟨_, _, hR⟩
      | panicked ch => exact hR.elim
      | outgrown => obtain ⟨_, _, hf⟩ := hR; exact hf.elim
    · obtain ⟨_, h⟩ := h
      obtain ⟨v, w', hR, _⟩ := h default [] (room_wide _)
      exact ⟨_, _, hR⟩
    · obtain ⟨_, _, h⟩ := h
      obtain ⟨e, w', hR, _⟩ := h default [] (room_wide _)
      cases e with
      | returned v => exact ⟨_, _, hR⟩
      | panicked ch => exact hR.elim
      | outgrown => obtain ⟨_, _, hf⟩ := hR; exact hf.elim
    · exact h.elim
    · exact h.elim

theorem countP_lt {α : Type} {p q : α → Bool} : ∀ (l : List α), (∀ x ∈ l, q x = true → p x = true) → ∀ i ∈ l, p i = true → q i = false → l.countP q < l.countP p := by
  intro l
  induction l with
  | nil => intro _ i hi; cases hi
  | cons a l ih =>
    intro h i hi hp hq
    have hle : l.countP q ≤ l.countP p := List.countP_mono_left fun x hx => h x (.tail _ hx)
    rw [List.countP_cons, List.countP_cons]
    rcases List.mem_cons.1 hi with rfl | hi
    · rw [hp, hq]; simp; omega
    · have := ih (fun x hx => h x (.tail _ hx)) i hi hp hq
      have ha := h a (.head _)
      cases hqa : q a with
      | false => simp; split <;> omega
      | true => rw [ha hqa]; simp; omega

section
variable {P : Program} [NG P] {call : CallK} {ops : Array Oper} {U : Ids} {F : Nat → Fr} {H Hh H' : Nat → Hp} {R : Nat → Rec} {lo : Nat}

omit [NG P] in
theorem Inv.congr {μ0 : Mu} {w0 w : World} {a : Act} {D D' : Nat → Prop} (h : Inv P ops lo F H Hh H' μ0 w0 D a w) (hd : ∀ k, D k ↔ D' k) : Inv P ops lo F H Hh H' μ0 w0 D' a w := by
  have : D = D' := funext fun k => propext (hd k)
  rw [← this]; exact h

omit [NG P] in
theorem inv_zero {μ0 : Mu} {w0 : World} {a : Act} (s : Sat P lo μ0 (H 0).look w0) (fr : FrOk U μ0 (H 0) (F 0) a) : Inv P ops lo F H Hh H' μ0 w0 (fun _ => False) a w0 := by
  have h1 : lookD ops H Hh H' (fun _ => False) = (H 0).look := by
    funext id
    exact lk_at (m := fun k => (H k).look) (i := 0) (fun k hk => by omega) (Nat.zero_le _) (fun j hj => by omega) (fun k _ _ hk => hk.elim)
  have h2 : tmD ops F (fun _ => False) = fun t => getTm t (F 0).tm := by
    funext t
    exact lk_at (m := fun k t => getTm t (F k).tm) (i := 0) (fun k hk => by omega) (Nat.zero_le _) (fun j hj => by omega) (fun k _ _ hk => hk.elim)
  refine ⟨μ0, ?_, fr.size, ?_, fr.defs⟩
  · rw [h1]
    refine (Post.refl s).mono (fun _ h => h.elim) (fun _ h => h.elim) ?_
    rintro id b ⟨k, _, hk, _⟩
    exact hk.elim
  · intro t ht
    rw [h2]; exact fr.val t ht

/-- Every operation's facts, from the run in the evaluator's order. -/
theorem Reg.facts (G : Reg P call ops U F H Hh H' R) (hcall : CallOk P call) {μ0 : Mu} {w0 : World} {a0 : Act} (s : Sat P lo μ0 (H 0).look w0) (fr0 : FrOk U μ0 (H 0) (F 0) a0) (hlo : lo ≤ w0.heap.size) :
    ∀ (k : Nat), k ≤ ops.size → (∀ j, j < k → Facts U ops F H Hh H' j) ∧ ∃ a w, Inv P ops lo F H Hh H' μ0 w0 (fun j => j < k) a w := by
  intro k
  induction k with
  | zero => intro _; exact ⟨fun j hj => by omega, a0, w0, (inv_zero s fr0).congr fun k => by simp⟩
  | succ k ih =>
    intro hk
    obtain ⟨fc, a, w, inv⟩ := ih (by omega)
    obtain ⟨o, ho⟩ := op_at (ops := ops) (i := k) (by omega)
    have := G.exec (nn := 0) hcall wl_wide fr0 hlo (N := k) (by omega) fc (D := fun j => j < k) (fun j hj => hj) (fun j _ hj l hl _ => by omega) (i := k) (Nat.le_refl _) (by omega) (fun j hj _ => hj) inv ho (.inl rfl)
      (next := fun a' w' => Inv P ops lo F H Hh H' μ0 w0 (fun j => j < k + 1) a' w' ∧ Facts U ops F H Hh H' k) (Q := fun _ _ _ => False)
      (fun a' w' h1 h2 => ⟨h1.congr fun j => by omega, h2⟩)
    obtain ⟨a', w', h1, h2⟩ := wp_ex this
    refine ⟨fun j hj => ?_, a', w', h1⟩
    rcases Nat.lt_or_ge j k with h | h
    · exact fc j h
    · rw [show j = k from by omega]; exact h2

def Lst (l : Array Bool) : Nat → Prop := fun k => l.getD k false = true
/-- What the listed operations wait for is listed. -/
def EdgeC (ops : Array Oper) (D : Nat → Prop) : Prop := ∀ k o, ops[k]? = some o → D k → ∀ e ∈ o.after.toList, Region.binds .any e = true → D e.on

omit [NG P] in
theorem Reg.closed (G : Reg P call ops U F H Hh H' R) {D : Nat → Prop} (hD : EdgeC ops D) : ∀ (k : Nat), k < ops.size → (∀ o, ops[k]? = some o → ∀ e ∈ o.after.toList, Region.binds .any e = true → D e.on) → ∀ j, bitOf (allBits ops.toList []) k j = true → D j := by
  intro k
  induction k using Nat.strongRecOn with
  | _ k ih =>
    intro hk he j hb
    obtain ⟨o, ho⟩ := op_at hk
    obtain ⟨e, h1, h2, h3⟩ := (bit_iff ho (G.edge ho)).1 hb
    have h4 := he o ho e h1 h2
    rcases h3 with h3 | h3
    · rw [← h3]; exact h4
    · have hlt := G.edge ho e h1 h2
      exact ih e.on hlt (by omega) (fun o' ho' e' h5 h6 => hD e.on o' ho' h4 e' h5 h6) j h3

theorem Reg.any (G : Reg P call ops U F H Hh H' R) (hcall : CallOk P call) {Fe : Fence} {nn : Nat} (hF : WL Fe) (hcl : Fe.round = none ∨ calmOps ops.toList = true) {μ0 : Mu} {w0 : World} {a0 : Act} (fr0 : FrOk U μ0 (H 0) (F 0) a0) (hlo : lo ≤ w0.heap.size)
    (fc : ∀ k, k < ops.size → Facts U ops F H Hh H' k) {Q : Exit → Act → World → Prop} (hQ : ∀ a w, Inv P ops lo F H Hh H' μ0 w0 (fun k => k < ops.size) a w → Q .normal a w) :
    ∀ (fuel : Nat) (l : Array Bool) (a : Act) (w : World), l.size = ops.size → (List.range ops.size).countP (fun k => !l.getD k false) ≤ fuel → EdgeC ops (Lst l) → Inv P ops lo F H Hh H' μ0 w0 (Lst l) a w →
      wpAnyIn Fe nn P .any ops Q fuel l a w := by
  intro fuel
  induction fuel with
  | zero =>
    intro l a w hs hc he inv
    have hall : ∀ k, k < ops.size → l.getD k false = true := by
      intro k hk
      have h0 : (List.range ops.size).countP (fun k => !l.getD k false) = 0 := by omega
      rw [List.countP_eq_zero] at h0
      have := h0 k (by simpa using hk)
      simpa using this
    refine ⟨?_, hQ a w (inv.congr fun k => ⟨fun h => ?_, fun h => hall k h⟩)⟩
    · unfold Region.ready
      rw [List.filter_eq_nil_iff]
      intro k hk
      have hk' : k < ops.size := by simpa using hk
      have h1 := hall k hk'
      have h2 : l.getD k true = true := by
        rw [Array.getD_eq_getD_getElem?] at h1 ⊢
        rw [Array.getElem?_eq_getElem (by omega)] at h1 ⊢
        exact h1
      simp [h2]
    · false_or_by_contra
      rename_i hn
      unfold Lst at h
      rw [Array.getD_eq_getD_getElem?, Array.getElem?_eq_none (by omega)] at h
      cases h
  | succ fuel ih =>
    intro l a w hs hc he inv
    refine ⟨?_, ?_⟩
    · intro hr
      refine hQ a w (inv.congr fun k => ⟨fun h => ?_, fun h => ?_⟩)
      · false_or_by_contra
        rename_i hn
        unfold Lst at h
        rw [Array.getD_eq_getD_getElem?, Array.getElem?_eq_none (by omega)] at h
        cases h
      · -- the least one that is not listed would be ready
        revert h
        induction k using Nat.strongRecOn with
        | _ k ihk =>
          intro hk
          false_or_by_contra
          rename_i hn
          obtain ⟨o, ho⟩ := op_at hk
          have hmem : k ∈ Region.ready .any ops l := by
            unfold Region.ready
            rw [List.mem_filter]
            refine ⟨by simpa using hk, ?_⟩
            have h2 : l.getD k true = false := by
              unfold Lst at hn
              rw [Array.getD_eq_getD_getElem?, Array.getElem?_eq_getElem (by omega)] at hn ⊢
              simpa using hn
            rw [h2, ho]
            simp only [Bool.not_false, Bool.true_and, Option.map_some, Option.getD_some]
            rw [Array.all_eq_true_iff_forall_mem]
            intro e hem
            cases hb : Region.binds .any e with
            | false => rfl
            | true =>
              have hlt := G.edge ho e (by simpa using hem) hb
              have := ihk e.on hlt (by omega)
              simpa [Lst] using this
          rw [hr] at hmem
          cases hmem
    · intro i hi
      unfold Region.ready at hi
      rw [List.mem_filter] at hi
      obtain ⟨hi1, hi2⟩ := hi
      have hin : i < ops.size := by simpa using hi1
      obtain ⟨o, ho⟩ := op_at hin
      rw [ho] at hi2
      simp only [Option.map_some, Option.getD_some, Bool.and_eq_true] at hi2
      obtain ⟨h1, h2⟩ := hi2
      have hnl : l.getD i false = false := by
        rw [Array.getD_eq_getD_getElem?, Array.getElem?_eq_getElem (by omega)] at h1 ⊢
        simpa using h1
      have hedges : ∀ e ∈ o.after.toList, Region.binds .any e = true → Lst l e.on := by
        intro e hem hb
        rw [Array.all_eq_true_iff_forall_mem] at h2
        have := h2 e (by simpa using hem)
        simpa [hb, Lst] using this
      have hset : ∀ k, Lst (l.setIfInBounds i true) k ↔ Lst l k ∨ k = i := by
        intro k
        unfold Lst
        rw [Array.getD_eq_getD_getElem?, Array.getD_eq_getD_getElem?, Array.getElem?_setIfInBounds]
        by_cases hk : i = k
        · subst hk; simp [show i < l.size from by omega]
        · rw [if_neg hk]
          constructor
          · exact .inl
          · rintro (h | h)
            · exact h
            · exact absurd h.symm hk
      have hDn : ∀ k, Lst l k → k < ops.size := by
        intro k h
        false_or_by_contra
        rename_i hn
        unfold Lst at h
        rw [Array.getD_eq_getD_getElem?, Array.getElem?_eq_none (by omega)] at h
        cases h
      have hdf : Fe.round = none ∨ calmOp o.op = true := rightly hcl fun h => by
        unfold calmOps at h
        rw [allL_eq, List.all_eq_true] at h
        exact h o (by simpa using Array.mem_of_getElem? ho)
      have key := G.exec (nn := nn) hcall hF fr0 hlo (N := ops.size) (Nat.le_refl _) fc (D := Lst l) hDn
        (fun k hk hDk j _ hb => G.closed he k hk (fun o' ho' e h5 h6 => he k o' ho' hDk e h5 h6) j hb) (i := i) (by omega) (by unfold Lst; rw [hnl]; simp)
        (fun j hj hb => G.closed he i hin (fun o' ho' e h5 h6 => by rw [ho] at ho'; cases ho'; exact hedges e h5 h6) j hb) inv ho hdf
        (next := wpAnyIn Fe nn P .any ops Q fuel (l.setIfInBounds i true)) (Q := Q)
        (fun a' w' h3 _ => by
          refine ih _ a' w' (by simpa using hs) ?_ ?_ (h3.congr fun k => (hset k).symm)
          · have : (List.range ops.size).countP (fun k => !(l.setIfInBounds i true).getD k false) < (List.range ops.size).countP (fun k => !l.getD k false) := by
              refine countP_lt _ (fun x _ hx => ?_) i hi1 (by rw [hnl]; rfl) ?_
              · cases hl : l.getD x false with
                | false => rfl
                | true =>
                  have := (hset x).2 (.inl hl)
                  unfold Lst at this
                  rw [this] at hx; cases hx
              · have := (hset i).2 (.inr rfl)
                unfold Lst at this
                rw [this]; rfl
            omega
          · intro k o' ho' hk e h5 h6
            rw [hset] at hk ⊢
            rcases hk with hk | rfl
            · exact .inl (he k o' ho' hk e h5 h6)
            · rw [ho] at ho'; cases ho'
              exact .inl (hedges e h5 h6))
      unfold wpOpIn
      simp only [ho]
      split
      · rename_i hw; rw [if_pos hw] at key; exact key
      · rename_i hw; rw [if_neg hw] at key; exact ⟨fun _ _ => hF.fn _, key⟩

omit [NG P] in
theorem Reg.mw_le (G : Reg P call ops U F H Hh H' R) {k : Nat} : ∀ (i : Nat), k ≤ i → i ≤ ops.size → (H i).mw ≤ (H k).mw := by
  intro i
  induction i with
  | zero => intro h _; rw [show k = 0 from by omega]; exact Nat.le_refl _
  | succ i ih =>
    intro h1 h2
    by_cases h3 : k = i + 1
    · subst h3; exact Nat.le_refl _
    · refine Nat.le_trans ?_ (ih (by omega) (by omega))
      rw [(G.en i (by omega)).nx]
      show ite' _ _ _ ≤ _
      rw [ite'_eq]
      split
      · exact Nat.le_refl _
      · rw [minN_eq]; omega

omit [NG P] in
/-- The region's end. -/
theorem Reg.ends (G : Reg P call ops U F H Hh H' R) {μ0 : Mu} {w0 : World} {a0 : Act} (fr0 : FrOk U μ0 (H 0) (F 0) a0) (fc : ∀ k, k < ops.size → Facts U ops F H Hh H' k) {a : Act} {w : World}
    (inv : Inv P ops lo F H Hh H' μ0 w0 (fun k => k < ops.size) a w) : ∃ μ', Go2 P U lo μ0 μ' (H 0) (H ops.size) w0 w ∧ FrOk U μ' (H ops.size) (F ops.size) a := by
  obtain ⟨μ', post, hsz, htm, hdf⟩ := inv
  have hN := Nat.le_refl ops.size
  have hszk : ∀ k, k ≤ ops.size → (F k).sz ≤ 512 := fun k hk => by rw [(G.fsz fc k hk).1]; exact G.sz
  have hup := fun j i => G.up hN fc (j := j) i
  have hlook : lookD ops H Hh H' (fun k => k < ops.size) = (H ops.size).look := by
    funext id
    exact lk_at (m := fun k => (H k).look) (fun k hk ht => G.stays hN fc hk ht) hN (fun j hj _ => hj) (fun k h1 h2 => by omega)
  have htmE : ∀ t, t < 512 → tmD ops F (fun k => k < ops.size) t = getTm t (F ops.size).tm := fun t ht =>
    lk_at (m := fun k t => getTm t (F k).tm) (fun k hk hd => (fc k hk).tm_ne (hszk k (by omega)) ht hd) hN (fun j hj _ => hj) (fun k h1 h2 => by omega)
  have v0 : ∀ id, Vis U (H 0) id → Vis U (H ops.size) id := fun id h => ⟨Nat.lt_of_lt_of_le h.1 (hup 0 _ (Nat.zero_le _) hN), h.2⟩
  have vk : ∀ k, k < ops.size → ∀ id, Vis (Ui U ops H k) (H' k) id → Vis U (H ops.size) id := fun k hk id h => by
    have h1 := h.1
    rw [← G.next' hk] at h1
    exact ⟨Nat.lt_of_lt_of_le h1 (hup (k + 1) _ (by omega) hN), fun hu => h.2 (.inl hu)⟩
  refine ⟨μ', ⟨⟨hup 0 _ (Nat.zero_le _) hN, G.mw_le _ (Nat.zero_le _) hN, G.hid _ hN, ?_, ?_⟩, ?_⟩, ?_⟩
  · intro id hi hh
    have : ∀ k, k ≤ ops.size → (H k).m.get id = (H 0).m.get id := by
      intro k
      induction k with
      | zero => intro _; rfl
      | succ k ih =>
        intro hk
        have hk' : k < ops.size := by omega
        have hlt : id < (H k).next := Nat.lt_of_lt_of_le hi (hup 0 k (Nat.zero_le _) (by omega))
        rw [G.m' hk', (fc k hk').step.dark id (by rw [G.hh_next hk']; exact hlt) ((G.hf hN fc (by omega) hk').old id hlt hh), G.hh_m hk', ih (by omega)]
    exact this _ hN
  · refine ⟨Nat.le_trans G.ok0.nx (hup 0 _ (Nat.zero_le _) hN), G.top hN fc hN, ?_, ?_, ?_⟩
    · rw [G.hid _ hN]; exact G.ok0.down.mono (hup 0 _ (Nat.zero_le _) hN)
    · intro id b hl
      rcases seq_from (m := fun k => (H k).look) (T := Tch Hh H') (n := ops.size) (x := id) (fun k hk ht => G.stays hN fc hk ht) with h | ⟨k, h4, h5, h6⟩
      · exact (G.ok0.st id b (h ▸ hl)).mono v0
      · exact (G.stB hN fc h4 h5 (h6 ▸ hl)).mono (vk k h4)
    · intro id hu
      have := G.ok0.unk id hu
      rw [G.hid _ hN]
      exact ⟨this.1, Nat.lt_of_lt_of_le this.2.1 (hup 0 _ (Nat.zero_le _) hN), this.2.2⟩
  · rw [hlook] at post
    refine post.mono ?_ ?_ ?_
    · rintro id ⟨k, h1, _, h3, h4⟩
      exact ⟨Nat.le_trans (hup 0 k (Nat.zero_le _) (by omega)) h3, Nat.lt_of_lt_of_le h4 (hup (k + 1) _ (by omega) hN)⟩
    · rintro id ⟨k, h1, _, h3, h4⟩
      obtain ⟨b, hb⟩ := Option.isSome_iff_exists.1 h4
      have hlt := (G.sees hN fc (by omega) h1 hb).1
      have h5 := G.mw_le (k := k + 1) ops.size (by omega) hN
      have h6 : (H (k + 1)).mw ≤ (H' k).mw := by
        rw [(G.en k h1).nx]
        show ite' _ _ _ ≤ _
        rw [ite'_eq, if_neg, minN_eq]
        · omega
        · rw [ble_eq]; unfold Wr at h3; omega
      unfold Wr at h3 ⊢
      omega
    · rintro id b ⟨h1, h2⟩ hn
      exfalso
      obtain ⟨j, h3, h4, h5⟩ := G.cover hN fc h1 _ hN h2
      exact hn ⟨j, h3, h3, h4, h5⟩
  · obtain ⟨h1, h2⟩ := G.fsz fc _ hN
    refine ⟨by rw [hsz, h1], hszk _ hN, ?_, ?_, by rw [hdf, h2], ?_⟩
    · intro t ht; rw [htm t ht, htmE t ht]
    · intro t ht
      rcases seq_from (m := fun k t => getTm t (F k).tm) (T := Dst ops) (n := ops.size) (x := t) (fun k hk hd => (fc k hk).tm_ne (hszk k (by omega)) ht hd) with h | ⟨k, h4, h5, h6⟩
      · rw [show getTm t (F ops.size).tm = getTm t (F 0).tm from h]
        exact (fr0.st t ht).mono v0
      · rw [show getTm t (F ops.size).tm = getTm t (F (k + 1)).tm from h6]
        exact ((fc k h4).tm (hszk k (by omega)) ht h5).mono (vk k h4)
    · rw [h2]
      intro d hd
      exact (fr0.dst d hd).mono v0

end

theorem draw_ok {P : Program} [NG P] (hm : P.follows .mixedOrders = true) {call : CallK} (hcall : CallOk P call) {Fe : Fence} {nn : Nat} (hF : WL Fe) {id : Nat} {ops : Array Oper} {f : Fr} {h : Hp} {e : Ex} {f' : Fr} {h' : Hp} (hd : drawOk ops = true) (hcl : Fe.round = none ∨ calmOps ops.toList = true)
    (he : evDraw P call ops ops.toList (incs ops) [] f h = .ok e f' h') {U : Ids} {lo : Nat} {μ : Mu} {w : World} {a : Act} (ok : HpOk U h) (s : Sat P lo μ h.look w) (hlo : lo ≤ w.heap.size) (fr : FrOk U μ h f a) :
    (Code.region id ops true).wpIn Fe nn P (CodePost P U lo μ h w e f' h') a w := by
  unfold drawOk at hd
  rw [ite'_eq] at hd
  split at hd
  · rename_i hed
    obtain ⟨rfl, F, H, Hh, H', R, h1, h2, h3, h4, _, h5⟩ := trace_of ops.toList 0 [] f h e f' h' (by simpa using he) rfl rfl
    have hlen : 0 + ops.toList.length = ops.size := by simp
    rw [hlen] at h3 h4 h5
    subst h1 h2 h3 h4
    have G : Reg P call ops U F H Hh H' R := ⟨fun i hi => h5 i (Nat.zero_le _) hi, ok, hed, hd, fr.le⟩
    refine wpIn_region_any hm ?_
    have s0 : Sat P lo μ (H 0).look { w with drawn := w.drawn + 1 } := sat_drawn s
    have fc := (G.facts hcall s0 fr hlo ops.size (Nat.le_refl _)).1
    refine G.any hcall hF hcl (w0 := { w with drawn := w.drawn + 1 }) fr hlo fc (fun a' w' inv => ?_) ops.size _ a _ (by simp) ?_ ?_ ?_
    · obtain ⟨μ', g, fr'⟩ := G.ends fr fc inv
      exact ⟨μ', ⟨g.step, ⟨g.post.agree, g.post.sat, g.post.keep, g.post.old, g.post.size, g.post.frame, g.post.fresh, g.post.os, g.post.tape, g.post.output⟩⟩, fr', trivial⟩
    · refine Nat.le_trans List.countP_le_length (by simp)
    · intro k o _ hk
      exfalso
      unfold Lst at hk
      rw [Array.getD_eq_getD_getElem?, Array.getElem?_replicate] at hk
      split at hk <;> cases hk
    · refine (inv_zero s0 fr).congr fun k => ⟨fun h => h.elim, fun hk => ?_⟩
      unfold Lst at hk
      rw [Array.getD_eq_getD_getElem?, Array.getElem?_replicate] at hk
      split at hk <;> cases hk
  · cases hd

end Go.Ev
