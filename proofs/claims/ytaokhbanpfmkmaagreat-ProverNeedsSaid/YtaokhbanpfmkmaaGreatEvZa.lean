/- A verified evaluator: a part of it. -/
import Derived.Test.YtaokhbanpfmkmaaGreatEvZ
namespace Go.Ev
set_option linter.unusedVariables false
set_option linter.unusedSimpArgs false

abbrev NoIds : Ids := fun _ => False
theorem vis_no {h : Hp} {id : Nat} : Vis NoIds h id ↔ id < h.next := ⟨fun h => h.1, fun h => ⟨h, fun h => h⟩⟩
theorem hid_nil (id : Nat) : hidden id [] = false := rfl

theorem getD_some (l : List Blk) (i : Nat) : (l.map some).getD i none = l[i]? := by
  rw [List.getD_eq_getElem?_getD, List.getElem?_map]
  cases l[i]? <;> rfl

theorem hpOf_look (pre : List Blk) (id : Nat) : (hpOf pre).look id = if 1000 ≤ id ∧ id < 1000 + pre.length then pre[id - 1000]? else none := by
  rw [look_of (by rfl)]
  show (putL (someL pre) 1000 .nil).get id = _
  rw [putL_get, someL_eq, List.length_map, getD_some, get_nil]
theorem hpOf_next (pre : List Blk) : (hpOf pre).next = 1000 + pre.length := by
  show Nat.add 1000 (lenL pre) = _
  rw [lenL_eq]; rfl
theorem hpOf_ok {pre : List Blk} (hst : ∀ b ∈ pre, StB (Upto pre.length) b) : HpOk NoIds (hpOf pre) := by
  refine ⟨by rw [hpOf_next]; omega, fun id hi => ?_, trivial, fun id b hl => ?_, fun _ h => h.elim⟩
  · rw [hpOf_next] at hi
    have := hpOf_look pre id
    rw [look_of (by rfl), if_neg (by omega)] at this
    exact this
  · rw [hpOf_look] at hl
    split at hl
    · exact (hst b (List.mem_of_getElem? hl)).mono fun i hi => by rw [vis_no, hpOf_next]; exact hi
    · cases hl
theorem hpSaid_next (pre : List Blk) (s : Said) : (hpSaid pre s).next = 1000 + pre.length + s.new.length := by
  show Nat.add (Nat.add 1000 (lenL pre)) (lenL s.new) = _
  rw [lenL_eq, lenL_eq]; rfl
theorem hpSaid_look {pre : List Blk} {s : Said} (hj : s.j + s.tail.length = pre.length) (id : Nat) : (hpSaid pre s).look id =
    if 1000 + pre.length ≤ id ∧ id < 1000 + pre.length + s.new.length then s.new[id - (1000 + pre.length)]?
    else if 1000 + s.j ≤ id ∧ id < 1000 + pre.length then s.tail.getD (id - (1000 + s.j)) none
    else if 1000 ≤ id ∧ id < 1000 + pre.length then pre[id - 1000]? else none := by
  rw [look_of (by rfl)]
  show (putL (someL s.new) (Nat.add 1000 (lenL pre)) (putL s.tail (Nat.add 1000 s.j) (putL (someL pre) 1000 .nil))).get id = _
  rw [putL_get, putL_get, putL_get, someL_eq, someL_eq, List.length_map, List.length_map, getD_some, getD_some, lenL_eq]
  rw [show Nat.add 1000 pre.length = 1000 + pre.length from rfl, show Nat.add 1000 s.j = 1000 + s.j from rfl, show 1000 + s.j + s.tail.length = 1000 + pre.length from by omega, get_nil]
theorem hpSaid_mw (pre : List Blk) (s : Said) : (hpSaid pre s).mw = 1000 + s.j := rfl

theorem kap_range {k : Nat} {t : List Nat} {id : Nat} (h : id < 1000 + k) : kap (idL k ++ t) id = id := by
  rcases Nat.lt_or_ge id 1000 with h1 | h1
  · exact kap_lo h1
  · obtain ⟨i, rfl⟩ : ∃ i, id = 1000 + i := ⟨id - 1000, by omega⟩
    refine kap_at ?_
    rw [idL_eq, List.getElem?_append_left (by simp; omega), List.getElem?_range' (by omega)]
    simp

section
variable {P : Program} {lo : Nat} {μ : Mu} {w : World}

/-- What is said of a run. -/
theorem said_ok {pre : List Blk} {s : Said} {vr : Value} {hr : Hp} {μr : Mu} {w' : World} (hst : ∀ b ∈ pre, StB (Upto pre.length) b) (g : Go2 P NoIds lo μ μr (hpOf pre) hr w w') (hs : Sat P lo μ (hpOf pre).look w) (hck : ckRet pre s vr hr = true) :
    ∃ μs, Go2 P NoIds lo μ μs (hpOf pre) (hpSaid pre s) w w' ∧ Stable (Vis NoIds (hpSaid pre s)) s.v ∧ ren μs s.v = ren μr vr := by
  unfold ckRet at hck
  obtain ⟨c1, hck⟩ := ite'_and hck
  obtain ⟨c2, hck⟩ := ite'_and hck
  cases hio : (ob (mVal s.v vr (idL (lenL pre))) fun io => ob (mTail hr s.tail (Nat.add 1000 s.j) io) fun io => mPre hr s.new (lenL pre) io) with
  | none => rw [hio] at hck; cases hck
  | some io =>
    rw [hio] at hck
    obtain ⟨c3, c4⟩ := ite'_and (show ite' (Nat.beq (lenL io) (Nat.add (lenL pre) (lenL s.new))) (nodupL io) false = true from hck)
    obtain ⟨io1, m1, hio⟩ := ob_eq_some.1 hio
    obtain ⟨io2, m2, m3⟩ := ob_eq_some.1 hio
    rw [lenL_eq] at m1 m3
    simp only [lenL_eq, beq_eq, ble_eq] at c1 c2 c3
    replace c1 : 1000 + s.j ≤ hr.mw := c1
    replace c2 : s.j + s.tail.length = pre.length := c2
    replace c3 : io.length = pre.length + s.new.length := c3
    have nd := nodupL_ok c4
    have v1 := mVal_ok s.v _ _ _ m1
    obtain ⟨⟨t2, e2⟩, k2, s2⟩ := mTail_ok _ _ _ _ m2
    obtain ⟨⟨t3, e3⟩, k3, s3⟩ := mPre_ok _ _ _ _ m3
    obtain ⟨t1, e1⟩ := v1.ext
    obtain ⟨t, het⟩ : ∃ t, io = idL pre.length ++ t := ⟨t1 ++ t2 ++ t3, by rw [e3, e2, e1]; simp [List.append_assoc]⟩
    have l1 : io1.length ≤ io.length := by rw [e3, e2]; simp only [List.length_append]; omega
    have l2 : io2.length ≤ io.length := by rw [e3]; simp
    have hkold : ∀ id, id < 1000 + pre.length → kap io id = id := fun id hi => by rw [het]; exact kap_range hi
    have hkat : ∀ i a, io[i]? = some a → kap io (1000 + i) = a := fun i a h => kap_at h
    -- the numbers
    have hnew : ∀ j b, s.new[j]? = some b → ∃ a ba, io[pre.length + j]? = some a ∧ kap io (1000 + pre.length + j) = a ∧ hr.look a = some ba ∧ BRel (kap io) b ba := fun j b hb => by
      obtain ⟨a, ba, h1, h2, h3⟩ := k3 j b hb
      refine ⟨a, ba, h1, ?_, h2, by simpa using h3 []⟩
      rw [show 1000 + pre.length + j = 1000 + (pre.length + j) from by omega]; exact kap_at h1
    have hagree : ∀ id, id < 1000 + pre.length → μr id = μ id := fun id hi => g.post.agree id fun hf => by
      have := hf.1; rw [hpOf_next] at this; omega
    obtain ⟨μs, hμs⟩ : ∃ μs : Mu, μs = fun id => if id < 1000 + pre.length + s.new.length then μr (kap io id) else μ id := ⟨_, rfl⟩
    have hs1 : ∀ id, id < 1000 + pre.length + s.new.length → μs id = μr (kap io id) := fun id hi => by rw [hμs]; exact if_pos hi
    have hs2 : ∀ id, id < 1000 + pre.length → μs id = μ id := fun id hi => by rw [hs1 id (by omega), hkold id hi, hagree id hi]
    have hs3 : ∀ id, ¬ id < 1000 + pre.length + s.new.length → μs id = μ id := fun id hi => by rw [hμs]; exact if_neg hi
    have up : ∀ id, Upto io.length id → id < 1000 + pre.length + s.new.length := fun id hi => by unfold Upto at hi; omega
    have hvst : Stable (Upto io.length) s.v := v1.st.mono (Upto.mono l1)
    have hnk : ∀ id b, (hpSaid pre s).look id = some b → 1000 ≤ id ∧ id < 1000 + pre.length + s.new.length := fun id b hl => by
      rw [hpSaid_look c2] at hl
      split at hl
      · omega
      · split at hl
        · omega
        · split at hl
          · omega
          · cases hl
    -- each block
    have hblk : ∀ id b, (hpSaid pre s).look id = some b → ∃ ba, hr.look (kap io id) = some ba ∧ BlkOk P w' μs id b ∧ StB (Upto io.length) b := by
      intro id b hl
      have hid := hnk id b hl
      have move : ∀ ba, hr.look (kap io id) = some ba → BRel (kap io) b ba → StB (Upto io.length) b → BlkOk P w' μs id b := fun ba h1 h2 h3 => by
        have := (blk_rel h2).1 (g.sat.blk _ _ h1)
        exact this.move h3 (fun i hi => hs1 i (up i hi)) (hs1 id hid.2) rfl
      rw [hpSaid_look c2] at hl
      split at hl
      · rename_i hc
        obtain ⟨a, ba, h1, h2, h3, h4⟩ := hnew _ b hl
        rw [show 1000 + pre.length + (id - (1000 + pre.length)) = id from by omega] at h2
        have hst' := (s3 b (List.mem_of_getElem? hl))
        exact ⟨ba, by rw [h2, h3], move ba (by rw [h2, h3]) h4 hst', hst'⟩
      · split at hl
        · rename_i hc
          have hl' : s.tail[id - (1000 + s.j)]? = some (some b) := by
            rw [List.getD_eq_getElem?_getD] at hl
            cases hx : s.tail[id - (1000 + s.j)]? with
            | none => rw [hx] at hl; cases hl
            | some y => rw [hx] at hl; simp only [Option.getD_some] at hl; rw [hl]
          obtain ⟨ba, h1, h2⟩ := k2 _ b hl'
          rw [show Nat.add 1000 s.j + (id - (1000 + s.j)) = id from by show 1000 + s.j + _ = _; omega] at h1
          have hst' := (s2 b (List.mem_of_getElem? hl')).mono (Upto.mono l2)
          have hk := hkold id hc.2
          exact ⟨ba, by rw [hk, h1], move ba (by rw [hk, h1]) (by have := h2 t3; rwa [← e3] at this) hst', hst'⟩
        · split at hl
          · rename_i hc0 hc
            have hk := hkold id hc.2
            have hpl : (hpOf pre).look id = some b := by rw [hpOf_look, if_pos hc]; exact hl
            have hkeep := g.post.keep id (fun hf => by have := hf.1; rw [hpOf_next] at this; omega) (fun hw => by unfold Wr at hw; omega)
            rw [hpl] at hkeep
            have hst' : StB (Upto pre.length) b := hst b (List.mem_of_getElem? hl)
            refine ⟨b, by rw [hk, hkeep], ?_, hst'.mono (Upto.mono (by omega))⟩
            exact (g.sat.blk _ _ hkeep).move hst' (fun i hi => by rw [hs2 i hi, hagree i hi]) (by rw [hs2 id hc.2, hagree id hc.2]) rfl
          · cases hl
    have hinj : ∀ id id', 1000 ≤ id → id < 1000 + pre.length + s.new.length → 1000 ≤ id' → id' < 1000 + pre.length + s.new.length → kap io id = kap io id' → id = id' := by
      intro id id' h1 h2 h3 h4 e
      obtain ⟨i, rfl⟩ : ∃ i, id = 1000 + i := ⟨id - 1000, by omega⟩
      obtain ⟨i', rfl⟩ : ∃ i', id' = 1000 + i' := ⟨id' - 1000, by omega⟩
      have hi : i < io.length := by omega
      have hi' : i' < io.length := by omega
      rw [kap_at (List.getElem?_eq_getElem hi), kap_at (List.getElem?_eq_getElem hi')] at e
      have := (List.getElem_inj (h₀ := hi) (h₁ := hi') nd).1 e
      omega
    have hwr : ∀ id, Wr hr id → Wr (hpSaid pre s) id := fun id hw => Nat.le_trans c1 hw
    have hmwle : (hpSaid pre s).mw ≤ (hpOf pre).mw := by
      have h2 := g.step.mw
      revert h2
      generalize (hpOf pre).mw = x
      intro h2
      exact Nat.le_trans c1 h2
    refine ⟨μs, ⟨⟨?_, ?_, rfl, fun id _ hh => (by cases hh), ?_, ?_, trivial, ?_, fun _ h => h.elim⟩, ⟨?_, ⟨?_, ?_, ?_, ?_⟩, ?_, ?_, g.post.size, ?_, ?_, g.post.os, g.post.tape, g.post.output⟩⟩, ?_, ?_⟩
    · rw [hpOf_next, hpSaid_next]; omega
    · exact hmwle
    · rw [hpSaid_next]; omega
    · intro id hi
      rw [hpSaid_next] at hi
      cases hx : (hpSaid pre s).m.get id with
      | none => rfl
      | some b =>
        have := hnk id b (by rw [look_of (by rfl)]; exact hx)
        omega
    · intro id b hl
      obtain ⟨_, _, _, h3⟩ := hblk id b hl
      exact h3.mono fun i hi => by rw [vis_no, hpSaid_next]; exact up i hi
    · intro id hn
      rcases Nat.lt_or_ge id (1000 + pre.length) with h | h
      · exact hs2 id h
      · refine hs3 id fun hlt => hn ⟨by rw [hpOf_next]; exact h, by rw [hpSaid_next]; exact hlt⟩
    · intro id hi
      rw [hs2 id (by omega)]; exact hs.low id hi
    · intro id b hl
      obtain ⟨_, _, h2, _⟩ := hblk id b hl
      exact h2
    · intro id id' b b' hl hl' e
      have h1 := hnk id b hl
      have h2 := hnk id' b' hl'
      rw [hs1 id h1.2, hs1 id' h2.2] at e
      obtain ⟨x, hx, _⟩ := hblk id b hl
      obtain ⟨x', hx', _⟩ := hblk id' b' hl'
      exact hinj id id' h1.1 h1.2 h2.1 h2.2 (g.sat.inj _ _ _ _ hx hx' e)
    · intro id b hl
      have h1 := hnk id b hl
      obtain ⟨x, hx, _⟩ := hblk id b hl
      rw [hs1 id h1.2]; exact g.sat.lo _ _ hx
    · intro id hf hw
      rw [hpSaid_look c2, hpOf_look]
      unfold Wr at hw
      rw [hpSaid_mw] at hw
      have hf' : ¬ (1000 + pre.length ≤ id ∧ id < 1000 + pre.length + s.new.length) := fun h => hf ⟨by rw [hpOf_next]; exact h.1, by rw [hpSaid_next]; exact h.2⟩
      rw [if_neg hf', if_neg (by omega)]
    · intro id b hf hl
      have h1 := hnk id b hl
      have hlt : id < 1000 + pre.length := by
        rcases Nat.lt_or_ge id (1000 + pre.length) with h | h
        · exact h
        · exact absurd ⟨by rw [hpOf_next]; exact h, by rw [hpSaid_next]; exact h1.2⟩ hf
      have hb : id - 1000 < pre.length := by have := h1.1; omega
      obtain ⟨b0, hb0⟩ : ∃ b0, pre[id - 1000]? = some b0 := ⟨_, List.getElem?_eq_getElem hb⟩
      have hl2 : (hpOf pre).look id = pre[id - 1000]? := by rw [hpOf_look, if_pos ⟨h1.1, hlt⟩]
      exact ⟨b0, hl2.trans hb0⟩
    · intro b hb hn
      have h3 : ∀ id blk, Wr hr id → (hpOf pre).look id = some blk → (μ id).blk ≠ b := fun id blk hw hl => hn id blk (hwr id hw) hl
      exact g.post.frame b hb h3
    · intro id b hf hl
      have h1 := hnk id b hl
      have hge : 1000 + pre.length ≤ id := by have := hf.1; rwa [hpOf_next] at this
      rw [hs1 id h1.2]
      obtain ⟨x, hx, _⟩ := hblk id b hl
      have hfr : Fresh (hpOf pre) hr (kap io id) := by
        refine ⟨?_, g.ok.lt hx⟩
        rw [hpOf_next]
        rcases Nat.lt_or_ge (kap io id) (1000 + pre.length) with h | h
        · exfalso
          rcases Nat.lt_or_ge (kap io id) 1000 with h' | h'
          · have := g.post.old _ x (fun hf => by have := hf.1; rw [hpOf_next] at this; omega) hx
            obtain ⟨y, hy⟩ := this
            rw [hpOf_look, if_neg (by omega)] at hy
            cases hy
          · have := hinj id (kap io id) h1.1 h1.2 h' (by omega) (by rw [hkold _ h])
            omega
        · exact h
      rcases g.post.fresh _ x hfr hx with h | ⟨id0, b0, h2, h3, h4⟩
      · exact .inl h
      · exact .inr ⟨id0, b0, hwr _ h2, h3, h4⟩
    · exact hvst.mono fun i hi => by rw [vis_no, hpSaid_next]; exact up i hi
    · have := v1.rel (t2 ++ t3)
      rw [← List.append_assoc, ← e2, ← e3] at this
      rw [this μr]
      exact hvst μs _ fun i hi => hs1 i (up i hi)

/-- A known call. -/
def EntOk (P : Program) (g : FuncId) (argsc : List Value) (pre : List Blk) (s : Said) : Prop := (∀ b ∈ pre, StB (Upto pre.length) b) → (∀ v ∈ argsc, Stable (Upto pre.length) v) →
  ∀ (lo : Nat) (μ : Mu) (w : World), Sat P lo μ (hpOf pre).look w → lo ≤ w.heap.size → Calls P g (argsc.map (ren μ)).toArray w (CallPost P NoIds lo μ (hpOf pre) w false s.v (hpSaid pre s))

/-- The ends of a call that is run on a heap of its own. -/
abbrev RunK := FuncId → List Value → Hp → Option (List CRes)
def RunOk (P : Program) (run : RunK) : Prop := ∀ g args h L, run g args h = some L → L.all okRes = true → ∀ (U : Ids) (lo : Nat) (μ : Mu) (w : World),
  HpOk U h → Sat P lo μ h.look w → lo ≤ w.heap.size → (∀ v ∈ args, Stable (Vis U h) v) → Calls P g (args.map (ren μ)).toArray w (CEnds P U lo μ h w L)

theorem ck_okRes {pre : List Blk} {s : Said} {r : CRes} (h : ck pre s r = true) : okRes r = true := by
  cases r with
  | ret => rfl
  | pan => cases h
  | fail => cases h

theorem ent_ok {run : RunK} (hrun : RunOk P run) {g : FuncId} {argsc : List Value} {pre : List Blk} {s : Said} {L : List CRes} (he : run g argsc (hpOf pre) = some L) (hck : L.all (ck pre s) = true) : EntOk P g argsc pre s := by
  intro hpre hargs lo μ w hs hlo
  have hall : L.all okRes = true := by
    rw [List.all_eq_true] at hck ⊢
    exact fun r hr => ck_okRes (hck r hr)
  refine (hrun g argsc _ L he hall NoIds lo μ w (hpOf_ok hpre) hs hlo fun v hv => (hargs v hv).mono fun i hi => by rw [vis_no, hpOf_next]; exact hi).mono fun en w' p => ?_
  obtain ⟨pan, v, h', hm, μ', g1, g2, rfl⟩ := p
  have := List.all_eq_true.1 hck _ hm
  cases pan with
  | true => cases this
  | false =>
    obtain ⟨μs, k1, k2, k3⟩ := said_ok hpre g1 hs (show ckRet pre s v h' = true from this)
    exact ⟨μs, k1, k2, by simp [k3]⟩

end
end Go.Ev

namespace Go.Ev
set_option linter.unusedVariables false
set_option linter.unusedSimpArgs false

noncomputable section
def isRM : Blk → Bool
  | .row _ _ _ => true
  | .map _ _ => true
  | _ => false
def isRMo (b : Option Blk) : Bool := Option.rec true isRM b
def saidOk (pre : List Blk) (s : Said) : Bool := ite' (Nat.beq (Nat.add s.j (lenL s.tail)) (lenL pre)) (ite' (allL isRM s.new) (allL isRMo s.tail) false) false
end

theorem rm_rel (κ : Nat → Nat) {b : Blk} (h : isRM b = true) : BRel κ b (ridB κ b) := by
  cases b with
  | row cs e o => exact ridB_rel (b0 := .row cs e o) (κ0 := fun i => i) κ ⟨rfl, rfl, fun μ => rfl⟩
  | map es c => exact ridB_rel (b0 := .map es c) (κ0 := fun i => i) κ ⟨rfl, fun μ => rfl⟩
  | _ => cases h
theorem rm_st {κ : Nat → Nat} {b : Blk} {S S' : Ids} (h : isRM b = true) (hst : StB S b) (hs : ∀ id, S id → S' (κ id)) : StB S' (ridB κ b) := ridB_st (rm_rel κ h) hst hs

section
variable {P : Program}

/-- A known call holds wherever its arguments are met. -/
theorem use_ok {g : FuncId} {argsc : List Value} {pre : List Blk} {s : Said} {args : List Value} {h : Hp} {io : List Nat} (hent : EntOk P g argsc pre s) (hm : matchAll argsc pre args h = some io) (hso : saidOk pre s = true)
    {U : Ids} {lo : Nat} {μ : Mu} {w : World} (ok : HpOk U h) (sat : Sat P lo μ h.look w) (hlo : lo ≤ w.heap.size) :
    Calls P g (args.map (ren μ)).toArray w (CallPost P U lo μ h w false (rid (kapN io (lenL io) h.next) s.v) (newHp h io s)) := by
  unfold saidOk at hso
  obtain ⟨hj, hso⟩ := ite'_and hso
  obtain ⟨hrm1, hrm2⟩ := ite'_and hso
  rw [allL_eq, List.all_eq_true] at hrm1 hrm2
  rw [lenL_eq, lenL_eq, beq_eq] at hj
  replace hj : s.j + s.tail.length = pre.length := hj
  unfold matchAll at hm
  obtain ⟨io1, m1, hm⟩ := ob_eq_some.1 hm
  obtain ⟨io', m2, hm⟩ := ob_eq_some.1 hm
  obtain ⟨hlen, hm⟩ := ite'_eq_some.1 hm
  obtain ⟨hnd, hm⟩ := ite'_eq_some.1 hm
  obtain ⟨hbig, hm⟩ := ite'_eq_some.1 hm
  cases hm
  rw [lenL_eq, lenL_eq, beq_eq] at hlen
  have nd := nodupL_ok hnd
  unfold allBig at hbig
  rw [allL_eq, List.all_eq_true] at hbig
  have v1 := mVals_ok argsc args [] io1 m1
  obtain ⟨⟨t, et⟩, hp, hst⟩ := mPre_ok _ _ _ _ m2
  have hl1 : io1.length ≤ io.length := by rw [et]; simp
  rw [lenL_eq]
  obtain ⟨k, hk⟩ : ∃ k, k = pre.length := ⟨_, rfl⟩
  obtain ⟨m, hmm⟩ : ∃ m, m = s.new.length := ⟨_, rfl⟩
  have hlk : io.length = k := by rw [hk, hlen]
  -- each old number
  have hpre : ∀ i b, pre[i]? = some b → ∃ a ba, io[i]? = some a ∧ kap io (1000 + i) = a ∧ h.look a = some ba ∧ BRel (kap io) b ba := fun i b hb => by
    obtain ⟨a, ba, h1, h2, h3⟩ := hp i b hb
    rw [Nat.zero_add] at h1
    exact ⟨a, ba, h1, kap_at h1, h2, by simpa using h3 []⟩
  have hio : ∀ i a, io[i]? = some a → ∃ b ba, pre[i]? = some b ∧ kap io (1000 + i) = a ∧ h.look a = some ba ∧ BRel (kap io) b ba := fun i a ha => by
    have hi : i < pre.length := by
      rcases Nat.lt_or_ge i io.length with h | h
      · omega
      · rw [List.getElem?_eq_none h] at ha; cases ha
    obtain ⟨a', ba, h1, h2, h3, h4⟩ := hpre i _ (List.getElem?_eq_getElem hi)
    rw [ha] at h1; cases h1
    exact ⟨_, ba, List.getElem?_eq_getElem hi, h2, h3, h4⟩
  have hmem : ∀ a, a ∈ io → ∃ ba, h.look a = some ba := fun a ha => by
    obtain ⟨i, hi, rfl⟩ := List.mem_iff_getElem.1 ha
    obtain ⟨_, ba, _, _, h3, _⟩ := hio i _ (List.getElem?_eq_getElem hi)
    exact ⟨ba, h3⟩
  have hstp : ∀ b ∈ pre, StB (Upto pre.length) b := fun b hb => (hst b hb).mono (Upto.mono (by omega))
  have hlook : ∀ id b, (hpOf pre).look id = some b → ∃ i, id = 1000 + i ∧ i < k ∧ pre[i]? = some b := fun id b hl => by
    rw [hpOf_look] at hl
    split at hl
    · exact ⟨id - 1000, by omega, by omega, hl⟩
    · cases hl
  have hlook' : ∀ i b, pre[i]? = some b → (hpOf pre).look (1000 + i) = some b := fun i b hb => by
    have hi : i < pre.length := by
      rcases Nat.lt_or_ge i pre.length with h | h
      · exact h
      · rw [List.getElem?_eq_none h] at hb; cases hb
    rw [hpOf_look, if_pos (by omega), show 1000 + i - 1000 = i from by omega, hb]
  obtain ⟨μc, hμc⟩ : ∃ μc : Mu, μc = fun id => μ (kap io id) := ⟨_, rfl⟩
  have satc : Sat P lo μc (hpOf pre).look w := by
    rw [hμc]
    refine ⟨fun id hi => ?_, fun id b hl => ?_, fun id id' b b' hl hl' e => ?_, fun id b hl => ?_⟩
    · show μ (kap io id) = _
      rw [kap_lo hi]; exact sat.low id hi
    · obtain ⟨i, rfl, hi, hb⟩ := hlook id b hl
      obtain ⟨a, ba, h1, h2, h3, h4⟩ := hpre i b hb
      refine (blk_rel h4).1 ?_
      rw [h2]; exact sat.blk _ _ h3
    · obtain ⟨i, rfl, hi, hb⟩ := hlook id b hl
      obtain ⟨i', rfl, hi', hb'⟩ := hlook id' b' hl'
      obtain ⟨a, ba, h1, h2, h3, h4⟩ := hpre i b hb
      obtain ⟨a', ba', h1', h2', h3', h4'⟩ := hpre i' b' hb'
      simp only [h2, h2'] at e
      have := sat.inj _ _ _ _ h3 h3' e
      subst this
      obtain ⟨q1, q2⟩ := List.getElem?_eq_some_iff.1 h1
      obtain ⟨q1', q2'⟩ := List.getElem?_eq_some_iff.1 h1'
      have := (List.getElem_inj (h₀ := q1) (h₁ := q1') nd).1 (by rw [q2, q2'])
      omega
    · obtain ⟨i, rfl, hi, hb⟩ := hlook id b hl
      obtain ⟨a, ba, h1, h2, h3, h4⟩ := hpre i b hb
      simp only [h2]
      exact sat.lo _ _ h3
  have hargs : args.map (ren μ) = argsc.map (ren μc) := by
    have := v1.rel t
    rw [← et] at this
    rw [this μ, hμc]
  rw [hargs]
  refine (hent hstp (fun v hv => (v1.st v hv).mono (Upto.mono (by omega))) lo μc w satc hlo).mono fun en w' p => ?_
  obtain ⟨μc', gc, stv, rfl⟩ := p
  -- the new renaming
  have hsn : (hpSaid pre s).next = 1000 + k + m := by rw [hpSaid_next, hk, hmm]
  obtain ⟨μ', hμ'⟩ : ∃ μ' : Mu, μ' = fun id => if h.next ≤ id ∧ id < h.next + m then μc' (1000 + k + (id - h.next)) else μ id := ⟨_, rfl⟩
  have hμf : ∀ id, h.next ≤ id ∧ id < h.next + m → μ' id = μc' (1000 + k + (id - h.next)) := fun id hi => by rw [hμ']; exact if_pos hi
  have hμo : ∀ id, ¬ (h.next ≤ id ∧ id < h.next + m) → μ' id = μ id := fun id hi => by rw [hμ']; exact if_neg hi
  obtain ⟨κ, hκ⟩ : ∃ κ, κ = kapN io k h.next := ⟨_, rfl⟩
  have hκo : ∀ id, id < 1000 + k → κ id = kap io id := fun id hi => by
    rw [hκ]; unfold kapN; rw [ite'_eq, if_pos (by rw [blt_eq]; exact hi)]
  have hκf : ∀ j, κ (1000 + k + j) = h.next + j := fun j => by
    rw [hκ]; unfold kapN; rw [ite'_eq, if_neg (by rw [blt_eq]; show ¬ _ < 1000 + k; omega)]
    show h.next + (1000 + k + j - (1000 + k)) = _
    omega
  have hmemlt : ∀ a, a ∈ io → a < h.next := fun a ha => by
    obtain ⟨ba, hb⟩ := hmem a ha
    exact ok.lt hb
  have hkold : ∀ id, id < 1000 + k → kap io id < h.next ∧ ¬ U (kap io id) := fun id hi => by
    rcases Nat.lt_or_ge id 1000 with h1 | h1
    · rw [kap_lo h1]
      have h2 := ok.nx
      exact ⟨by omega, fun hu => by have := (ok.unk _ hu).1; omega⟩
    · obtain ⟨i, rfl⟩ : ∃ i, id = 1000 + i := ⟨id - 1000, by omega⟩
      have hi' : i < io.length := by omega
      obtain ⟨_, ba, _, h2, h3, _⟩ := hio i _ (List.getElem?_eq_getElem hi')
      rw [h2]; exact ok.vis h3
  have hag : ∀ id, id < 1000 + k → μc' id = μ (kap io id) := fun id hi => by
    rw [gc.post.agree id fun hf => by have := hf.1; rw [hpOf_next] at this; omega, hμc]
  have hall : ∀ id, id < 1000 + k + m → μ' (κ id) = μc' id := fun id hi => by
    rcases Nat.lt_or_ge id (1000 + k) with h1 | h1
    · rw [hκo id h1, hag id h1]
      exact hμo _ fun hc => by have := (hkold id h1).1; omega
    · obtain ⟨j, rfl⟩ : ∃ j, id = 1000 + k + j := ⟨id - (1000 + k), by omega⟩
      rw [hκf, hμf _ (by omega), show h.next + j - h.next = j from by omega]
  have hvis' : ∀ id, id < 1000 + k + m → κ id < h.next + m ∧ ¬ U (κ id) := fun id hi => by
    rcases Nat.lt_or_ge id (1000 + k) with h1 | h1
    · rw [hκo id h1]
      have := hkold id h1
      exact ⟨by omega, this.2⟩
    · obtain ⟨j, rfl⟩ : ∃ j, id = 1000 + k + j := ⟨id - (1000 + k), by omega⟩
      rw [hκf]
      exact ⟨by omega, fun hu => by have := (ok.unk _ hu).2.1; omega⟩
  -- the new heap
  obtain ⟨h', hh'⟩ : ∃ h', h' = newHp h io s := ⟨_, rfl⟩
  rw [show kapN io io.length h.next = κ from by rw [hκ, hlk], ← hh']
  have hnext : h'.next = h.next + m := by
    rw [hh']; show Nat.add h.next (lenL s.new) = _
    rw [lenL_eq, hmm]; rfl
  have hhid : h'.hid = h.hid := by rw [hh']; rfl
  have hmw : h'.mw = minL (dropL io s.j) h.mw := by rw [hh']; rfl
  have hget : ∀ id, h'.m.get id = if h.next ≤ id ∧ id < h.next + m then (s.new[id - h.next]?).map (ridB κ) else (putAt (io.drop s.j) (s.tail.map fun b => b.map (ridB κ)) h.m).get id := fun id => by
    rw [hh']
    show (putL (mapL (fun b => some (ridB (kapN io (lenL io) h.next) b)) s.new) h.next (putAt (dropL io s.j) (mapL (omap (ridB (kapN io (lenL io) h.next))) s.tail) h.m)).get id = _
    rw [lenL_eq, hlk, ← hκ, putL_get, mapL_eq, mapL_eq, dropL_eq, List.length_map, ← hmm]
    have e1 : ∀ i, ((s.new.map fun b => some (ridB κ b)).getD i none) = (s.new[i]?).map (ridB κ) := fun i => by
      rw [List.getD_eq_getElem?_getD, List.getElem?_map]
      cases s.new[i]? <;> rfl
    have e2 : s.tail.map (omap (ridB κ)) = s.tail.map fun b => b.map (ridB κ) := List.map_congr_left fun b _ => omap_eq _ _
    rw [e1, e2]
  have hdl : (io.drop s.j).length = (s.tail.map fun b => b.map (ridB κ)).length := by simp; omega
  have hdn : (io.drop s.j).Nodup := nd.sublist (List.drop_sublist _ _)
  have hnh : ∀ id, h.next ≤ id → hidden id h.hid = false := fun id hi => hidden_above ok.down hi
  -- what is seen there
  have lookF : ∀ j, j < m → h'.look (h.next + j) = (s.new[j]?).map (ridB κ) := fun j hj' => by
    rw [look_of (by rw [hhid]; exact hnh _ (by omega)), hget, if_pos (by omega), show h.next + j - h.next = j from by omega]
  have lookT : ∀ i a, io[i]? = some a → s.j ≤ i → h'.look a = (s.tail[i - s.j]?).bind fun b => b.map (ridB κ) := fun i a ha hi => by
    obtain ⟨_, ba, _, _, h3, _⟩ := hio i a ha
    have hlt := ok.lt h3
    rw [look_of (by rw [hhid]; exact (look_vis h3).1), hget, if_neg (by omega)]
    have := (putAt_get (io.drop s.j) (s.tail.map fun b => b.map (ridB κ)) h.m a hdl hdn).1 (i - s.j) (by rw [List.getElem?_drop, show s.j + (i - s.j) = i from by omega]; exact ha)
    rw [this, List.getD_eq_getElem?_getD, List.getElem?_map]
    cases s.tail[i - s.j]? <;> rfl
  have lookC : ∀ id, ¬ (h.next ≤ id ∧ id < h.next + m) → id ∉ io.drop s.j → h'.look id = h.look id := fun id h1 h2 => by
    rw [look_eq, look_eq, hhid, hget, if_neg h1, (putAt_get _ _ h.m id hdl hdn).2 h2]
  have notdrop : ∀ i a, io[i]? = some a → i < s.j → a ∉ io.drop s.j := fun i a ha hi hc => by
    obtain ⟨i', hi', e⟩ := List.mem_iff_getElem.1 hc
    rw [List.getElem_drop] at e
    obtain ⟨q1, q2⟩ := List.getElem?_eq_some_iff.1 ha
    have := (List.getElem_inj (h₀ := by simp at hi'; omega) (h₁ := q1) nd).1 (e.trans q2.symm)
    omega
  have saidL := fun id => hpSaid_look (pre := pre) (s := s) hj id
  -- canonical blocks
  have canF : ∀ j b, s.new[j]? = some b → (hpSaid pre s).look (1000 + k + j) = some b := fun j b hb => by
    have hjm : j < s.new.length := by
      rcases Nat.lt_or_ge j s.new.length with h | h
      · exact h
      · rw [List.getElem?_eq_none h] at hb; cases hb
    rw [saidL, if_pos (by omega), show 1000 + k + j - (1000 + pre.length) = j from by omega, hb]
  have canT : ∀ i b, s.j ≤ i → i < k → s.tail[i - s.j]? = some (some b) → (hpSaid pre s).look (1000 + i) = some b := fun i b h1 h2 hb => by
    rw [saidL, if_neg (by omega), if_pos (by omega), show 1000 + i - (1000 + s.j) = i - s.j from by omega, List.getD_eq_getElem?_getD, hb]; rfl
  have canO : ∀ i b, i < s.j → pre[i]? = some b → (hpSaid pre s).look (1000 + i) = some b := fun i b h1 hb => by
    rw [saidL, if_neg (by omega), if_neg (by omega), if_pos (by omega), show 1000 + i - 1000 = i from by omega, hb]
  have upm : ∀ id, Vis NoIds (hpSaid pre s) id → id < 1000 + k + m := fun id hi => by rw [vis_no, hsn] at hi; exact hi
  -- a renamed block lies there
  have lies : ∀ idc b, idc < 1000 + k + m → (hpSaid pre s).look idc = some b → isRM b = true → BlkOk P w' μ' (κ idc) (ridB κ b) ∧ StB (Vis U h') (ridB κ b) := fun idc b hi hl hr => by
    have st := gc.ok.st idc b hl
    refine ⟨(blk_rel (rm_rel κ hr)).2 ?_, rm_st hr st fun id hid => ?_⟩
    · exact (gc.sat.blk idc b hl).move st (fun i hi => hall i (upm i hi)) (hall idc hi) rfl
    · have := hvis' id (upm id hid)
      exact ⟨by rw [hnext]; exact this.1, this.2⟩
  have F_iff : ∀ id, Fresh h h' id ↔ h.next ≤ id ∧ id < h.next + m := fun id => by unfold Fresh; rw [hnext]
  -- everything that the call's numbers show
  have cov : ∀ id b, (id ∈ io ∨ Fresh h h' id) → h'.look id = some b → ∃ idc bc, 1000 ≤ idc ∧ idc < 1000 + k + m ∧ κ idc = id ∧ (hpSaid pre s).look idc = some bc ∧ BlkOk P w' μ' id b ∧ StB (Vis U h') b ∧ (Fresh h h' id → 1000 + k ≤ idc) := by
    intro id b hc hl
    by_cases hf : Fresh h h' id
    · have hf' := (F_iff id).1 hf
      obtain ⟨j, rfl⟩ : ∃ j, id = h.next + j := ⟨id - h.next, by omega⟩
      rw [lookF j (by omega)] at hl
      obtain ⟨bc, h1, rfl⟩ := Option.map_eq_some_iff.1 hl
      have hcl := canF j bc h1
      obtain ⟨q1, q2⟩ := lies _ bc (by omega) hcl (hrm1 bc (List.mem_of_getElem? h1))
      rw [hκf] at q1
      exact ⟨_, bc, by omega, by omega, hκf j, hcl, q1, q2, fun _ => by omega⟩
    · have hm' := hc.resolve_right hf
      obtain ⟨i, hi, ei⟩ := List.mem_iff_getElem.1 hm'
      have hi2 : io[i]? = some id := by rw [List.getElem?_eq_getElem hi, ei]
      obtain ⟨bp, ba, h1, h2, h3, h4⟩ := hio i id hi2
      have hkk : κ (1000 + i) = id := by rw [hκo _ (by omega), h2]
      rcases Nat.lt_or_ge i s.j with hij | hij
      · rw [lookC id (fun h => hf ((F_iff id).2 h)) (notdrop i id hi2 hij), h3] at hl
        cases hl
        have hcl := canO i bp hij h1
        refine ⟨1000 + i, bp, by omega, by omega, hkk, hcl, ?_, (ok.st _ _ h3).mono fun i hi => ⟨by rw [hnext]; have := hi.1; omega, hi.2⟩, fun hf' => absurd hf' hf⟩
        have stp := hstp bp (List.mem_of_getElem? h1)
        rw [← h2]
        refine (blk_rel h4).2 ?_
        refine (gc.sat.blk _ bp hcl).move stp (fun i hi => ?_) ?_ rfl
        · have hi' : i < 1000 + k := by unfold Upto at hi; omega
          have := hall i (by omega)
          rwa [hκo i hi'] at this
        · have := hall (1000 + i) (by omega)
          rwa [hκo _ (by omega)] at this
      · rw [lookT i id hi2 hij] at hl
        obtain ⟨bo, h5, h6⟩ := Option.bind_eq_some_iff.1 hl
        obtain ⟨bc, h7, rfl⟩ := Option.map_eq_some_iff.1 h6
        subst h7
        have hcl := canT i bc hij (by omega) h5
        obtain ⟨q1, q2⟩ := lies _ bc (by omega) hcl (hrm2 _ (List.mem_of_getElem? h5))
        rw [hkk] at q1
        exact ⟨_, bc, by omega, by omega, hkk, hcl, q1, q2, fun hf' => absurd hf' hf⟩
  have iomem : ∀ id, id ∈ io → ¬ Fresh h h' id := fun id hi hf => by
    have := hmemlt id hi
    have := hf.1; omega
  obtain ⟨lookS, hlS⟩ : ∃ lookS : Look, lookS = fun id => if id ∈ io then h.look id else none := ⟨_, rfl⟩
  obtain ⟨lookS', hlS'⟩ : ∃ lookS' : Look, lookS' = fun id => if id ∈ io ∨ Fresh h h' id then h'.look id else none := ⟨_, rfl⟩
  have lS : ∀ id b, lookS id = some b → id ∈ io ∧ h.look id = some b := fun id b hl => by
    rw [hlS] at hl; simp only at hl
    split at hl
    · exact ⟨‹_›, hl⟩
    · cases hl
  have lS' : ∀ id b, lookS' id = some b → (id ∈ io ∨ Fresh h h' id) ∧ h'.look id = some b := fun id b hl => by
    rw [hlS'] at hl; simp only at hl
    split at hl
    · exact ⟨‹_›, hl⟩
    · cases hl
  have small : Post P lo (Fresh h h') (fun id => ∃ i, io[i]? = some id ∧ s.j ≤ i) μ μ' lookS lookS' w w' := by
    refine ⟨fun id hn => hμo id fun h => hn ((F_iff id).2 h), ⟨fun id hi => ?_, fun id b hl => ?_, fun id id' b b' hl hl' e => ?_, fun id b hl => ?_⟩, fun id hf hw => ?_, fun id b hf hl => ?_, gc.post.size, fun b hb hn => ?_, fun id b hf hl => ?_, gc.post.os, gc.post.tape, gc.post.output⟩
    · rw [hμo id fun hc => by have := ok.nx; omega]; exact sat.low id hi
    · obtain ⟨h1, h2⟩ := lS' id b hl
      obtain ⟨_, _, _, _, _, _, h3, _⟩ := cov id b h1 h2
      exact h3
    · obtain ⟨h1, h2⟩ := lS' id b hl
      obtain ⟨h1', h2'⟩ := lS' id' b' hl'
      obtain ⟨ic, bc, _, l1, e1, c1, _⟩ := cov id b h1 h2
      obtain ⟨ic', bc', _, l1', e1', c1', _⟩ := cov id' b' h1' h2'
      rw [← e1, ← e1', hall ic l1, hall ic' l1'] at e
      have := gc.sat.inj _ _ _ _ c1 c1' e
      rw [← e1, ← e1', this]
    · obtain ⟨h1, h2⟩ := lS' id b hl
      obtain ⟨ic, bc, _, l1, e1, c1, _⟩ := cov id b h1 h2
      rw [← e1, hall ic l1]
      exact gc.sat.lo _ _ c1
    · rw [hlS, hlS']
      show (if id ∈ io ∨ Fresh h h' id then h'.look id else none) = if id ∈ io then h.look id else none
      by_cases hi : id ∈ io
      · obtain ⟨i, hi1, ei⟩ := List.mem_iff_getElem.1 hi
        have hi2 : io[i]? = some id := by rw [List.getElem?_eq_getElem hi1, ei]
        have hij : i < s.j := by
          rcases Nat.lt_or_ge i s.j with h | h
          · exact h
          · exact absurd ⟨i, hi2, h⟩ hw
        rw [if_pos hi, if_pos (show id ∈ io ∨ Fresh h h' id from .inl hi)]
        exact lookC id (fun h => hf ((F_iff id).2 h)) (notdrop i id hi2 hij)
      · rw [if_neg hi, if_neg (show ¬ (id ∈ io ∨ Fresh h h' id) from by rintro (h | h); exact hi h; exact hf h)]
    · obtain ⟨h1, h2⟩ := lS' id b hl
      have hi := h1.resolve_right hf
      obtain ⟨ba, hba⟩ := hmem id hi
      exact ⟨ba, by rw [hlS]; simp only; rw [if_pos hi, hba]⟩
    · refine gc.post.frame b hb fun id blk hw hl => ?_
      obtain ⟨i, rfl, hi, hb'⟩ := hlook id blk hl
      obtain ⟨a, ba, h1, h2, h3, _⟩ := hpre i blk hb'
      have hji : s.j ≤ i := by unfold Wr at hw; rw [hpSaid_mw] at hw; omega
      have := hn a ba ⟨i, h1, hji⟩ (by rw [hlS]; simp only; rw [if_pos (List.mem_of_getElem? h1), h3])
      rw [hμc]; simp only [h2]; exact this
    · obtain ⟨h1, h2⟩ := lS' id b hl
      obtain ⟨ic, bc, _, l1, e1, c1, _, _, hge⟩ := cov id b h1 h2
      rw [← e1, hall ic l1]
      rcases gc.post.fresh ic bc ⟨by rw [hpOf_next]; have := hge hf; omega, by rw [hsn]; exact l1⟩ c1 with h | ⟨id0, b0, h3, h4, h5⟩
      · exact .inl h
      · obtain ⟨i, rfl, hi, hb'⟩ := hlook id0 b0 h4
        obtain ⟨a, ba, k1, k2, k3, _⟩ := hpre i b0 hb'
        refine .inr ⟨a, ba, ⟨i, k1, by unfold Wr at h3; rw [hpSaid_mw] at h3; omega⟩, by rw [hlS]; simp only; rw [if_pos (List.mem_of_getElem? k1), k3], ?_⟩
        rw [hμc] at h5; simp only [k2] at h5; exact h5
  have big := small.framed (S := Vis U h) sat (fun id b hl => (lS id b hl).2) (fun id hf => by
      cases hx : h.look id with
      | none => rfl
      | some b => have := ok.lt hx; have := hf.1; omega) (fun id hv hf => by have := hv.1; have := hf.1; omega) (fun id b hl _ => ok.st id b hl)
  have hbes : besides (Fresh h h') lookS lookS' h.look = h'.look := by
    funext id
    unfold besides
    split
    · rename_i hc
      have : id ∈ io ∨ Fresh h h' id := by
        rcases hc with hc | hc
        · exact .inr hc
        · obtain ⟨x, hx⟩ := Option.isSome_iff_exists.1 hc
          exact .inl (lS id x hx).1
      rw [hlS']; simp only; rw [if_pos this]
    · rename_i hc
      rw [not_or] at hc
      have hni : id ∉ io := fun hi => by
        obtain ⟨ba, hba⟩ := hmem id hi
        exact hc.2 (by rw [hlS]; simp only; rw [if_pos hi, hba]; rfl)
      exact (lookC id (fun h => hc.1 ((F_iff id).2 h)) (fun h => hni (List.mem_of_mem_drop h))).symm
  rw [hbes] at big
  have hwr : ∀ id, (∃ i, io[i]? = some id ∧ s.j ≤ i) → Wr h' id := fun id ⟨i, h1, h2⟩ => by
    unfold Wr
    rw [hmw, dropL_eq]
    refine minL_le.2 id ?_
    refine List.mem_of_getElem? (i := i - s.j) ?_
    rw [List.getElem?_drop, show s.j + (i - s.j) = i from by omega, h1]
  refine ⟨μ', ⟨⟨by rw [hnext]; omega, by rw [hmw]; exact minL_le.1, hhid, fun id hi hh => ?_, ⟨by rw [hnext]; have := ok.nx; omega, fun id hi => ?_, by rw [hhid, hnext]; exact ok.down.mono (by omega), fun id b hl => ?_, fun id hu => ?_⟩⟩, big.mono (fun _ h => h) (fun id h => hwr id h.1) (fun id b hf hn => absurd hf hn)⟩, ?_, ?_⟩
  · have hni : id ∉ io := fun hi' => by
      obtain ⟨ba, hba⟩ := hmem id hi'
      rw [(look_vis hba).1] at hh; cases hh
    rw [hget, if_neg (by omega), (putAt_get _ _ h.m id hdl hdn).2 fun h => hni (List.mem_of_mem_drop h)]
  · rw [hnext] at hi
    have hni : id ∉ io := fun hi' => by have := hmemlt id hi'; omega
    rw [hget, if_neg (by omega), (putAt_get _ _ h.m id hdl hdn).2 fun h => hni (List.mem_of_mem_drop h)]
    exact ok.top id (by omega)
  · by_cases hc : id ∈ io ∨ Fresh h h' id
    · obtain ⟨_, _, _, _, _, _, _, h3, _⟩ := cov id b hc hl
      exact h3
    · rw [not_or] at hc
      rw [lookC id (fun h => hc.2 ((F_iff id).2 h)) (fun h => hc.1 (List.mem_of_mem_drop h))] at hl
      exact (ok.st id b hl).mono fun i hi => ⟨by rw [hnext]; have := hi.1; omega, hi.2⟩
  · have := ok.unk id hu
    exact ⟨this.1, by rw [hnext]; omega, by rw [hhid]; exact this.2.2⟩
  · refine stv.rid fun id hi => ?_
    have := hvis' id (upm id hi)
    exact ⟨by rw [hnext]; exact this.1, this.2⟩
  · rw [ren_rid]
    have := stv (fun id => μ' (κ id)) μc' fun id hi => hall id (upm id hi)
    rw [this]

end
end Go.Ev
