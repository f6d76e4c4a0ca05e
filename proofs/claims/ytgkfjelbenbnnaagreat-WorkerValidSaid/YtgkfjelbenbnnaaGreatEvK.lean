import Derived.Test.YtgkfjelbenbnnaaGreatEvJ
namespace Go.Ev
set_option linter.unusedVariables false
set_option linter.unusedSimpArgs false
variable {U : Ids}

/-! Operators. -/

theorem wrap_u (k : IntKind) (hk : k.signed = false) (n : Nat) : k.wrap (.ofNat n) = .ofNat (n % 2 ^ k.bits) := by
  unfold IntKind.wrap
  rw [hk]
  simp
theorem wrap_i64 (n : Nat) (h : n ≤ 9223372036854775807) : IntKind.i64.wrap (.ofNat n) = .ofNat n := by
  unfold IntKind.wrap
  simp only [show IntKind.i64.bits = 64 from rfl, show IntKind.i64.signed = true from rfl]
  have : (Int.ofNat n) % (2 ^ 64 : Int) = Int.ofNat n := Int.emod_eq_of_lt (Int.natCast_nonneg n) (by simp; omega)
  rw [this, if_neg]
  simp; omega
theorem wrapN_eq (k : IntKind) (n : Nat) : wrapN k n = k.wrap (.ofNat n) := by
  cases k
  case i64 =>
    show ite' (Nat.ble n 9223372036854775807) (Int.ofNat n) _ = _
    rw [ite'_eq]
    split
    · rename_i hc; rw [wrap_i64 n (ble_eq.1 hc)]
    · rfl
  case u8 => exact (wrap_u .u8 rfl n).symm
  case u32 => exact (wrap_u .u32 rfl n).symm
  case u64 => exact (wrap_u .u64 rfl n).symm
  all_goals rfl
theorem wrapI_eq (k : IntKind) (n : Int) : wrapI k n = k.wrap n := by
  cases n with
  | ofNat n => exact wrapN_eq k n
  | negSucc n => rfl

theorem natsB_eq {f : Nat → Nat → Bool} {g : Int → Int → Bool} (h : ∀ a b, f a b = g (.ofNat a) (.ofNat b)) (a b : Int) : natsB f g a b = g a b := by
  cases a <;> cases b <;> first | exact h _ _ | rfl

theorem kindNo_inj {j k : IntKind} (h : kindNo j = kindNo k) : j = k := by
  cases j <;> cases k <;> first | rfl | (simp [kindNo] at h)
theorem sameKind_eq {j k : IntKind} (h : sameKind j k = true) : j = k := kindNo_inj (beq_eq.1 h)

section
variable {P : Program} {lo : Nat} {μ : Mu} {h : Hp} {w : World}

theorem eqGuard_int {op : BinOp} {t : TypeId} {x y : Operand} {j k : IntKind} {a b : Int} : (eqGuard op t x y (.int j a) (.int k b)).run P w = .ok () w := by
  unfold eqGuard
  cases op <;> rfl

theorem quick_ok {op : BinOp} {t : TypeId} {ox oy : Operand} {x y r : Value} (he : quick op x y = some r) :
    (do eqGuard op t ox oy (ren μ x) (ren μ y); binOp op t (ren μ x) (ren μ y) : Sem Value).run P w = .ok (ren μ r) w ∧ Stable (Vis U h) r := by
  unfold quick at he
  obtain ⟨⟨j, a⟩, h1, h2⟩ := ob_eq_some.1 he
  obtain ⟨⟨k, b⟩, h3, h4⟩ := ob_eq_some.1 h2
  rw [intOf_some] at h1 h3
  simp only at h1 h3 h4
  subst h1 h3
  obtain ⟨h5, h6⟩ := ite'_eq_some.1 h4
  have := sameKind_eq h5
  subst this
  rw [ren_int, ren_int, Sem.run_bind, eqGuard_int, Result.andThen_ok]
  cases op <;> simp only [quickInt, iNo, iAdd, iSub, iMul, iEql, iNeq, iLss, iLeq, iGtr, iGeq, bV] at h6 <;> cases h6 <;> refine ⟨?_, stable_closed rfl⟩
  · rw [wrapI_eq, ren_int]; simp [binOp, Op.intArith]; try rfl
  · rw [wrapI_eq, ren_int]; simp [binOp, Op.intArith]; try rfl
  · rw [wrapI_eq, ren_int]; simp [binOp, Op.intArith]; try rfl
  · rw [natsB_eq (fun a b => ?_)]
    · rw [ren_bool]; simp [binOp, Op.intCmp]
    · rw [Bool.eq_iff_iff, beq_eq]; simp <;> omega
  · rw [natsB_eq (fun a b => ?_)]
    · rw [ren_bool]; simp [binOp, Op.intCmp]
    · rw [Bool.eq_iff_iff, Bool.not_eq_true', beq_ne]; simp <;> omega
  · rw [natsB_eq (fun a b => ?_)]
    · rw [ren_bool]; simp [binOp, Op.intCmp]
    · rw [Bool.eq_iff_iff, blt_eq]; simp
  · rw [natsB_eq (fun a b => ?_)]
    · rw [ren_bool]; simp [binOp, Op.intCmp]
    · rw [Bool.eq_iff_iff, ble_eq]; simp
  · rw [natsB_eq (fun a b => ?_)]
    · rw [ren_bool]; simp [binOp, Op.intCmp]
    · rw [Bool.eq_iff_iff, blt_eq]; simp
  · rw [natsB_eq (fun a b => ?_)]
    · rw [ren_bool]; simp [binOp, Op.intCmp]
    · rw [Bool.eq_iff_iff, ble_eq]; simp

theorem slow_ok {f : Fr} {op : BinOp} {t : TypeId} {ox oy : Operand} {r : Value} (he : slowBin P f op t ox oy = some r) :
    (do eqGuard op t ox oy (ren μ (f.eval ox)) (ren μ (f.eval oy)); binOp op t (ren μ (f.eval ox)) (ren μ (f.eval oy)) : Sem Value).run P w = .ok (ren μ r) w ∧ Stable (Vis U h) r := by
  unfold slowBin at he
  obtain ⟨h1, h2⟩ := ite'_eq_some.1 he
  obtain ⟨h3, h4⟩ := ite'_eq_some.1 h2
  obtain ⟨v, h5, h6⟩ := ob_eq_some.1 h4
  obtain ⟨h7, h8⟩ := ite'_eq_some.1 h6
  cases h8
  rw [ren_closedA h1, ren_closedA h3, ren_closed h7]
  exact ⟨pureRun_ok h5 w, stable_closed h7⟩

theorem run_equal_nil {t : TypeId} {d : TypeDesc} {x y : Value} {b : Bool} (hd : P.underlying t = some d) (he : nilEq d x y = some b) : (Op.equal t (ren μ x) (ren μ y)).run P w = .ok b w := by
  unfold Op.equal
  rw [show Op.maxDepth = 9999 + 1 from rfl]
  unfold Op.equalIn
  rw [Sem.run_bind, run_underlying hd, Result.andThen_ok]
  unfold nilEq at he
  split at he <;> cases he
  · rename_i b n c
    cases b <;> rfl
  · rename_i b n c n' c' _
    cases b <;> rfl
  · rename_i b
    cases b <;> rfl
  · rename_i b _
    cases b <;> rfl
  · rename_i f a b; obtain ⟨a⟩ := a; obtain ⟨b⟩ := b; rfl
  · rename_i f a b; obtain ⟨a⟩ := a; obtain ⟨b⟩ := b; rfl
  · rfl
  · rfl
  · rename_i b
    cases b <;> rfl
  · rename_i b _
    cases b <;> rfl

theorem nil_ok {op : BinOp} {t : TypeId} {ox oy : Operand} {x y r : Value} (he : nilBin P op t x y = some r) :
    (do eqGuard op t ox oy (ren μ x) (ren μ y); binOp op t (ren μ x) (ren μ y) : Sem Value).run P w = .ok (ren μ r) w ∧ Stable (Vis U h) r := by
  have guard : ∀ {d b}, nilEq d x y = some b → (eqGuard op t ox oy (ren μ x) (ren μ y)).run P w = .ok () w := by
    intro d b hb
    unfold nilEq at hb
    split at hb <;> cases hb <;> unfold eqGuard
    · rename_i b n c; cases b <;> cases op <;> rfl
    · rename_i b n c n' c' _; cases b <;> cases op <;> rfl
    · rename_i b; cases b <;> cases op <;> rfl
    · rename_i b _; cases b <;> cases op <;> rfl
    · rename_i f a b; obtain ⟨a⟩ := a; obtain ⟨b⟩ := b; cases op <;> rfl
    · rename_i f a b; obtain ⟨a⟩ := a; obtain ⟨b⟩ := b; cases op <;> rfl
    · cases op <;> rfl
    · cases op <;> rfl
    · rename_i b; cases b <;> cases op <;> rfl
    · rename_i b _; cases b <;> cases op <;> rfl
  have bin : ∀ {d b}, nilEq d x y = some b → binOp .eql t (ren μ x) (ren μ y) = (do pure (.bool (← Op.equal t (ren μ x) (ren μ y)))) ∧ binOp .neq t (ren μ x) (ren μ y) = (do pure (.bool (!(← Op.equal t (ren μ x) (ren μ y))))) := by
    intro d b hb
    unfold nilEq at hb
    split at hb <;> cases hb
    · rename_i b n c; cases b <;> exact ⟨rfl, rfl⟩
    · rename_i b n c n' c' _; cases b <;> exact ⟨rfl, rfl⟩
    · rename_i b; cases b <;> exact ⟨rfl, rfl⟩
    · rename_i b _; cases b <;> exact ⟨rfl, rfl⟩
    · rename_i f a b; obtain ⟨a⟩ := a; obtain ⟨b⟩ := b; exact ⟨rfl, rfl⟩
    · rename_i f a b; obtain ⟨a⟩ := a; obtain ⟨b⟩ := b; exact ⟨rfl, rfl⟩
    · exact ⟨rfl, rfl⟩
    · exact ⟨rfl, rfl⟩
    · rename_i b; cases b <;> exact ⟨rfl, rfl⟩
    · rename_i b _; cases b <;> exact ⟨rfl, rfl⟩
  cases op <;> simp only [nilBin] at he <;> try cases he
  · obtain ⟨d, h1, h2⟩ := ob_eq_some.1 he
    obtain ⟨b, h3, h4⟩ := om_eq_some.1 h2
    subst h4
    refine ⟨?_, stable_closed rfl⟩
    rw [Sem.run_bind, guard h3, Result.andThen_ok, (bin h3).1]
    simp [run_equal_nil h1 h3, bV]
  · obtain ⟨d, h1, h2⟩ := ob_eq_some.1 he
    obtain ⟨b, h3, h4⟩ := om_eq_some.1 h2
    subst h4
    refine ⟨?_, stable_closed rfl⟩
    rw [Sem.run_bind, guard h3, Result.andThen_ok, (bin h3).2]
    simp [run_equal_nil h1 h3, bV]

theorem orElse_some {α : Type} {x y : Option α} {r : α} (he : orElse x y = some r) : x = some r ∨ y = some r := by
  cases x with
  | none => exact .inr he
  | some a => exact .inl he

theorem bin_ok {f : Fr} {op : BinOp} {t : TypeId} {ox oy : Operand} {r : Value} (he : evBin P f op t ox oy = some r) :
    (do eqGuard op t ox oy (ren μ (f.eval ox)) (ren μ (f.eval oy)); binOp op t (ren μ (f.eval ox)) (ren μ (f.eval oy)) : Sem Value).run P w = .ok (ren μ r) w ∧ Stable (Vis U h) r := by
  unfold evBin at he
  rcases orElse_some he with h1 | h1
  · exact quick_ok h1
  · rcases orElse_some h1 with h2 | h2
    · exact slow_ok h2
    · exact nil_ok h2

theorem bytes_loop {g : Value → ByteArray → Sem (ForInStep ByteArray)} (hg : ∀ n s, g (.int .u8 n) s = pure (ForInStep.yield (s.push (UInt8.ofNat n.toNat))))
    (l : List Value) (bs : List UInt8) (hb : bytesOf l = some bs) (s0 : ByteArray) : (forIn l s0 g).run P w = .ok ⟨s0.data ++ bs.toArray⟩ w := by
  induction l generalizing bs s0 with
  | nil => cases hb; simp
  | cons v l ih =>
    unfold bytesOf at hb
    split at hb
    · rename_i e; cases e
    · rename_i n r e
      cases e
      obtain ⟨bs', h1, h2⟩ := om_eq_some.1 hb
      subst h2
      rw [List.forIn_cons, hg]
      simp only [Sem.run_bind, Sem.run_pure, Result.andThen_ok]
      rw [ih bs' h1]
      congr 1
      cases s0
      simp [ByteArray.push]
    · cases hb

theorem bytes_ren {l : List Value} {bs : List UInt8} (hb : bytesOf l = some bs) : l.map (ren μ) = l := by
  induction l generalizing bs with
  | nil => rfl
  | cons v l ih =>
    unfold bytesOf at hb
    split at hb
    · rename_i e; cases e
    · rename_i n r e
      cases e
      obtain ⟨bs', h1, h2⟩ := om_eq_some.1 hb
      rw [List.map_cons, ih h1, ren_int]
    · cases hb

theorem run_bytes {a : Option Addr} {n c : Nat} {l : List Value} {bs : List UInt8} (s : Sat P lo μ h.look w) (hl : baseCells h n a = some l) (hb : bytesOf l = some bs) :
    (Conv.bytesToString (ren μ (.slice a n c))).run P w = .ok (.string ⟨bs.toArray⟩) w := by
  have hr := bytes_ren (μ := μ) hb
  cases a with
  | none =>
    unfold baseCells at hl
    obtain ⟨h1, h2⟩ := ite'_eq_some.1 hl
    cases h2
    cases hb
    rfl
  | some a =>
    have hrun : (loadCells (renA μ a) n).run P w = .ok l.toArray w := by
      have hl : ite' (Nat.beq n 0) (some []) (rd h a n) = some l := hl
      rw [ite'_eq] at hl
      by_cases hn : n = 0
      · rw [if_pos (beq_eq.2 hn)] at hl
        cases hl
        subst hn
        exact run_loadCells_list (P := P) w (renA μ a) [] (by simp)
      · rw [if_neg (by rw [beq_eq]; exact hn)] at hl
        have := run_rd s hl
        rwa [hr] at this
    rw [ren_slice1]
    unfold Conv.bytesToString
    simp only [Sem.run_bind, hrun, Result.andThen_ok, List.forIn_toArray]
    rw [bytes_loop (fun _ _ => rfl) l bs hb ByteArray.empty]
    simp

theorem isU8_some {d : TypeDesc} (hd : isU8 d = true) : d = .int .u8 := by
  unfold isU8 at hd
  split at hd
  · rfl
  · cases hd

theorem conv_ok {a b : TypeId} {x r : Value} (s : Sat P lo μ h.look w) (he : evConv P h a b x = some r) : (convert a b (ren μ x)).run P w = .ok (ren μ r) w ∧ Stable (Vis U h) r := by
  unfold evConv at he
  obtain ⟨dd, h1, h2⟩ := ob_eq_some.1 he
  obtain ⟨sd, h3, h4⟩ := ob_eq_some.1 h2
  unfold convert
  rw [Sem.run_bind, run_underlying h3, Result.andThen_ok, Sem.run_bind, run_underlying h1, Result.andThen_ok]
  rcases orElse_some h4 with h5 | h5
  · unfold intTo at h5
    obtain ⟨⟨k, n⟩, h6, h7⟩ := ob_eq_some.1 h5
    rw [intOf_some] at h6
    simp only at h6
    subst h6
    cases dd <;> simp only [itNo, itInt] at h7 <;> cases h7
    refine ⟨?_, stable_closed rfl⟩
    rw [wrapI_eq, ren_int, ren_int]
    rfl
  · unfold evConvD at h5
    split at h5
    · rename_i e a n c
      obtain ⟨ed, h6, h7⟩ := ob_eq_some.1 h5
      obtain ⟨h8, h9⟩ := ite'_eq_some.1 h7
      have := isU8_some h8
      subst this
      obtain ⟨l, h10, h11⟩ := ob_eq_some.1 h9
      obtain ⟨bs, h12, h13⟩ := om_eq_some.1 h11
      subst h13
      refine ⟨?_, stable_closed rfl⟩
      have hb := run_bytes (c := c) s h10 h12
      rw [ren_string]
      rw [ren_slice] at hb ⊢
      simp only [Sem.run_bind, run_underlying h6, Result.andThen_ok]
      exact hb
    · cases h5

theorem args_ren {f : Fr} {ρ : Operand → Value} {l : Array Operand} (ha : ∀ x ∈ l, ρ x = ren μ (f.eval x)) : l.map ρ = ((argsOf f l).map (ren μ)).toArray := by
  unfold argsOf
  rw [mapL_eq]
  obtain ⟨l⟩ := l
  simp only [List.map_toArray, List.map_map]
  congr 1
  exact List.map_congr_left fun x hx => ha x (by simpa using hx)
theorem args_st {f : Fr} {l : Array Operand} (ha : ∀ x ∈ l, Stable (Vis U h) (f.eval x)) : ∀ v ∈ argsOf f l, Stable (Vis U h) v := by
  unfold argsOf
  rw [mapL_eq]
  intro v hv
  obtain ⟨x, hx, rfl⟩ := List.mem_map.1 hv
  exact ha x (by simpa using hx)
theorem args_mem {f : Fr} {l : Array Operand} {p : Value → Bool} (ha : allL p (argsOf f l) = true) : ∀ x ∈ l, p (f.eval x) = true := by
  unfold argsOf at ha
  rw [allL_eq, mapL_eq, List.all_eq_true] at ha
  intro x hx
  exact ha _ (List.mem_map.2 ⟨x, by simpa using hx, rfl⟩)

theorem closedRun_ok {f : Fr} {o : Oper} {ρ : Operand → Value} {r : Value} (hs : ∀ cs b, o.op ≠ .select cs b) (ha : ∀ x ∈ o.op.operands, ρ x = ren μ (f.eval x)) (he : closedRun P f o = some r) :
    (execOp ρ o).run P w = .ok (.value (ren μ r)) w ∧ Stable (Vis U h) r := by
  unfold closedRun at he
  obtain ⟨h1, h2⟩ := ite'_eq_some.1 he
  obtain ⟨v, h3, h4⟩ := ob_eq_some.1 h2
  obtain ⟨n, h5, h6⟩ := ob_eq_some.1 h3
  obtain ⟨h7, h8⟩ := ite'_eq_some.1 h4
  cases h8
  have hn := valueOf_some h6
  subst hn
  rw [execOp_congr o hs (ρ' := f.eval) fun x hx => by rw [ha x hx, ren_closed (args_mem h1 x hx)], ren_closed h7]
  exact ⟨pureRun_ok h5 w, stable_closed h7⟩

theorem builtin_ok {f : Fr} {b : Builtin} {c : Call} {ty : TypeId} {ρ : Operand → Value} {r : Value} (hc : c.callee = .builtin b) (ha : ∀ x ∈ c.args, ρ x = ren μ (f.eval x)) (he : evBuiltin P b c ty (argsOf f c.args) = some r) :
    (do let d ← resolve ρ c ty; invoke d.target d.args : Sem Next).run P w = .ok (.value (ren μ r)) w ∧ Stable (Vis U h) r := by
  unfold evBuiltin at he
  obtain ⟨h1, h2⟩ := ite'_eq_some.1 he
  obtain ⟨v, h3, h4⟩ := ob_eq_some.1 h2
  obtain ⟨n, h5, h6⟩ := ob_eq_some.1 h3
  obtain ⟨h7, h8⟩ := ite'_eq_some.1 h4
  cases h8
  have hn := valueOf_some h6
  subst hn
  rw [ren_closedA h7]
  refine ⟨?_, stable_closedA h7⟩
  unfold resolve
  rw [hc]
  simp only [Sem.run_bind, Sem.run_pure, Result.andThen_ok, invoke, args_ren ha]
  rw [ren_closedL h1]
  exact pureRun_ok h5 w

end
end Go.Ev
