/- Operations that only look, each. -/
import Derived.Test.YtmlgkojmbnjfbaaDoorA2
namespace Go.Proofs.YtmlgkojmbnjfbaaDoor.A
open Go

section
variable {P : Program} {T : Tab} {c : Cx}

theorem arith_sound {op : BinOp} {k : IntKind} {a b : Int} {K : AV → Prop} (h : arithA op k a b K) (t : TypeId) :
    ∃ z v, K z ∧ V T c z v ∧ ∀ (w : World) (px py : Operand), (do eqGuard op t px py (.int k a) (.int k b); binOp op t (.int k a) (.int k b)).run P w = .ok v w := by
  cases op <;> simp only [arithA] at h
  case add => exact ⟨_, _, h, .int _ _, fun w px py => by simp [eqGuard, binOp, Op.intArith]⟩
  case sub => exact ⟨_, _, h, .int _ _, fun w px py => by simp [eqGuard, binOp, Op.intArith]⟩
  case mul => exact ⟨_, _, h, .int _ _, fun w px py => by simp [eqGuard, binOp, Op.intArith]⟩
  case quo => exact ⟨_, _, h.2, .int _ _, fun w px py => by simp [eqGuard, binOp, Op.intDiv, h.1]⟩
  case rem => exact ⟨_, _, h.2, .int _ _, fun w px py => by simp [eqGuard, binOp, Op.intDiv, h.1]⟩
  case eql => exact ⟨_, _, h, .bool _, fun w px py => by simp [eqGuard, binOp, Op.intCmp]⟩
  case neq => exact ⟨_, _, h, .bool _, fun w px py => by simp [eqGuard, binOp, Op.intCmp]⟩
  case lss => exact ⟨_, _, h, .bool _, fun w px py => by simp [eqGuard, binOp, Op.intCmp]⟩
  case leq => exact ⟨_, _, h, .bool _, fun w px py => by simp [eqGuard, binOp, Op.intCmp]⟩
  case gtr => exact ⟨_, _, h, .bool _, fun w px py => by simp [eqGuard, binOp, Op.intCmp]⟩
  case geq => exact ⟨_, _, h, .bool _, fun w px py => by simp [eqGuard, binOp, Op.intCmp]⟩
  case and => exact ⟨_, _, h, .int _ _, fun w px py => by simp [eqGuard, binOp, Op.intBits, bitsV]⟩
  case or => exact ⟨_, _, h, .int _ _, fun w px py => by simp [eqGuard, binOp, Op.intBits, bitsV]⟩
  case xor => exact ⟨_, _, h, .int _ _, fun w px py => by simp [eqGuard, binOp, Op.intBits, bitsV]⟩
  case andNot => exact ⟨_, _, h, .int _ _, fun w px py => by simp [eqGuard, binOp, Op.intBits, bitsV]⟩

theorem equal_run (t : TypeId) : ∃ d, ∀ x y, Op.equal t x y = Op.equalIn (d + 1) t x y := ⟨9999, fun _ _ => rfl⟩

/-- The machine's == at a type. -/
theorem eql_sound (hT : TabOk P T) {t : TypeId} {x y : AV} {u v : Value} {b : Bool} (hx : V T c x u) (hy : V T c y v) (h : eqlA T t x y = some b) :
    (∀ w, (Op.equal t u v).run P w = .ok b w) ∧ ∀ op px py w, (eqGuard op t px py u v).run P w = .ok () w := by
  obtain ⟨d, he⟩ := equal_run t
  unfold eqlA at h
  cases hd : T.desc t with
  | int k => rw [hd] at h; cases h
  | slice e => rw [hd] at h; cases h
  | mp k e => rw [hd] at h; cases h
  | other => rw [hd] at h; cases h
  | bool =>
    rw [hd] at h
    have hu := hT.bool t hd
    simp only [eqB] at h
    split at h <;> cases h <;> cases hx <;> cases hy <;> exact ⟨fun w => by rw [he]; simp [Op.equalIn, run_underlying hu], fun op px py w => by cases op <;> simp [eqGuard]⟩
  | str =>
    rw [hd] at h
    have hu := hT.str t hd
    simp only [eqS] at h
    split at h <;> cases h <;> cases hx <;> cases hy <;> exact ⟨fun w => by rw [he]; simp [Op.equalIn, run_underlying hu], fun op px py w => by cases op <;> simp [eqGuard]⟩
  | iface =>
    rw [hd] at h
    obtain ⟨ms, hu⟩ := hT.iface t hd
    simp only [nilI] at h
    split at h <;> cases h <;> cases hx <;> cases hy <;> exact ⟨fun w => by rw [he]; simp [Op.equalIn, run_underlying hu], fun op px py w => by cases op <;> simp [eqGuard]⟩
  | func =>
    rw [hd] at h
    obtain ⟨_, _, _, hu⟩ := hT.func t hd
    simp only [nilF] at h
    split at h <;> cases h <;> cases hx <;> cases hy <;> exact ⟨fun w => by rw [he]; simp [Op.equalIn, run_underlying hu], fun op px py w => by cases op <;> simp [eqGuard]⟩
  | ptr e =>
    rw [hd] at h
    have hu := hT.ptr t e hd
    simp only [nilP] at h
    split at h <;> cases h <;> cases hx <;> cases hy <;> exact ⟨fun w => by rw [he]; simp [Op.equalIn, run_underlying hu], fun op px py w => by cases op <;> simp [eqGuard]⟩
  | struct fs =>
    rw [hd] at h
    simp only [] at h
    split at h
    · rename_i hq
      unfold eqG at h
      split at h
      · split at h
        · rename_i hfit
          rw [Bool.and_eq_true] at hfit
          cases hx with
          | agg _ us hl1 h1 => cases hy with
            | agg _ vs hl2 h2 =>
              have h3 := hT.eqs t _ hq c _ _ us vs b hfit.1 hfit.2 ⟨hl1, h1⟩ ⟨hl2, h2⟩ h
              exact ⟨fun w => (h3 w).1, fun op px py w => (h3 w).2 op px py⟩
        · cases h
      · cases h
    · cases h
  | arr n e =>
    rw [hd] at h
    simp only [] at h
    split at h
    · rename_i hq
      unfold eqG at h
      split at h
      · split at h
        · rename_i hfit
          rw [Bool.and_eq_true] at hfit
          cases hx with
          | agg _ us hl1 h1 => cases hy with
            | agg _ vs hl2 h2 =>
              have h3 := hT.eqs t _ hq c _ _ us vs b hfit.1 hfit.2 ⟨hl1, h1⟩ ⟨hl2, h2⟩ h
              exact ⟨fun w => (h3 w).1, fun op px py w => (h3 w).2 op px py⟩
        · cases h
      · cases h
    · cases h

/-- The values of which == is told are of one of these makes. -/
theorem binop_eql {t : TypeId} {x y : AV} {u v : Value} {b : Bool} (hx : V T c x u) (hy : V T c y v) (hq : eqlA T t x y = some b) (h1 : ∀ w, (Op.equal t u v).run P w = .ok b w) (w : World) :
    (binOp .eql t u v).run P w = .ok (.bool b) w ∧ (binOp .neq t u v).run P w = .ok (.bool !b) w := by
  have hw := h1 w
  unfold eqlA at hq
  split at hq
  · split at hq
    · unfold eqG at hq
      split at hq
      · split at hq
        · cases hx; cases hy; simp [binOp, hw]
        · cases hq
      · cases hq
    · cases hq
  · split at hq
    · unfold eqG at hq
      split at hq
      · split at hq
        · cases hx; cases hy; simp [binOp, hw]
        · cases hq
      · cases hq
    · cases hq
  · unfold eqB at hq
    split at hq
    · cases hx; cases hy; simp [binOp, hw]
    · cases hq
  · unfold eqS at hq
    split at hq
    · cases hq; cases hx; cases hy; simp [binOp, Op.stringOp, beq_toListBytes]
    · cases hq
  · unfold nilI at hq
    split at hq <;> first | (cases hx; cases hy; simp [binOp, hw]; done) | cases hq
  · unfold nilF at hq
    split at hq <;> first | (cases hx; cases hy; simp [binOp, hw]; done) | cases hq
  · unfold nilP at hq
    split at hq <;> first | (cases hx; cases hy; simp [binOp, hw]; done) | cases hq
  · cases hq

theorem bin_sound (hT : TabOk P T) {op : BinOp} {t : TypeId} {x y : AV} {u v : Value} {K : AV → Prop} (hx : V T c x u) (hy : V T c y v) (h : binA T op t x y K) :
    ∃ z r, K z ∧ V T c z r ∧ ∀ (w : World) (px py : Operand), (do eqGuard op t px py u v; binOp op t u v).run P w = .ok r w := by
  have other : otherA T op t x y K → ∃ z r, K z ∧ V T c z r ∧ ∀ (w : World) (px py : Operand), (do eqGuard op t px py u v; binOp op t u v).run P w = .ok r w := by
    intro h
    unfold otherA at h
    by_cases hadd : op = .add
    · subst hadd
      simp only at h
      split at h
      · cases hx
        cases hy
        rename_i a b _
        have hle : ¬ ((a.size + b.size : Nat) : Int) > IntKind.i64.max := by
          have h1 := h.1
          have h2 : IntKind.i64.max = 9223372036854775807 := by decide
          rw [h2]
          omega
        refine ⟨_, _, h.2, .str _, fun w px py => ?_⟩
        simp only [eqGuard, binOp, Op.stringOp]
        rw [if_neg hle]
        simp
      · exact h.elim
    cases hq : eqlA T t x y with
    | none => rw [hq] at h; cases op <;> first | exact h.elim | exact absurd rfl hadd
    | some b =>
      rw [hq] at h
      obtain ⟨h1, h2⟩ := eql_sound hT hx hy hq
      cases op
      case add => exact absurd rfl hadd
      case eql => exact ⟨_, _, h, .bool _, fun w px py => by rw [Sem.run_bind, h2]; simp [(binop_eql hx hy hq h1 w).1]⟩
      case neq => exact ⟨_, _, h, .bool _, fun w px py => by rw [Sem.run_bind, h2]; simp [(binop_eql hx hy hq h1 w).2]⟩
      all_goals exact h.elim
  cases x
  case int k a =>
    cases y
    case int k' b =>
      simp only [binA] at h
      split at h
      · cases hx
        cases hy
        refine ⟨_, _, h.2, .int _ _, fun w px py => ?_⟩
        have h0 : ¬ b < 0 := Int.not_lt.2 h.1
        simp [eqGuard, binOp, Op.shift, h0, shlV]
      · cases hx
        cases hy
        refine ⟨_, _, h.2, .int _ _, fun w px py => ?_⟩
        have h0 : ¬ b < 0 := Int.not_lt.2 h.1
        simp [eqGuard, binOp, Op.shift, h0, shrV]
      · cases hk : kindA k k' with
        | false => rw [hk] at h; exact h.elim
        | true =>
          rw [hk] at h
          cases hx
          cases hy
          cases kind_eq hk
          exact arith_sound h t
    all_goals exact other h
  all_goals exact other h
end
end Go.Proofs.YtmlgkojmbnjfbaaDoor.A
