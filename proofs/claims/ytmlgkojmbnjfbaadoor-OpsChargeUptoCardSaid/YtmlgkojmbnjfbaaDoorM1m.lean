/- entry.Move. -/
import Derived.Test.YtmlgkojmbnjfbaaDoorM1
namespace Go.Proofs.YtmlgkojmbnjfbaaDoor.A
open Go Q
/-- The entries by which an amount goes from one account to another one. -/
def moveM (al : List Acc) (from' to' n : Int) : Except Int (List Ent) :=
  if (ofN al.length from').2 = false ∨ (ofN al.length to').2 = false then .error 2
  else if from' = to' ∨ amountB n = false then .error 1
  else match al[from'.toNat]?, al[to'.toNat]? with
  | some a, some b =>
    if a.cur = b.cur then .ok [⟨from', -n⟩, ⟨to', n⟩]
    else if numK 1 a.cur < 0 ∨ numK 1 b.cur < 0 then .error 2
    else match convM n (rateN a.cur b.cur).1 (rateN a.cur b.cur).2 with
    | .error e => .error e
    | .ok g => if g.1 = 0 then .error 1 else .ok [⟨from', -n⟩, ⟨numK 1 a.cur, n⟩, ⟨numK 1 b.cur, -g.1⟩, ⟨to', g.1⟩]
  | _, _ => .error 0
def moveC0 (args : List AV) (bs : List Box) (K : AV → List Box → Prop) : Prop := bs = [] ∧ ∃ (al : List Acc) (x y n : Int), args = [accsA al, .int .i64 x, .int .i64 y, .int .i64 n] ∧
  (∀ es, moveM al x y n = .ok es → K (.tup [entsS (.own 68000) es, .nilifc]) [] ∧ K (.tup [entsS (.own 113000) es, .nilifc]) []) ∧ (∀ e, moveM al x y n = .error e → K (.tup [.sl .nl 0 [], errA e]) [])
def moveC (args : List AV) (bs : List Box) (K : AV → List Box → Prop) : Prop := bs = [] ∧ ∃ (al : List Acc) (x y n : Int), args = [accsA al, .int .i64 x, .int .i64 y, .int .i64 n] ∧
  (∀ es, moveM al x y n = .ok es → K (.tup [entsA es, .nilifc]) []) ∧ (∀ e, moveM al x y n = .error e → K (.tup [.sl .nl 0 [], errA e]) [])
theorem cur_cases {a : Acc} (h : ¬ numK 1 a.cur < 0) : a.cur = 0 ∨ a.cur = 1 ∨ a.cur = 2 := by
  unfold numK at h
  split at h <;> omega
theorem conv_le {n p q x y : Int} (h : convM n p q = .ok (x, y)) : 0 ≤ x ∧ x ≤ 1099511627776 := by
  unfold convM at h
  split at h
  · rename_i hab
    split at h
    · cases h
    · obtain ⟨a1, a2⟩ := amountB_iff.1 hab.1
      obtain ⟨b1, b2, b3, b4⟩ := rateB_iff.1 hab.2
      obtain ⟨m1, m2⟩ := mul_bound a1 a2 b1 b2
      obtain ⟨d1, d2⟩ := tdiv_bound m1 m2 b3
      simp only [Except.ok.injEq, Prod.mk.injEq] at h
      omega
  · cases h
def RMv : Contract
  | 50 => ofC
  | 40 => amtC
  | 51 => numKC
  | 53 => ratesC
  | 52 => convC
  | _ => fun _ _ _ => False
theorem RMv_ok : CallOk Tryd.prog tab RMv := by
  intro f args bs K h
  unfold RMv at h
  split at h
  · exact ⟨_, h, of_ok⟩
  · exact ⟨_, h, amt_ok⟩
  · exact ⟨_, h, numK_ok⟩
  · exact ⟨_, h, rates_ok⟩
  · exact ⟨_, h, conv_ok⟩
  · exact h.elim
def RMv_E (pl : Nat → Plan) : En := ⟨tab, RMv, fun _ => none, 0, pl⟩
theorem RMv_J (pl : Nat → Plan) : JOk Tryd.prog (RMv_E pl).T (RMv_E pl).J := fun _ _ h => by cases h
set_option maxRecDepth 200000 in
set_option maxHeartbeats 6400000 in
theorem move_ok0 : FnOk Tryd.prog tab 29 moveC0 := by
  refine fn_ok (E := RMv_E pl29) tab_is RMv_ok (RMv_J _) Tryd.func29 rfl rfl (by kernel_rfl) ?_
  rintro args bs K ⟨rfl, al, x, y, n, rfl, hok, her⟩
  refine ⟨rfl, ?_⟩
  refine ⟨rfl, al, x, rfl, ?_⟩
  cases hx : (ofN al.length x).2 with
  | false =>
    have no := her 2 (by unfold moveM; rw [if_pos (.inl hx)])
    exact ⟨fun _ => no, fun h => Bool.noConfusion (show true = false from h)⟩
  | true =>
    refine ⟨fun h => Bool.noConfusion (show false = true from h), fun _ => ?_⟩
    refine ⟨rfl, al, y, rfl, ?_⟩
    cases hy : (ofN al.length y).2 with
    | false =>
      have no := her 2 (by unfold moveM; rw [if_pos (.inr hy)])
      exact ⟨fun _ => no, fun h => Bool.noConfusion (show true = false from h)⟩
    | true =>
      refine ⟨fun h => Bool.noConfusion (show false = true from h), fun _ => ?_⟩
      obtain ⟨x0, x1⟩ := of_true hx
      obtain ⟨y0, y1⟩ := of_true hy
      obtain ⟨a, ha⟩ : ∃ a, al[x.toNat]? = some a := ⟨_, List.getElem?_eq_getElem (by omega)⟩
      obtain ⟨b, hb⟩ : ∃ b, al[y.toNat]? = some b := ⟨_, List.getElem?_eq_getElem (by omega)⟩
      have step1 : moveM al x y n = (if x = y ∨ amountB n = false then .error 1
          else if a.cur = b.cur then .ok [⟨x, -n⟩, ⟨y, n⟩]
          else if numK 1 a.cur < 0 ∨ numK 1 b.cur < 0 then .error 2
          else match convM n (rateN a.cur b.cur).1 (rateN a.cur b.cur).2 with
          | .error e => .error e
          | .ok g => if g.1 = 0 then .error 1 else .ok [⟨x, -n⟩, ⟨numK 1 a.cur, n⟩, ⟨numK 1 b.cur, -g.1⟩, ⟨y, g.1⟩]) := by
        unfold moveM; rw [if_neg (by simp [hx, hy]), ha, hb]
      rw [step1] at hok her
      have bad : (x = y ∨ amountB n = false) → K (.tup [.sl .nl 0 [], errA 1]) [] := fun h => her 1 (by rw [if_pos h])
      refine ⟨fun hxy => ?_, fun hxy => ?_⟩
      · have hxy : x = y := by simpa using hxy
        exact ⟨fun _ => bad (.inl hxy), fun h => Bool.noConfusion (show true = false from h)⟩
      · have hxy : ¬ x = y := by simpa using hxy
        refine ⟨rfl, n, rfl, ?_⟩
        cases hn : amountB n with
        | false => exact ⟨fun _ => bad (.inr hn), fun h => Bool.noConfusion (show true = false from h)⟩
        | true =>
          refine ⟨fun h => Bool.noConfusion (show false = true from h), fun _ => ?_⟩
          rw [if_neg (by simp [hxy, hn])] at hok her
          clear bad step1
          obtain ⟨n1, n2⟩ := amountB_iff.1 hn
          have wn : IntKind.i64.wrap (0 - n) = -n := by rw [wrap_of] <;> omega
          obtain ⟨cur, bal, held⟩ := a
          obtain ⟨cur', bal', held'⟩ := b
          simp only at hok her
          refine ⟨_, x0, map_of ha, ?_⟩
          refine ⟨_, y0, map_of hb, ?_⟩
          refine ⟨fun h => ?_, fun h => ?_⟩
          · have hc : cur = cur' := by simpa using h
            rw [if_pos hc] at hok
            have hend := (hok _ rfl).1
            rw [← wn] at hend
            exact hend
          · have hc : ¬ cur = cur' := by simpa using h
            rw [if_neg hc] at hok her
            have unk : (numK 1 cur < 0 ∨ numK 1 cur' < 0) → K (.tup [.sl .nl 0 [], errA 2]) [] := fun h => her 2 (by rw [if_pos h])
            refine ⟨rfl, 1, cur, rfl, ?_⟩
            refine ⟨rfl, 1, cur', rfl, ?_⟩
            refine ⟨fun hA => ?_, fun hA => ?_⟩
            · exact ⟨fun _ => unk (.inl (by simpa using hA)), fun h => Bool.noConfusion (show true = false from h)⟩
            · have hA : ¬ numK 1 cur < 0 := by simpa using hA
              refine ⟨fun hB => unk (.inr (by simpa using hB)), fun hB => ?_⟩
              have hB : ¬ numK 1 cur' < 0 := by simpa using hB
              rw [if_neg (by omega)] at hok her
              refine ⟨rfl, rfl, ?_⟩
              rcases cur_cases (a := ⟨cur, bal, held⟩) hA with c1 | c1 | c1 <;> rcases cur_cases (a := ⟨cur', bal', held'⟩) hB with c2 | c2 | c2 <;> simp only at c1 c2 <;> subst c1 <;> subst c2 <;> first | exact absurd rfl hc | skip
              · refine ⟨0, rfl, (by decide : 0 < 3), ?_⟩
                refine ⟨1, rfl, (by decide : 1 < 3), ?_⟩
                have hq : convM n (rateN 0 1).1 (rateN 0 1).2 = convM n 9 10 := rfl
                rw [hq] at hok her
                refine ⟨rfl, n, 9, 10, rfl, fun g1 g2 hcv => ?_, fun e hcv => ?_⟩
                · rw [hcv] at hok her
                  obtain ⟨l1, l2⟩ := conv_le hcv
                  have wg : IntKind.i64.wrap (0 - g1) = -g1 := by rw [wrap_of] <;> omega
                  refine ⟨fun h => Bool.noConfusion (show false = true from h), fun _ => ?_⟩
                  refine ⟨fun h => ?_, fun h => ?_⟩
                  · exact her 1 (if_pos (show g1 = 0 by simpa using h))
                  · conv => whnf
                    have hend := (hok _ (if_neg (show ¬ g1 = 0 by simpa using h))).2
                    rw [← wn, ← wg] at hend
                    exact hend
                · rw [hcv] at her
                  exact ⟨fun _ => her e rfl, fun h => Bool.noConfusion (show true = false from h)⟩
              · refine ⟨0, rfl, (by decide : 0 < 3), ?_⟩
                refine ⟨2, rfl, (by decide : 2 < 3), ?_⟩
                have hq : convM n (rateN 0 2).1 (rateN 0 2).2 = convM n 150 1 := rfl
                rw [hq] at hok her
                refine ⟨rfl, n, 150, 1, rfl, fun g1 g2 hcv => ?_, fun e hcv => ?_⟩
                · rw [hcv] at hok her
                  obtain ⟨l1, l2⟩ := conv_le hcv
                  have wg : IntKind.i64.wrap (0 - g1) = -g1 := by rw [wrap_of] <;> omega
                  refine ⟨fun h => Bool.noConfusion (show false = true from h), fun _ => ?_⟩
                  refine ⟨fun h => ?_, fun h => ?_⟩
                  · exact her 1 (if_pos (show g1 = 0 by simpa using h))
                  · conv => whnf
                    have hend := (hok _ (if_neg (show ¬ g1 = 0 by simpa using h))).2
                    rw [← wn, ← wg] at hend
                    exact hend
                · rw [hcv] at her
                  exact ⟨fun _ => her e rfl, fun h => Bool.noConfusion (show true = false from h)⟩
              · refine ⟨1, rfl, (by decide : 1 < 3), ?_⟩
                refine ⟨0, rfl, (by decide : 0 < 3), ?_⟩
                have hq : convM n (rateN 1 0).1 (rateN 1 0).2 = convM n 11 10 := rfl
                rw [hq] at hok her
                refine ⟨rfl, n, 11, 10, rfl, fun g1 g2 hcv => ?_, fun e hcv => ?_⟩
                · rw [hcv] at hok her
                  obtain ⟨l1, l2⟩ := conv_le hcv
                  have wg : IntKind.i64.wrap (0 - g1) = -g1 := by rw [wrap_of] <;> omega
                  refine ⟨fun h => Bool.noConfusion (show false = true from h), fun _ => ?_⟩
                  refine ⟨fun h => ?_, fun h => ?_⟩
                  · exact her 1 (if_pos (show g1 = 0 by simpa using h))
                  · conv => whnf
                    have hend := (hok _ (if_neg (show ¬ g1 = 0 by simpa using h))).2
                    rw [← wn, ← wg] at hend
                    exact hend
                · rw [hcv] at her
                  exact ⟨fun _ => her e rfl, fun h => Bool.noConfusion (show true = false from h)⟩
              · refine ⟨1, rfl, (by decide : 1 < 3), ?_⟩
                refine ⟨2, rfl, (by decide : 2 < 3), ?_⟩
                have hq : convM n (rateN 1 2).1 (rateN 1 2).2 = convM n 160 1 := rfl
                rw [hq] at hok her
                refine ⟨rfl, n, 160, 1, rfl, fun g1 g2 hcv => ?_, fun e hcv => ?_⟩
                · rw [hcv] at hok her
                  obtain ⟨l1, l2⟩ := conv_le hcv
                  have wg : IntKind.i64.wrap (0 - g1) = -g1 := by rw [wrap_of] <;> omega
                  refine ⟨fun h => Bool.noConfusion (show false = true from h), fun _ => ?_⟩
                  refine ⟨fun h => ?_, fun h => ?_⟩
                  · exact her 1 (if_pos (show g1 = 0 by simpa using h))
                  · conv => whnf
                    have hend := (hok _ (if_neg (show ¬ g1 = 0 by simpa using h))).2
                    rw [← wn, ← wg] at hend
                    exact hend
                · rw [hcv] at her
                  exact ⟨fun _ => her e rfl, fun h => Bool.noConfusion (show true = false from h)⟩
              · refine ⟨2, rfl, (by decide : 2 < 3), ?_⟩
                refine ⟨0, rfl, (by decide : 0 < 3), ?_⟩
                have hq : convM n (rateN 2 0).1 (rateN 2 0).2 = convM n 1 151 := rfl
                rw [hq] at hok her
                refine ⟨rfl, n, 1, 151, rfl, fun g1 g2 hcv => ?_, fun e hcv => ?_⟩
                · rw [hcv] at hok her
                  obtain ⟨l1, l2⟩ := conv_le hcv
                  have wg : IntKind.i64.wrap (0 - g1) = -g1 := by rw [wrap_of] <;> omega
                  refine ⟨fun h => Bool.noConfusion (show false = true from h), fun _ => ?_⟩
                  refine ⟨fun h => ?_, fun h => ?_⟩
                  · exact her 1 (if_pos (show g1 = 0 by simpa using h))
                  · conv => whnf
                    have hend := (hok _ (if_neg (show ¬ g1 = 0 by simpa using h))).2
                    rw [← wn, ← wg] at hend
                    exact hend
                · rw [hcv] at her
                  exact ⟨fun _ => her e rfl, fun h => Bool.noConfusion (show true = false from h)⟩
              · refine ⟨2, rfl, (by decide : 2 < 3), ?_⟩
                refine ⟨1, rfl, (by decide : 1 < 3), ?_⟩
                have hq : convM n (rateN 2 1).1 (rateN 2 1).2 = convM n 1 161 := rfl
                rw [hq] at hok her
                refine ⟨rfl, n, 1, 161, rfl, fun g1 g2 hcv => ?_, fun e hcv => ?_⟩
                · rw [hcv] at hok her
                  obtain ⟨l1, l2⟩ := conv_le hcv
                  have wg : IntKind.i64.wrap (0 - g1) = -g1 := by rw [wrap_of] <;> omega
                  refine ⟨fun h => Bool.noConfusion (show false = true from h), fun _ => ?_⟩
                  refine ⟨fun h => ?_, fun h => ?_⟩
                  · exact her 1 (if_pos (show g1 = 0 by simpa using h))
                  · conv => whnf
                    have hend := (hok _ (if_neg (show ¬ g1 = 0 by simpa using h))).2
                    rw [← wn, ← wg] at hend
                    exact hend
                · rw [hcv] at her
                  exact ⟨fun _ => her e rfl, fun h => Bool.noConfusion (show true = false from h)⟩
theorem move_ok : FnOk Tryd.prog tab 29 moveC := move_ok0.frz.mono (by
  rintro args bs K ⟨rfl, al, x, y, n, rfl, hok, her⟩
  exact ⟨rfl, rfl, al, x, y, n, rfl, fun es h => ⟨⟨_, rfl, hok es h⟩, ⟨_, rfl, hok es h⟩⟩, fun e h => ⟨_, rfl, her e h⟩⟩)
end Go.Proofs.YtmlgkojmbnjfbaaDoor.A
