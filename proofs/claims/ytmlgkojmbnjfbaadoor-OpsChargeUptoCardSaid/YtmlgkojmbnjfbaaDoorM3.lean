/- payment: capture, refund, charge, shut, by, Do. -/
import Derived.Test.YtmlgkojmbnjfbaaDoorM0
namespace Go.Proofs.YtmlgkojmbnjfbaaDoor.A
open Go Q
def capP (p : Pay) (n : Int) : Pay := ⟨p.src, p.dst, p.auth, w64 (p.capt + n), p.refu, p.chrg, p.til, if w64 (p.capt + n) = p.auth then 1 else p.stage⟩
def refP (p : Pay) (n : Int) : Pay := ⟨p.src, p.dst, p.auth, p.capt, w64 (p.refu + n), p.chrg, p.til, p.stage⟩
def chaP (p : Pay) (n : Int) : Pay := ⟨p.src, p.dst, p.auth, p.capt, p.refu, w64 (p.chrg + n), p.til, p.stage⟩
def shuP (p : Pay) : Pay := ⟨p.src, p.dst, p.auth, p.capt, p.refu, p.chrg, p.til, 1⟩
def pay0 : Pay := ⟨0, 0, 0, 0, 0, 0, 0, 0⟩
abbrev payC2 (f : Pay → Int → Pay) (g : Pay → Int → Bool) (args : List AV) (bs : List Box) (K : AV → List Box → Prop) : Prop := bs = [] ∧ ∃ (p : Pay) (n : Int), args = [payA p, .int .i64 n] ∧ K (.tup [payA (f p n), .bool (g p n)]) []
abbrev captC := payC2 capP fun p n => decide (n ≤ left p)
abbrev refuC := payC2 refP fun p n => decide (n ≤ gave p)
abbrev chrgC := payC2 chaP fun p n => decide (n ≤ gave p)
abbrev shutC := payC2 (fun p _ => shuP p) fun p _ => p.stage == 0
def RPy : Contract
  | 25 => leftC
  | 13 => gaveC
  | _ => fun _ _ _ => False
theorem RPy_ok : CallOk Tryd.prog tab RPy := by
  intro f args bs K h
  unfold RPy at h
  split at h
  · exact ⟨_, h, left_ok⟩
  · exact ⟨_, h, gave_ok⟩
  · exact h.elim
def RPy_E (pl : Nat → Plan) : En := ⟨tab, RPy, fun _ => none, 0, pl⟩
theorem RPy_J (pl : Nat → Plan) : JOk Tryd.prog (RPy_E pl).T (RPy_E pl).J := fun _ _ h => by cases h
set_option maxRecDepth 200000 in
set_option maxHeartbeats 1600000 in
theorem cap_ok : FnOk Tryd.prog tab 71 captC := by
  refine fn_ok (E := RPy_E pl71) tab_is RPy_ok (RPy_J _) Tryd.func71 rfl rfl (by kernel_rfl) ?_
  rintro args bs K ⟨rfl, p, n, rfl, hK⟩
  refine ⟨rfl, ?_⟩
  refine ⟨rfl, p, rfl, ?_⟩
  unfold capP at hK
  refine ⟨fun h => ?_, fun h => ?_⟩
  · rw [if_pos (by simpa [w64] using h)] at hK
    exact hK
  · rw [if_neg (by simpa [w64] using h)] at hK
    exact hK
set_option maxRecDepth 200000 in
set_option maxHeartbeats 1600000 in
theorem ref_ok : FnOk Tryd.prog tab 72 refuC := by
  refine fn_ok (E := RPy_E pl72) tab_is RPy_ok (RPy_J _) Tryd.func72 rfl rfl (by kernel_rfl) ?_
  rintro args bs K ⟨rfl, p, n, rfl, hK⟩
  refine ⟨rfl, ?_⟩
  exact ⟨rfl, p, rfl, hK⟩
set_option maxRecDepth 200000 in
set_option maxHeartbeats 1600000 in
theorem cha_ok : FnOk Tryd.prog tab 73 chrgC := by
  refine fn_ok (E := RPy_E pl73) tab_is RPy_ok (RPy_J _) Tryd.func73 rfl rfl (by kernel_rfl) ?_
  rintro args bs K ⟨rfl, p, n, rfl, hK⟩
  refine ⟨rfl, ?_⟩
  exact ⟨rfl, p, rfl, hK⟩
set_option maxRecDepth 200000 in
set_option maxHeartbeats 1600000 in
theorem shu_ok : FnOk Tryd.prog tab 74 shutC := by
  refine fn_ok (E := RPy_E pl74) tab_is RPy_ok (RPy_J _) Tryd.func74 rfl rfl (by kernel_rfl) ?_
  rintro args bs K ⟨rfl, p, n, rfl, hK⟩
  refine ⟨rfl, ?_⟩
  exact hK
def pbyC (args : List AV) (bs : List Box) (K : AV → List Box → Prop) : Prop := bs = [] ∧ ∃ op : Int, args = [.int .i64 op] ∧ (op = 4 → K (.fn (.func 71) [] []) []) ∧ (op = 6 → K (.fn (.func 72) [] []) []) ∧ (op = 7 → K (.fn (.func 73) [] []) []) ∧ (op = 5 → K (.fn (.func 74) [] []) []) ∧
  (¬ op = 4 → ¬ op = 6 → ¬ op = 7 → ¬ op = 5 → K .nilfn [])
set_option maxRecDepth 200000 in
set_option maxHeartbeats 1600000 in
theorem pby_ok : FnOk Tryd.prog tab 57 pbyC := by
  refine fn_ok (E := R0_E pl57) tab_is R0_ok (R0_J _) Tryd.func57 rfl rfl (by kernel_rfl) ?_
  rintro args bs K ⟨rfl, op, rfl, k4, k6, k7, k5, k0⟩
  refine ⟨rfl, ?_⟩
  refine ⟨fun h => k4 (by simpa using h), fun h4 => ?_⟩
  refine ⟨fun h => k6 (by simpa using h), fun h6 => ?_⟩
  refine ⟨fun h => k7 (by simpa using h), fun h7 => ?_⟩
  exact ⟨fun h => k5 (by simpa using h), fun h5 => k0 (by simpa using h4) (by simpa using h6) (by simpa using h7) (by simpa using h5)⟩
/-- A payment behind an op. -/
def doP (p : Pay) (op n : Int) : Except Int Pay :=
  if op = 4 then (if n < 1 then .error 1 else if n ≤ left p then .ok (capP p n) else .error 6)
  else if op = 6 then (if n < 1 then .error 1 else if n ≤ gave p then .ok (refP p n) else .error 6)
  else if op = 7 then (if n < 1 then .error 1 else if n ≤ gave p then .ok (chaP p n) else .error 6)
  else if op = 5 then (if p.stage = 0 then .ok (shuP p) else .error 6)
  else .error 13
def doPC (args : List AV) (bs : List Box) (K : AV → List Box → Prop) : Prop := bs = [] ∧ ∃ (p : Pay) (op n : Int), args = [payA p, .int .i64 op, .int .i64 n] ∧ (∀ q, doP p op n = .ok q → K (.tup [payA q, .nilifc]) []) ∧ (∀ e, doP p op n = .error e → K (.tup [payA pay0, errA e]) [])
def RPd : Contract
  | 57 => pbyC
  | 71 => captC
  | 72 => refuC
  | 73 => chrgC
  | 74 => shutC
  | _ => fun _ _ _ => False
theorem RPd_ok : CallOk Tryd.prog tab RPd := by
  intro f args bs K h
  unfold RPd at h
  split at h
  · exact ⟨_, h, pby_ok⟩
  · exact ⟨_, h, cap_ok⟩
  · exact ⟨_, h, ref_ok⟩
  · exact ⟨_, h, cha_ok⟩
  · exact ⟨_, h, shu_ok⟩
  · exact h.elim
def RPd_E (pl : Nat → Plan) : En := ⟨tab, RPd, fun _ => none, 0, pl⟩
theorem RPd_J (pl : Nat → Plan) : JOk Tryd.prog (RPd_E pl).T (RPd_E pl).J := fun _ _ h => by cases h
set_option maxRecDepth 200000 in
set_option maxHeartbeats 3200000 in
theorem doP_ok : FnOk Tryd.prog tab 32 doPC := by
  refine fn_ok (E := RPd_E pl32) tab_is RPd_ok (RPd_J _) Tryd.func32 rfl rfl (by kernel_rfl) ?_
  rintro args bs K ⟨rfl, p, op, n, rfl, hok, her⟩
  refine ⟨rfl, ?_⟩
  refine ⟨rfl, op, rfl, fun h => ?_, fun h => ?_, fun h => ?_, fun h => ?_, fun h4 h6 h7 h5 => ?_⟩
  · subst h
    have st : doP p 4 n = (if n < 1 then .error 1 else if n ≤ left p then .ok (capP p n) else .error 6) := rfl
    rw [st] at hok her
    refine ⟨fun h => Bool.noConfusion (show false = true from h), fun _ => ?_⟩
    refine ⟨fun _ => ?_, fun h => Bool.noConfusion (show true = false from h)⟩
    refine ⟨fun hn => ?_, fun hn => ?_⟩
    · exact her 1 (if_pos (by simpa using hn))
    · have hn : ¬ n < 1 := by simpa using hn
      rw [if_neg hn] at hok her
      refine ⟨rfl, p, n, rfl, ?_⟩
      refine ⟨fun hb => ?_, fun hb => ?_⟩
      · exact her 6 (if_neg (by simpa using hb))
      · exact hok _ (if_pos (by simpa using hb))
  · subst h
    have st : doP p 6 n = (if n < 1 then .error 1 else if n ≤ gave p then .ok (refP p n) else .error 6) := rfl
    rw [st] at hok her
    refine ⟨fun h => Bool.noConfusion (show false = true from h), fun _ => ?_⟩
    refine ⟨fun _ => ?_, fun h => Bool.noConfusion (show true = false from h)⟩
    refine ⟨fun hn => ?_, fun hn => ?_⟩
    · exact her 1 (if_pos (by simpa using hn))
    · have hn : ¬ n < 1 := by simpa using hn
      rw [if_neg hn] at hok her
      refine ⟨rfl, p, n, rfl, ?_⟩
      refine ⟨fun hb => ?_, fun hb => ?_⟩
      · exact her 6 (if_neg (by simpa using hb))
      · exact hok _ (if_pos (by simpa using hb))
  · subst h
    have st : doP p 7 n = (if n < 1 then .error 1 else if n ≤ gave p then .ok (chaP p n) else .error 6) := rfl
    rw [st] at hok her
    refine ⟨fun h => Bool.noConfusion (show false = true from h), fun _ => ?_⟩
    refine ⟨fun _ => ?_, fun h => Bool.noConfusion (show true = false from h)⟩
    refine ⟨fun hn => ?_, fun hn => ?_⟩
    · exact her 1 (if_pos (by simpa using hn))
    · have hn : ¬ n < 1 := by simpa using hn
      rw [if_neg hn] at hok her
      refine ⟨rfl, p, n, rfl, ?_⟩
      refine ⟨fun hb => ?_, fun hb => ?_⟩
      · exact her 6 (if_neg (by simpa using hb))
      · exact hok _ (if_pos (by simpa using hb))
  · subst h
    have st : doP p 5 n = (if p.stage = 0 then .ok (shuP p) else .error 6) := rfl
    rw [st] at hok her
    refine ⟨fun h => Bool.noConfusion (show false = true from h), fun _ => ?_⟩
    refine ⟨fun h => Bool.noConfusion (show false = true from h), fun _ => ?_⟩
    refine ⟨fun h => Bool.noConfusion (show false = true from h), fun _ => ?_⟩
    refine ⟨rfl, p, n, rfl, ?_⟩
    refine ⟨fun hb => ?_, fun hb => ?_⟩
    · exact her 6 (if_neg (by simpa using hb))
    · exact hok _ (if_pos (by simpa using hb))
  · have st : doP p op n = .error 13 := by unfold doP; rw [if_neg h4, if_neg h6, if_neg h7, if_neg h5]
    exact ⟨fun _ => her 13 st, fun h => Bool.noConfusion (show true = false from h)⟩
end Go.Proofs.YtmlgkojmbnjfbaaDoor.A
