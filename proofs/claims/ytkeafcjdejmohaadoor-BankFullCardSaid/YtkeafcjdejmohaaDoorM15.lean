/- hawalalaw15: do. -/
import Derived.Test.YtkeafcjdejmohaaDoorGF
namespace Go.Proofs.YtkeafcjdejmohaaDoor.A
open Go Q
def staT (g1 g2 : Tag) (s : Sta) : AV := .agg [.sl g1 49 (s.accs.map accA), .sl g2 47 (s.pays.map payA), sagsA s.sags, knsA s.kns, .int .i64 s.now]
def rdoC0 (args : List AV) (bs : List Box) (K : AV → List Box → Prop) : Prop := bs = [] ∧ ∃ (s : Sta) (r : Req), args = [staA s, reqA r] ∧ SzA s ∧ (∀ a ∈ s.accs, (0 ≤ a.cur ∧ a.cur < 3) ∧ (-4503599627370496 ≤ a.bal ∧ a.bal ≤ 4503599627370496) ∧ -4503599627370496 ≤ a.held ∧ a.held ≤ 4503599627370496) ∧
  ∀ g1 g2, (g1 = .fz ∨ g1 = .own 25000) → (g2 = .fz ∨ g2 = .own 29000) → K (.tup [staT g1 g2 (doM s r).1, repA (doM s r).2.1 (doM s r).2.2]) []
def RRd : Contract
  | 36 => moveC
  | 38 => postC
  | 33 => (accsRz holdM)
  | 40 => (accsRz relM)
  | 41 => spendC
  | 42 => nilC backC
  | 39 => doPC
  | 32 => leftC
  | 37 => numbC
  | _ => fun _ _ _ => False
theorem RRd_ok : CallOk Tryd.prog tab RRd := by
  intro f args bs K h
  unfold RRd at h
  split at h
  · exact ⟨_, h, move_ok⟩
  · exact ⟨_, h, post_ok⟩
  · exact ⟨_, h, hold_ok⟩
  · exact ⟨_, h, rel_ok⟩
  · exact ⟨_, h, spend_ok⟩
  · exact ⟨_, h, back_ok.nil⟩
  · exact ⟨_, h, doP_ok⟩
  · exact ⟨_, h, left_ok⟩
  · exact ⟨_, h, told_ok⟩
  · exact h.elim
def RRd_E (pl : Nat → Plan) : En := ⟨tab, RRd, fun _ => none, 0, pl⟩
theorem RRd_J (pl : Nat → Plan) : JOk Tryd.prog (RRd_E pl).T (RRd_E pl).J := fun _ _ h => by cases h
noncomputable def ERd_E (pl : Nat → Plan) : En := ⟨tab, RRd, JCl, 0, pl⟩
theorem move_amt {al : List Acc} {x y n : Int} {es : List Ent} (h : moveM al x y n = .ok es) : ∀ e ∈ es, -1099511627776 ≤ e.amt ∧ e.amt ≤ 1099511627776 := by
  unfold moveM at h
  split at h
  · cases h
  · split at h
    · cases h
    · rename_i hn
      obtain ⟨n1, n2⟩ := amountB_iff.1 (by simpa using fun h => hn (.inr h))
      split at h
      · split at h
        · cases h
          intro e he
          simp at he
          rcases he with rfl | rfl <;> (constructor <;> (simp only; omega))
        · split at h
          · cases h
          · split at h
            · cases h
            · rename_i g hg
              obtain ⟨g1, g2⟩ := conv_le (x := g.1) (y := g.2) hg
              split at h
              · cases h
              · cases h
                intro e he
                simp at he
                rcases he with rfl | rfl | rfl | rfl <;> (constructor <;> (simp only; omega))
      · cases h
theorem back_amt {al : List Acc} {x y n : Int} {es : List Ent} (h : moveM al x y n = .ok es) : ∀ e ∈ backM es, -1099511627776 ≤ e.amt ∧ e.amt ≤ 1099511627776 := by
  intro e he
  unfold backM at he
  obtain ⟨q, hq, rfl⟩ := List.mem_map.1 he
  have := move_amt h q (List.mem_reverse.1 hq)
  show _ ≤ w64 (0 - q.amt) ∧ w64 (0 - q.amt) ≤ _
  rw [w64_of (by omega) (by omega)]
  omega
theorem lack_eq {s : Sta} {p : Pay} {e : Ent} {es : List Ent} {a : Acc} (ha : s.accs[p.dst.toNat]? = some a) (hb : (0 ≤ a.cur ∧ a.cur < 3) ∧ (-4503599627370496 ≤ a.bal ∧ a.bal ≤ 4503599627370496) ∧ -4503599627370496 ≤ a.held ∧ a.held ≤ 4503599627370496) (he : -1099511627776 ≤ e.amt ∧ e.amt ≤ 1099511627776) :
    lackE s p (e :: es) = if w64 (0 - e.amt) > freeN a then ⟨e.acct, w64 (0 - freeN a)⟩ :: (es ++ [⟨w64 (w64 (3 * a.cur) + 2), w64 (e.amt + freeN a)⟩]) else e :: es := by
  have hf : freeN a = a.bal - a.held := w64_of (by omega) (by omega)
  rw [lackE_cons, accAt_of ha, hf, w64_of (n := 0 - e.amt) (by omega) (by omega), w64_of (n := 0 - e.amt - (a.bal - a.held)) (by omega) (by omega), w64_of (n := 3 * a.cur) (by omega) (by omega), w64_of (n := 3 * a.cur + 2) (by omega) (by omega),
    w64_of (n := 0 - (a.bal - a.held)) (by omega) (by omega), w64_of (n := e.amt + (a.bal - a.held)) (by omega) (by omega), w64_of (n := e.amt + (0 - e.amt - (a.bal - a.held))) (by omega) (by omega), w64_of (n := 0 - (0 - e.amt - (a.bal - a.held))) (by omega) (by omega)]
  have e1 : e.amt + (0 - e.amt - (a.bal - a.held)) = 0 - (a.bal - a.held) := by omega
  have e2 : (0 - (0 - e.amt - (a.bal - a.held))) = e.amt + (a.bal - a.held) := by omega
  have e3 : numK 2 a.cur = 3 * a.cur + 2 := by unfold numK; rw [if_neg (by omega)]
  rw [e1, e2, e3]
  by_cases h : 0 - e.amt > a.bal - a.held
  · rw [if_pos (by omega), if_pos h]
  · rw [if_neg (by omega), if_neg h]
def plDo : Nat → Plan
  | 61 => (.take 0 (.take 1 (.take 2 (.take 3 (.take 4 (.take 5 (.take 6 (.take 7 (.take 8 (.take 9 (.take 10 (.take 11 (.take 12 (.take 14 (.last 13 (.take 15 (.take 16 (.last 17 (.cut 18 (.take 19 .done))))))))))))))))))))
  | 66 => (.take 0 (.take 2 (.take 4 (.alt 1 (.take 6 (.alt 3 (.alt 5 (.last 7 (.take 8 (.cut 9 .done))) (.last 7 (.last 5 (.take 8 (.cut 9 .done))))) (.alt 5 (.alt 3 (.last 7 (.take 8 (.cut 9 .done))) (.last 7 (.last 3 (.take 8 (.cut 9 .done))))) (.last 7 (.alt 3 (.last 5 (.take 8 (.cut 9 .done))) (.last 5 (.last 3 (.take 8 (.cut 9 .done))))))))) (.alt 3 (.alt 1 (.take 6 (.alt 5 (.last 7 (.take 8 (.cut 9 .done))) (.last 7 (.last 5 (.take 8 (.cut 9 .done)))))) (.last 5 (.last 1 (.take 6 (.last 7 (.take 8 (.cut 9 .done))))))) (.last 5 (.alt 1 (.take 6 (.alt 3 (.last 7 (.take 8 (.cut 9 .done))) (.last 7 (.last 3 (.take 8 (.cut 9 .done)))))) (.last 3 (.last 1 (.take 6 (.last 7 (.take 8 (.cut 9 .done)))))))))))))
  | k => pl14 k
set_option maxRecDepth 2000000 in
set_option maxHeartbeats 12800000 in
theorem rdo_ok0 : FnOk Tryd.prog tab 14 rdoC0 := by
  refine fn_ok (E := ERd_E plDo) tab_is RRd_ok JCl_ok Tryd.func14 rfl rfl (by kernel_rfl) ?_
  rintro args bs K ⟨rfl, s, r, rfl, hz, hcu, hK⟩
  refine ⟨rfl, ?_⟩
  have hl := hz.la
  have hlp := hz.lp
  have bd1 : (s.accs.map accA).length * 24 ≤ 140737488355328 := by rw [List.length_map]; omega
  have bd2 : (s.pays.map payA).length * 64 ≤ 140737488355328 := by rw [List.length_map]; omega
  refine ⟨bd1, ?_⟩
  refine ⟨bd2, ?_⟩
  have bad : ∀ {e : Int}, doM s r = (s, e, 0) → K (.tup [staA s, repA e 0]) [] := fun h => by
    have := hK .fz .fz (.inl rfl) (.inl rfl)
    rw [h] at this; exact this
  have good : ∀ {l P e i}, doM s r = (⟨l, P, s.sags, s.kns, s.now⟩, e, i) → ∀ g1 g2, (g1 = .fz ∨ g1 = .own 25000) → (g2 = .fz ∨ g2 = .own 29000) → K (.tup [.agg [.sl g1 49 (l.map accA), .sl g2 47 (P.map payA), sagsA s.sags, knsA s.kns, .int .i64 s.now], repA e i]) [] := fun h g1 g2 h1 h2 => by
    have := hK g1 g2 h1 h2
    rw [h] at this; exact this
  refine ⟨fun ho => ?_, fun ho => ?_⟩
  · have ho : r.op = 0 := by simpa using ho
    have st : doM s r = openM s r := by unfold doM; rw [if_pos ho]
    unfold openM at st
    refine ⟨fun h => ?_, fun h => ?_⟩
    · exact bad (st.trans (if_pos (by simp at h; omega)))
    · have h : ¬ s.accs.length ≥ 64 := by simp at h; omega
      have bd : ((s.accs.map accA).length + 1) * 24 ≤ 140737488355328 := by rw [List.length_map]; omega
      have e1 : (s.accs ++ [(⟨r.a, 0, 0⟩ : Acc)]).map accA = s.accs.map accA ++ [accA ⟨r.a, 0, 0⟩] := List.map_append
      have hend : K (.tup [.agg [.sl (.own 25000) 49 (s.accs.map accA ++ [accA ⟨r.a, 0, 0⟩]), .sl (.own 29000) 47 (s.pays.map payA), sagsA s.sags, knsA s.kns, .int .i64 s.now], repA 0 ((s.accs.map accA).length : Nat)]) [] := by
        rw [← e1, List.length_map]
        exact good (st.trans (if_neg h)) (.own 25000) (.own 29000) (.inr rfl) (.inr rfl)
      refine ⟨bd, ?_⟩
      clear hK bad good
      repeat' first
        | exact hend
        | (refine And.intro ?_ ?_)
        | fail
  · have h0 : ¬ r.op = 0 := by simpa using ho
    refine ⟨fun ho => ?_, fun ho => ?_⟩
    · have h1 : r.op = 1 := by simpa using ho
      have st : doM s r = depositM s r := by unfold doM; rw [if_neg h0, if_pos h1]
      unfold depositM at st
      refine ⟨fun _ => ?_, fun h => absurd (ho.symm.trans h) (by decide)⟩
      refine ⟨s, r.a, rfl, rfl, ?_⟩
      refine ⟨fun hc => ?_, fun hc => ?_⟩
      · have hc : isCl s.accs.length r.a = false := by simpa using hc
        have hend := bad (st.trans (if_pos hc))
        exact ⟨fun _ => hend, fun h => Bool.noConfusion (show true = false from h)⟩
      · have hc : isCl s.accs.length r.a = true := by simpa using hc
        obtain ⟨c0, c1⟩ := is_of hc
        rw [if_neg (by simp [hc])] at st
        refine ⟨fun h2 => ?_, fun h2 => ?_⟩
        · have h2 : r.op = 2 := by simpa using h2
          omega
        · refine ⟨fun h => Bool.noConfusion (show false = true from h), fun _ => ?_⟩
          refine ⟨fun _ => ?_, fun h => absurd (ho.symm.trans h) (by decide)⟩
          obtain ⟨a, ha⟩ : ∃ a, s.accs[r.a.toNat]? = some a := ⟨_, List.getElem?_eq_getElem (by omega)⟩
          rw [accAt_of ha] at st
          refine ⟨_, by omega, map_of ha, ?_⟩
          have hac := (hcu a (List.mem_of_getElem? ha)).1
          have hn : numK 0 a.cur = IntKind.i64.wrap (3 * a.cur) := by
            rw [wrap_of (by omega) (by omega)]
            unfold numK
            rw [if_neg (by omega)]; omega
          rw [hn] at st
          unfold postD at st
          refine ⟨rfl, s.accs, (IntKind.i64.wrap (3 * a.cur)), r.a, r.amt, rfl, fun es hm => ?_, fun e hm => ?_⟩
          · simp only [hm] at st
            have hle := move_len hm
            refine ⟨fun h => Bool.noConfusion (show false = true from h), fun _ => ?_⟩
            refine ⟨rfl, s.accs, es, rfl, by omega, by omega, fun l hp => ?_, fun e hp => ?_⟩
            · simp only [hp, tookM] at st
              have hend := good st .fz (.own 29000) (.inl rfl) (.inr rfl)
              refine ⟨fun h => Bool.noConfusion (show false = true from h), fun _ => ?_⟩
              exact hend
            · simp only [hp, tookM] at st
              have hend := bad st
              refine ⟨fun _ => ?_, fun h => Bool.noConfusion (show true = false from h)⟩
              clear bad good hK
              repeat' first
                | exact ⟨rfl, .inr ⟨e, rfl, hend⟩⟩
                | (refine And.intro ?_ ?_)
                | fail
          · simp only [hm] at st
            have hend := bad st
            refine ⟨fun _ => ?_, fun h => Bool.noConfusion (show true = false from h)⟩
            clear bad good hK
            repeat' first
              | exact ⟨rfl, .inr ⟨e, rfl, hend⟩⟩
              | (refine And.intro ?_ ?_)
              | fail
    · have h1 : ¬ r.op = 1 := by simpa using ho
      refine ⟨fun ho => ?_, fun ho => ?_⟩
      · have h2 : r.op = 2 := by simpa using ho
        have st : doM s r = transferM s r := by unfold doM; rw [if_neg h0, if_neg h1, if_pos h2]
        unfold transferM at st
        refine ⟨s, r.a, rfl, rfl, ?_⟩
        refine ⟨fun hc => ?_, fun hc => ?_⟩
        · have hc : isCl s.accs.length r.a = false := by simpa using hc
          have hend := bad (st.trans (if_pos (by simp [hc])))
          exact ⟨fun _ => hend, fun h => Bool.noConfusion (show true = false from h)⟩
        · have hc : isCl s.accs.length r.a = true := by simpa using hc
          refine ⟨fun _ => ?_, fun h => absurd (ho.symm.trans h) (by decide)⟩
          refine ⟨s, r.b, rfl, rfl, ?_⟩
          refine ⟨fun hb => ?_, fun hb => ?_⟩
          · have hb : isCl s.accs.length r.b = false := by simpa using hb
            exact bad (st.trans (if_pos (by simp [hb])))
          · have hb : isCl s.accs.length r.b = true := by simpa using hb
            rw [if_neg (by simp [hc, hb])] at st
            unfold postD at st
            refine ⟨fun h => by simp [h2] at h, fun _ => ?_⟩
            refine ⟨rfl, s.accs, r.a, r.b, r.amt, rfl, fun es hm => ?_, fun e hm => ?_⟩
            · simp only [hm] at st
              have hle := move_len hm
              refine ⟨fun h => Bool.noConfusion (show false = true from h), fun _ => ?_⟩
              refine ⟨rfl, s.accs, es, rfl, by omega, by omega, fun l hp => ?_, fun e hp => ?_⟩
              · simp only [hp, tookM] at st
                have hend := good st .fz (.own 29000) (.inl rfl) (.inr rfl)
                refine ⟨fun h => Bool.noConfusion (show false = true from h), fun _ => ?_⟩
                exact hend
              · simp only [hp, tookM] at st
                have hend := bad st
                refine ⟨fun _ => ?_, fun h => Bool.noConfusion (show true = false from h)⟩
                clear bad good hK
                repeat' first
                  | exact ⟨rfl, .inr ⟨e, rfl, hend⟩⟩
                  | (refine And.intro ?_ ?_)
                  | fail
            · simp only [hm] at st
              have hend := bad st
              refine ⟨fun _ => ?_, fun h => Bool.noConfusion (show true = false from h)⟩
              clear bad good hK
              repeat' first
                | exact ⟨rfl, .inr ⟨e, rfl, hend⟩⟩
                | (refine And.intro ?_ ?_)
                | fail
      · have h2 : ¬ r.op = 2 := by simpa using ho
        refine ⟨fun ho => ?_, fun ho => ?_⟩
        · have h3 : r.op = 3 := by simpa using ho
          have st : doM s r = authM s r := by unfold doM; rw [if_neg h0, if_neg h1, if_neg h2, if_pos h3]
          unfold authM at st
          refine ⟨s, r.a, rfl, rfl, ?_⟩
          refine ⟨fun hc => ?_, fun hc => ?_⟩
          · have hc : isCl s.accs.length r.a = false := by simpa using hc
            have hend := bad (st.trans (if_pos (by simp [hc])))
            exact ⟨fun _ => hend, fun h => Bool.noConfusion (show true = false from h)⟩
          · have hc : isCl s.accs.length r.a = true := by simpa using hc
            refine ⟨s, r.b, rfl, rfl, ?_⟩
            refine ⟨fun hb => ?_, fun hb => ?_⟩
            · have hb : isCl s.accs.length r.b = false := by simpa using hb
              exact bad (st.trans (if_pos (by simp [hb])))
            · have hb : isCl s.accs.length r.b = true := by simpa using hb
              rw [if_neg (by simp [hc, hb])] at st
              refine ⟨fun h => ?_, fun h => ?_⟩
              · have h : r.a = r.b := by simpa using h
                have hend := bad (st.trans (if_pos (.inl h)))
                exact ⟨fun _ => hend, fun h => Bool.noConfusion (show true = false from h)⟩
              · have h : ¬ r.a = r.b := by simpa using h
                refine ⟨fun ht => bad (st.trans (if_pos (.inr (by simpa using ht)))), fun ht => ?_⟩
                have ht : ¬ r.til ≤ s.now := by simpa using ht
                rw [if_neg (by omega)] at st
                refine ⟨fun hn => ?_, fun hn => ?_⟩
                · exact bad (st.trans (if_pos (by simp at hn; omega)))
                · rw [if_neg (by simp at hn; omega)] at st
                  refine ⟨rfl, s.accs, r.a, r.amt, rfl, by omega, fun l hh => ?_, fun e hh => ?_⟩
                  · simp only [hh] at st
                    have bd3 : ((s.pays.map payA).length + 1) * 64 ≤ 140737488355328 := by rw [List.length_map]; omega
                    have e1 : (s.pays ++ [(⟨r.a, r.b, r.amt, 0, 0, 0, r.til, 0⟩ : Pay)]).map payA = s.pays.map payA ++ [payA ⟨r.a, r.b, r.amt, 0, 0, 0, r.til, 0⟩] := List.map_append
                    have hend : K (.tup [.agg [.sl .fz 49 (l.map accA), .sl (.own 29000) 47 (s.pays.map payA ++ [payA ⟨r.a, r.b, r.amt, 0, 0, 0, r.til, 0⟩]), sagsA s.sags, knsA s.kns, .int .i64 s.now], repA 0 ((s.pays.map payA).length : Nat)]) [] := by
                      rw [← e1, List.length_map]
                      exact good st .fz (.own 29000) (.inl rfl) (.inr rfl)
                    refine ⟨fun h => Bool.noConfusion (show false = true from h), fun _ => ?_⟩
                    refine ⟨bd3, ?_⟩
                    clear bad good hK
                    repeat' first
                      | exact hend
                      | (refine And.intro ?_ ?_)
                      | fail
                  · simp only [hh] at st
                    have hend := bad st
                    refine ⟨fun _ => ?_, fun h => Bool.noConfusion (show true = false from h)⟩
                    clear bad good hK
                    repeat' first
                      | exact ⟨rfl, .inr ⟨e, rfl, hend⟩⟩
                      | (refine And.intro ?_ ?_)
                      | fail
        · have h3 : ¬ r.op = 3 := by simpa using ho
          have no : (r.a < 0 ∨ r.a ≥ s.pays.length) → bothM s r = .error 2 := fun h => by unfold bothM; rw [if_pos h]
          refine ⟨fun ho => ?_, fun ho => ?_⟩
          · have ho' : r.op = 4 := by simpa using ho
            refine ⟨fun _ => ?_, fun h => absurd (ho.symm.trans h) (by decide)⟩
            have st : doM s r = captureM s r := by unfold doM; rw [if_neg h0, if_neg h1, if_neg h2, if_neg h3, if_pos ho']
            have no : (r.a < 0 ∨ r.a ≥ s.pays.length) → captureM s r = (s, 2, 0) := fun h => by unfold captureM; simp only [no h]
            unfold captureM at st no
            refine ⟨fun h => ?_, fun h => ?_⟩
            · have h : r.a < 0 := by simpa using h
              have hend := bad (st.trans (no (.inl h)))
              exact ⟨fun _ => hend, fun h => Bool.noConfusion (show true = false from h)⟩
            · have hlo : ¬ r.a < 0 := by simpa using h
              refine ⟨fun hg => ?_, fun hg => ?_⟩
              · have hg : r.a ≥ s.pays.length := by simpa using hg
                exact bad (st.trans (no (.inr hg)))
              · have hg : ¬ r.a ≥ s.pays.length := by simpa using hg
                obtain ⟨p, hp⟩ : ∃ q, s.pays[r.a.toNat]? = some q := ⟨_, List.getElem?_eq_getElem (by omega)⟩
                refine ⟨_, by omega, map_of hp, ?_⟩
                refine ⟨rfl, p, r.op, r.amt, rfl, fun q hq => ?_, fun e hq => ?_⟩
                · have hb : bothM s r = .ok (p, q) := by unfold bothM; rw [if_neg (by omega), hp]; simp only [hq]
                  simp only [hb] at st
                  refine ⟨fun h => Bool.noConfusion (show false = true from h), fun _ => ?_⟩
                  refine ⟨fun h => by simp [ho'] at h, fun _ => ?_⟩
                  refine ⟨rfl, s.accs, p.src, p.dst, r.amt, rfl, fun es hm => ?_, fun e hm => ?_⟩
                  · simp only [hm] at st
                    have hle := move_len hm
                    refine ⟨fun h => Bool.noConfusion (show false = true from h), fun _ => ?_⟩
                    refine ⟨fun _ => ?_, fun h => by simp [ho'] at h⟩
                    refine ⟨rfl, s.accs, r.amt, es, rfl, by omega, by omega, fun l hs => ?_, fun e hs => ?_⟩
                    · simp only [hs, payD] at st
                      have a0 : 0 ≤ r.a := by omega
                      have hend := good st .fz (.own 29000) (.inl rfl) (.inr rfl)
                      rw [← pay_modify hp (fun x => x.ofCells (putCells x.cells 0 (payA q).cells)) q rfl] at hend
                      refine ⟨fun h => Bool.noConfusion (show false = true from h), fun _ => ?_⟩
                      clear bad good hK
                      repeat' first
                        | exact hend
                        | exact ⟨_, a0, map_of hp, hend⟩
                        | (refine ⟨_, a0, map_of hp, ?_⟩)
                        | (refine And.intro ?_ ?_)
                        | fail
                    · simp only [hs, payD] at st
                      have hend := bad st
                      refine ⟨fun _ => ?_, fun h => Bool.noConfusion (show true = false from h)⟩
                      clear bad good hK
                      repeat' first
                        | exact ⟨rfl, .inr ⟨e, rfl, hend⟩⟩
                        | (refine And.intro ?_ ?_)
                        | fail
                  · simp only [hm] at st
                    have hend := bad st
                    refine ⟨fun _ => ?_, fun h => Bool.noConfusion (show true = false from h)⟩
                    clear bad good hK
                    repeat' first
                      | exact ⟨rfl, .inr ⟨e, rfl, hend⟩⟩
                      | (refine And.intro ?_ ?_)
                      | fail
                · have hb : bothM s r = .error e := by unfold bothM; rw [if_neg (by omega), hp]; simp only [hq]
                  simp only [hb] at st
                  have hend := bad st
                  refine ⟨fun _ => ?_, fun h => Bool.noConfusion (show true = false from h)⟩
                  clear bad good hK
                  repeat' first
                    | exact ⟨rfl, .inr ⟨e, rfl, hend⟩⟩
                    | (refine And.intro ?_ ?_)
                    | fail
          · have h4 : ¬ r.op = 4 := by simpa using ho
            refine ⟨fun ho => ?_, fun ho => ?_⟩
            · have h5 : r.op = 5 := by simpa using ho
              refine ⟨fun _ => ?_, fun h => absurd (ho.symm.trans h) (by decide)⟩
              have st : doM s r = voidM s r := by unfold doM; rw [if_neg h0, if_neg h1, if_neg h2, if_neg h3, if_neg h4, if_pos h5]
              have no : (r.a < 0 ∨ r.a ≥ s.pays.length) → voidM s r = (s, 2, 0) := fun h => by unfold voidM; simp only [no h]
              unfold voidM at st no
              refine ⟨fun h => ?_, fun h => ?_⟩
              · have h : r.a < 0 := by simpa using h
                have hend := bad (st.trans (no (.inl h)))
                exact ⟨fun _ => hend, fun h => Bool.noConfusion (show true = false from h)⟩
              · have hlo : ¬ r.a < 0 := by simpa using h
                refine ⟨fun hg => ?_, fun hg => ?_⟩
                · have hg : r.a ≥ s.pays.length := by simpa using hg
                  exact bad (st.trans (no (.inr hg)))
                · have hg : ¬ r.a ≥ s.pays.length := by simpa using hg
                  obtain ⟨p, hp⟩ : ∃ q, s.pays[r.a.toNat]? = some q := ⟨_, List.getElem?_eq_getElem (by omega)⟩
                  refine ⟨_, by omega, map_of hp, ?_⟩
                  refine ⟨rfl, p, r.op, r.amt, rfl, fun q hq => ?_, fun e hq => ?_⟩
                  · have hb : bothM s r = .ok (p, q) := by unfold bothM; rw [if_neg (by omega), hp]; simp only [hq]
                    simp only [hb] at st
                    refine ⟨fun h => Bool.noConfusion (show false = true from h), fun _ => ?_⟩
                    refine ⟨fun _ => ?_, fun h => by simp [h5] at h⟩
                    refine ⟨rfl, p, rfl, ?_⟩
                    refine ⟨rfl, s.accs, p.src, left p, rfl, by omega, fun l hs => ?_, fun e hs => ?_⟩
                    · simp only [hs, payD] at st
                      have a0 : 0 ≤ r.a := by omega
                      have hend := good st .fz (.own 29000) (.inl rfl) (.inr rfl)
                      rw [← pay_modify hp (fun x => x.ofCells (putCells x.cells 0 (payA q).cells)) q rfl] at hend
                      refine ⟨fun h => Bool.noConfusion (show false = true from h), fun _ => ?_⟩
                      clear bad good hK
                      repeat' first
                        | exact hend
                        | exact ⟨_, a0, map_of hp, hend⟩
                        | (refine ⟨_, a0, map_of hp, ?_⟩)
                        | (refine And.intro ?_ ?_)
                        | fail
                    · simp only [hs, payD] at st
                      have hend := bad st
                      refine ⟨fun _ => ?_, fun h => Bool.noConfusion (show true = false from h)⟩
                      clear bad good hK
                      repeat' first
                        | exact ⟨rfl, .inr ⟨e, rfl, hend⟩⟩
                        | (refine And.intro ?_ ?_)
                        | fail
                  · have hb : bothM s r = .error e := by unfold bothM; rw [if_neg (by omega), hp]; simp only [hq]
                    simp only [hb] at st
                    have hend := bad st
                    refine ⟨fun _ => ?_, fun h => Bool.noConfusion (show true = false from h)⟩
                    clear bad good hK
                    repeat' first
                      | exact ⟨rfl, .inr ⟨e, rfl, hend⟩⟩
                      | (refine And.intro ?_ ?_)
                      | fail
            · have h5 : ¬ r.op = 5 := by simpa using ho
              refine ⟨fun ho => ?_, fun ho => ?_⟩
              · have ho' : r.op = 6 := by simpa using ho
                refine ⟨fun _ => ?_, fun h => absurd (ho.symm.trans h) (by decide)⟩
                have st : doM s r = refundM s r := by unfold doM; rw [if_neg h0, if_neg h1, if_neg h2, if_neg h3, if_neg h4, if_neg h5, if_pos ho']
                have no : (r.a < 0 ∨ r.a ≥ s.pays.length) → refundM s r = (s, 2, 0) := fun h => by unfold refundM; simp only [no h]
                unfold refundM at st no
                refine ⟨fun h => ?_, fun h => ?_⟩
                · have h : r.a < 0 := by simpa using h
                  have hend := bad (st.trans (no (.inl h)))
                  exact ⟨fun _ => hend, fun h => Bool.noConfusion (show true = false from h)⟩
                · have hlo : ¬ r.a < 0 := by simpa using h
                  refine ⟨fun hg => ?_, fun hg => ?_⟩
                  · have hg : r.a ≥ s.pays.length := by simpa using hg
                    exact bad (st.trans (no (.inr hg)))
                  · have hg : ¬ r.a ≥ s.pays.length := by simpa using hg
                    obtain ⟨p, hp⟩ : ∃ q, s.pays[r.a.toNat]? = some q := ⟨_, List.getElem?_eq_getElem (by omega)⟩
                    refine ⟨_, by omega, map_of hp, ?_⟩
                    refine ⟨rfl, p, r.op, r.amt, rfl, fun q hq => ?_, fun e hq => ?_⟩
                    · have hb : bothM s r = .ok (p, q) := by unfold bothM; rw [if_neg (by omega), hp]; simp only [hq]
                      simp only [hb] at st
                      refine ⟨fun h => Bool.noConfusion (show false = true from h), fun _ => ?_⟩
                      refine ⟨fun h => by simp [ho'] at h, fun _ => ?_⟩
                      refine ⟨rfl, s.accs, p.src, p.dst, r.amt, rfl, fun es hm => ?_, fun e hm => ?_⟩
                      · simp only [backD, hm] at st
                        have hle := move_len hm
                        obtain ⟨⟨-, -⟩, d0, d1⟩ := move_in hm
                        obtain ⟨e1, el, hel⟩ := move_some hm
                        have hle2 : (e1 :: el).length ≤ 4 := by rw [← hel, backM_len]; exact hle
                        rw [hel] at st
                        obtain ⟨a, ha⟩ : ∃ a, s.accs[p.dst.toNat]? = some a := ⟨_, List.getElem?_eq_getElem (by omega)⟩
                        refine ⟨fun h => Bool.noConfusion (show false = true from h), fun _ => ?_⟩
                        refine ⟨fun h => by simp [ho'] at h, fun _ => ?_⟩
                        refine ⟨[entsA es], ⟨.inl rfl, trivial⟩, rfl, es, rfl, by omega, ?_⟩
                        rw [hel]
                        refine ⟨_, d0, map_of ha, ?_⟩
                        refine ⟨_, d0, map_of ha, ?_⟩
                        refine ⟨fun h => by simp [ho'] at h, fun _ => ?_⟩
                        refine ⟨fun h => Bool.noConfusion (show false = true from h), fun _ => ?_⟩
                        refine ⟨rfl, s.accs, e1 :: el, rfl, by omega, by omega, fun l hs => ?_, fun e hs => ?_⟩
                        · simp only [hs, payD] at st
                          have a0 : 0 ≤ r.a := by omega
                          have hend := good st .fz (.own 29000) (.inl rfl) (.inr rfl)
                          rw [← pay_modify hp (fun x => x.ofCells (putCells x.cells 0 (payA q).cells)) q rfl] at hend
                          refine ⟨fun h => Bool.noConfusion (show false = true from h), fun _ => ?_⟩
                          clear bad good hK
                          repeat' first
                            | exact hend
                            | exact ⟨_, a0, map_of hp, hend⟩
                            | (refine ⟨_, a0, map_of hp, ?_⟩)
                            | (refine And.intro ?_ ?_)
                            | fail
                        · simp only [hs, payD] at st
                          have hend := bad st
                          refine ⟨fun _ => ?_, fun h => Bool.noConfusion (show true = false from h)⟩
                          clear bad good hK
                          repeat' first
                            | exact ⟨rfl, .inr ⟨e, rfl, hend⟩⟩
                            | (refine And.intro ?_ ?_)
                            | fail
                      · simp only [backD, hm] at st
                        have hend := bad st
                        refine ⟨fun _ => ?_, fun h => Bool.noConfusion (show true = false from h)⟩
                        clear bad good hK
                        repeat' first
                          | exact ⟨rfl, .inr ⟨e, rfl, hend⟩⟩
                          | (refine And.intro ?_ ?_)
                          | fail
                    · have hb : bothM s r = .error e := by unfold bothM; rw [if_neg (by omega), hp]; simp only [hq]
                      simp only [hb] at st
                      have hend := bad st
                      refine ⟨fun _ => ?_, fun h => Bool.noConfusion (show true = false from h)⟩
                      clear bad good hK
                      repeat' first
                        | exact ⟨rfl, .inr ⟨e, rfl, hend⟩⟩
                        | (refine And.intro ?_ ?_)
                        | fail
              · have h6 : ¬ r.op = 6 := by simpa using ho
                refine ⟨fun ho => ?_, fun ho => ?_⟩
                · have ho' : r.op = 7 := by simpa using ho
                  have st : doM s r = chargeM s r := by unfold doM; rw [if_neg h0, if_neg h1, if_neg h2, if_neg h3, if_neg h4, if_neg h5, if_neg h6, if_pos ho']
                  have no : (r.a < 0 ∨ r.a ≥ s.pays.length) → chargeM s r = (s, 2, 0) := fun h => by unfold chargeM; simp only [no h]
                  unfold chargeM at st no
                  refine ⟨fun h => ?_, fun h => ?_⟩
                  · have h : r.a < 0 := by simpa using h
                    have hend := bad (st.trans (no (.inl h)))
                    exact ⟨fun _ => hend, fun h => Bool.noConfusion (show true = false from h)⟩
                  · have hlo : ¬ r.a < 0 := by simpa using h
                    refine ⟨fun hg => ?_, fun hg => ?_⟩
                    · have hg : r.a ≥ s.pays.length := by simpa using hg
                      exact bad (st.trans (no (.inr hg)))
                    · have hg : ¬ r.a ≥ s.pays.length := by simpa using hg
                      obtain ⟨p, hp⟩ : ∃ q, s.pays[r.a.toNat]? = some q := ⟨_, List.getElem?_eq_getElem (by omega)⟩
                      refine ⟨_, by omega, map_of hp, ?_⟩
                      refine ⟨rfl, p, r.op, r.amt, rfl, fun q hq => ?_, fun e hq => ?_⟩
                      · have hb : bothM s r = .ok (p, q) := by unfold bothM; rw [if_neg (by omega), hp]; simp only [hq]
                        simp only [hb] at st
                        refine ⟨fun h => Bool.noConfusion (show false = true from h), fun _ => ?_⟩
                        refine ⟨fun h => by simp [ho'] at h, fun _ => ?_⟩
                        refine ⟨rfl, s.accs, p.src, p.dst, r.amt, rfl, fun es hm => ?_, fun e hm => ?_⟩
                        · simp only [backD, hm] at st
                          have hle := move_len hm
                          obtain ⟨⟨-, -⟩, d0, d1⟩ := move_in hm
                          obtain ⟨e1, el, hel⟩ := move_some hm
                          have hle2 : (e1 :: el).length ≤ 4 := by rw [← hel, backM_len]; exact hle
                          rw [hel] at st
                          obtain ⟨a, ha⟩ : ∃ a, s.accs[p.dst.toNat]? = some a := ⟨_, List.getElem?_eq_getElem (by omega)⟩
                          refine ⟨fun h => Bool.noConfusion (show false = true from h), fun _ => ?_⟩
                          refine ⟨fun h => by simp [ho'] at h, fun _ => ?_⟩
                          refine ⟨[entsA es], ⟨.inl rfl, trivial⟩, rfl, es, rfl, by omega, ?_⟩
                          rw [hel]
                          refine ⟨_, d0, map_of ha, ?_⟩
                          refine ⟨_, d0, map_of ha, ?_⟩
                          have hab := hcu a (List.mem_of_getElem? ha)
                          have hfr : freeN a = a.bal - a.held := w64_of (by omega) (by omega)
                          have hea := back_amt hm e1 (by rw [hel]; exact List.mem_cons_self ..)
                          have hlk := lack_eq (s := s) (p := p) (e := e1) (es := el) ha hab hea
                          rw [hlk] at st
                          refine ⟨fun _ => ?_, fun h => by simp [ho'] at h⟩
                          refine ⟨_, Int.le_refl 0, rfl, ?_⟩
                          refine ⟨fun hg => ?_, fun hg => ?_⟩
                          · have hg : w64 (0 - e1.amt) > freeN a := of_decide_eq_true hg
                            rw [if_pos hg] at st
                            refine ⟨_, d0, map_of ha, ?_⟩
                            refine ⟨_, Int.le_refl 0, rfl, ?_⟩
                            have bd : ((el.map entA).length + 1 + 1) * 16 ≤ 140737488355328 := by rw [List.length_map]; simp at hle2; omega
                            refine ⟨bd, ?_⟩
                            refine ⟨_, Int.le_refl 0, rfl, ?_⟩
                            have hels : (entA ⟨e1.acct, w64 (0 - freeN a)⟩ :: el.map entA) ++ [entA ⟨w64 (w64 (3 * a.cur) + 2), w64 (e1.amt + freeN a)⟩] = ((⟨e1.acct, w64 (0 - freeN a)⟩ : Ent) :: (el ++ [⟨w64 (w64 (3 * a.cur) + 2), w64 (e1.amt + freeN a)⟩])).map entA := by simp
                            refine ⟨rfl, s.accs, ⟨e1.acct, w64 (0 - freeN a)⟩ :: (el ++ [⟨w64 (w64 (3 * a.cur) + 2), w64 (e1.amt + freeN a)⟩]), ?_, by omega, by simp at hle2 ⊢; omega, fun l hs => ?_, fun e hs => ?_⟩
                            · exact congrArg (fun x => [accsA s.accs, AV.sl .fz 108 x]) hels
                            · simp only [hs, payD] at st
                              have a0 : 0 ≤ r.a := by omega
                              have hend := good st .fz (.own 29000) (.inl rfl) (.inr rfl)
                              rw [← pay_modify hp (fun x => x.ofCells (putCells x.cells 0 (payA q).cells)) q rfl] at hend
                              refine ⟨fun h => Bool.noConfusion (show false = true from h), fun _ => ?_⟩
                              clear bad good hK
                              repeat' first
                                | exact hend
                                | exact ⟨_, a0, map_of hp, hend⟩
                                | (refine ⟨_, a0, map_of hp, ?_⟩)
                                | (refine And.intro ?_ ?_)
                                | fail
                            · simp only [hs, payD] at st
                              have hend := bad st
                              refine ⟨fun _ => ?_, fun h => Bool.noConfusion (show true = false from h)⟩
                              clear bad good hK
                              repeat' first
                                | exact ⟨rfl, .inr ⟨e, rfl, hend⟩⟩
                                | (refine And.intro ?_ ?_)
                                | fail
                          · have hg : ¬ w64 (0 - e1.amt) > freeN a := of_decide_eq_false hg
                            rw [if_neg hg] at st
                            refine ⟨rfl, s.accs, e1 :: el, rfl, by omega, by omega, fun l hs => ?_, fun e hs => ?_⟩
                            · simp only [hs, payD] at st
                              have a0 : 0 ≤ r.a := by omega
                              have hend := good st .fz (.own 29000) (.inl rfl) (.inr rfl)
                              rw [← pay_modify hp (fun x => x.ofCells (putCells x.cells 0 (payA q).cells)) q rfl] at hend
                              refine ⟨fun h => Bool.noConfusion (show false = true from h), fun _ => ?_⟩
                              clear bad good hK
                              repeat' first
                                | exact hend
                                | exact ⟨_, a0, map_of hp, hend⟩
                                | (refine ⟨_, a0, map_of hp, ?_⟩)
                                | (refine And.intro ?_ ?_)
                                | fail
                            · simp only [hs, payD] at st
                              have hend := bad st
                              refine ⟨fun _ => ?_, fun h => Bool.noConfusion (show true = false from h)⟩
                              clear bad good hK
                              repeat' first
                                | exact ⟨rfl, .inr ⟨e, rfl, hend⟩⟩
                                | (refine And.intro ?_ ?_)
                                | fail
                        · simp only [backD, hm] at st
                          have hend := bad st
                          refine ⟨fun _ => ?_, fun h => Bool.noConfusion (show true = false from h)⟩
                          clear bad good hK
                          repeat' first
                            | exact ⟨rfl, .inr ⟨e, rfl, hend⟩⟩
                            | (refine And.intro ?_ ?_)
                            | fail
                      · have hb : bothM s r = .error e := by unfold bothM; rw [if_neg (by omega), hp]; simp only [hq]
                        simp only [hb] at st
                        have hend := bad st
                        refine ⟨fun _ => ?_, fun h => Bool.noConfusion (show true = false from h)⟩
                        clear bad good hK
                        repeat' first
                          | exact ⟨rfl, .inr ⟨e, rfl, hend⟩⟩
                          | (refine And.intro ?_ ?_)
                          | fail
                · have h7 : ¬ r.op = 7 := by simpa using ho
                  exact bad (by unfold doM; rw [if_neg h0, if_neg h1, if_neg h2, if_neg h3, if_neg h4, if_neg h5, if_neg h6, if_neg h7])
end Go.Proofs.YtkeafcjdejmohaaDoor.A
