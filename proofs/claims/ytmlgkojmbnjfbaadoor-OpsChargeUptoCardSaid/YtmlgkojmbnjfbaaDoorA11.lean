/- A function's body, walked. -/
import Derived.Test.YtmlgkojmbnjfbaaDoorA10
import Derived.LoopN
namespace Go.Proofs.YtmlgkojmbnjfbaaDoor.A
open Go

section
variable {P : Program} {E : En} {ρ : Nat → Value}

theorem undef_v {T : Tab} {c : Cx} : V T c (.tup []) undef := .tup [] [] rfl (fun i x u hx => by simp at hx)
theorem V.bool_at {c : Cx} {s : St} {a : Act} (hR : Rel E.T ρ c s a) {d : Nat} (hd : d < a.tmps.size) (hm : d < 1000000) {b : Bool} (h : s.t d = .bool b) : a.tmps[d]? = some (.bool b) := by
  have := (show V E.T c (.bool b) _ from h ▸ hR.t d).bool_inv
  rw [vals, if_pos hm, Array.getD_eq_getD_getElem?, Array.getElem?_eq_getElem hd, Option.getD_some] at this
  rw [Array.getElem?_eq_getElem hd, this]

theorem wanted_sound {c : Cx} {s : St} {a : Act} (hR : Rel E.T ρ c s a) {ops : Array Oper} {o : Oper} (hd : ∀ (i : Nat) (p : Oper) (d : Tmp), ops.toList[i]? = some p → p.dst = some d → d < a.tmps.size) (hm : a.tmps.size ≤ 1000000) {b : Bool} (h : wantedA ops.toList s o = some b) : Region.wanted o (yielded ops a.tmps) = b := by
  unfold wantedA at h
  unfold Region.wanted
  split at h
  · rename_i hg
    rw [hg]
    exact Option.some.inj h
  · rename_i j want hg
    rw [hg]
    split at h
    · rename_i p hp
      split at h
      · rename_i d hpd
        have hp' : ops[j]? = some p := by rw [← Array.getElem?_toList]; exact hp
        have key : ∀ q, s.t d = .bool q → yielded ops a.tmps j = some q := fun q hq => by
          have := V.bool_at hR (hd j p d hp hpd) (Nat.lt_of_lt_of_le (hd j p d hp hpd) hm) hq
          unfold yielded
          rw [hp']
          simp [hpd, this]
        have key' : s.t d = .tup [] → yielded ops a.tmps j = none := fun hq => by
          have hdl := hd j p d hp hpd
          have hv := hR.t d
          rw [hq, vals, if_pos (Nat.lt_of_lt_of_le hdl hm), Array.getD_eq_getD_getElem?, Array.getElem?_eq_getElem hdl, Option.getD_some] at hv
          obtain ⟨us, hus, hl⟩ := hv.tup_inv
          unfold yielded
          rw [hp']
          simp only [Option.bind_some, hpd, Array.getElem?_eq_getElem hdl, hus]
        split at h <;> first | (rename_i hq; have := key _ hq; cases h; simp [this]; done) | (rename_i hq; have := key' hq; cases h; simp [this]; done) | cases h
      · cases h
    · cases h

/-- What holds at an end. -/
def Post (E : En) (ρ : Nat → Value) (c0 : Cx) (N : Nat) (Q : Ex → St → Prop) : Exit → Act → World → Prop
  | .normal, a, w => ∃ c s, c.w = w ∧ Step c0 c ∧ Rel E.T ρ c s a ∧ a.tmps.size = N ∧ Q .normal s
  | .exit i, a, w => ∃ c s, c.w = w ∧ Step c0 c ∧ Rel E.T ρ c s a ∧ a.tmps.size = N ∧ Q (.exit i) s
  | .ret, a, w => ∃ c s, c.w = w ∧ Step c0 c ∧ Rel E.T ρ c s a ∧ a.tmps.size = N ∧ Q .ret s
  | _, _, _ => False
theorem Post.mono {c0 : Cx} {N : Nat} {Q Q' : Ex → St → Prop} (h : ∀ e s, Q e s → Q' e s) {e : Exit} {a : Act} {w : World} (hp : Post E ρ c0 N Q e a w) : Post E ρ c0 N Q' e a w := by
  cases e with
  | normal => obtain ⟨c, s, h1, h2, h3, h4, h5⟩ := hp; exact ⟨c, s, h1, h2, h3, h4, h _ _ h5⟩
  | exit i => obtain ⟨c, s, h1, h2, h3, h4, h5⟩ := hp; exact ⟨c, s, h1, h2, h3, h4, h _ _ h5⟩
  | ret => obtain ⟨c, s, h1, h2, h3, h4, h5⟩ := hp; exact ⟨c, s, h1, h2, h3, h4, h _ _ h5⟩
  | _ => exact hp

theorem list_sound (hT : TabOk P E.T) (hC : CallOk P E.T E.R) (hJ : JOk P E.T E.J) {c0 : Cx} {N : Nat} (hN : N ≤ 1000000) {ops : Array Oper} (hops : ∀ (i : Nat) (p : Oper) (d : Tmp), ops.toList[i]? = some p → p.dst = some d → d < N) {Q : Ex → St → Prop} :
    ∀ (l : List Oper) (c : Cx) (s : St) (a : Act), (∀ (i : Nat) (p : Oper) (d : Tmp), l[i]? = some p → p.dst = some d → d < N) → Step c0 c → Rel E.T ρ c s a → a.tmps.size = N → listA E ops.toList (Q .normal) l s → wpList P ops (Post E ρ c0 N Q) l a c.w
  | [], c, s, a, _, h0, hR, hs, h => ⟨c, s, rfl, h0, hR, hs, h⟩
  | o :: l, c, s, a, hl, h0, hR, hs, h => by
    have hl' : ∀ (i : Nat) (p : Oper) (d : Tmp), l[i]? = some p → p.dst = some d → d < N := fun i p d hi => hl (i + 1) p d (by simpa using hi)
    have hdst : ∀ d, o.dst = some d → d < a.tmps.size ∧ d < 1000000 := fun d hd => by
      have := hl 0 o d rfl hd
      exact ⟨by rw [hs]; exact this, Nat.lt_of_lt_of_le this hN⟩
    rw [listA_cons] at h
    unfold wpList
    split at h
    · rename_i hw
      rw [if_pos (wanted_sound hR (by rw [hs]; exact hops) (by rw [hs]; exact hN) hw)]
      refine .inl (op_sound hT hC hJ hR hdst h fun a' c' s' h1 _ h2 h3 h4 => ?_)
      have go : listA E ops.toList (Q .normal) l s' → wpList P ops (Post E ρ c0 N Q) l a' c'.w := fun hk => list_sound hT hC hJ hN hops l c' s' a' hl' (h0.trans h1) h2 (h3.trans hs) hk
      unfold parted at h4
      split at h4
      · rename_i d hd hdd
        split at h4
        · rename_i b hb
          have hgo : listA E ops.toList (Q .normal) l (s'.put (some d) (.bool b)) := by
            cases b
            · exact go_iff.1 (h4.2 rfl)
            · exact go_iff.1 (h4.1 rfl)
          have : s'.put (some d) (.bool b) = s' := by
            cases s' with
            | mk t hh =>
              simp only [St.put, St.mk.injEq, and_true]
              exact upd_same t d _ hb
          rw [this] at hgo
          exact go hgo
        · exact h4.elim
      · exact go h4
    · rename_i hw
      rw [if_neg (by rw [wanted_sound hR (by rw [hs]; exact hops) (by rw [hs]; exact hN) hw]; simp)]
      rw [go_iff] at h
      exact list_sound hT hC hJ hN hops l c _ _ hl' h0 (hR.put o.dst hdst undef_v) ((put_size _ _ _).trans hs) h
    · exact h.elim

/-- What a drawn region's walk leans on. -/
def Held (c : Cx) (H : List Nat × List Nat) (w : World) : Prop := (∀ g, c.Z g → w.heap[g]? = c.w.heap[g]?) ∧ (∀ b ∈ H.1, ∀ g, c.bk b = some g → w.heap[g]? = c.w.heap[g]?) ∧ ∀ F ∈ H.2, ∀ g, c.fm F = some g → w.heap[g]? = c.w.heap[g]?
theorem Held.self (c : Cx) (H : List Nat × List Nat) : Held c H c.w := ⟨fun _ _ => rfl, fun _ _ _ _ => rfl, fun _ _ _ _ => rfl⟩
theorem anyH_strong {P : Program} {md : Region.Mode} {ops : Array Oper} {Q : Exit → Act → World → Prop} {S S' : World → Prop} (h : ∀ w, S' w → S w) : ∀ (fuel : Nat) (listed : Array Bool) (a : Act) (w : World), wpAnyH P md ops Q S' fuel listed a w → wpAnyH P md ops Q S fuel listed a w
  | 0, _, _, _, hh => hh
  | fuel + 1, _, _, _, hh => ⟨hh.1, fun i hi => wpOp_mono (fun a' w' h' => ⟨h w' h'.1, anyH_strong h fuel _ a' w' h'.2⟩) (hh.2 i hi)⟩
theorem all_mem {α : Type} {p : α → Bool} : ∀ {l : List α}, all? p l = true → ∀ x ∈ l, p x = true
  | [], _, x, hx => by simp at hx
  | y :: l, h, x, hx => by
    have h : (p y && all? p l) = true := h
    rw [Bool.and_eq_true] at h
    rcases List.mem_cons.1 hx with rfl | hx
    · exact h.1
    · exact all_mem h.2 x hx
theorem free_hits {H : List Nat} {b0 : Tch} (hf : freeB H b0 = true) : ∀ b ∈ H, b0.hits b = false := fun b hb => by
  cases b0 with
  | non => rfl
  | one k =>
    simp only [Tch.hits]
    cases hq : Nat.beq k b with
    | false => rfl
    | true =>
      rw [Nat.eq_of_beq_eq_true hq] at hf
      simp [freeB] at hf
      exact (hf hb).elim
  | all =>
    simp [freeB] at hf
    rw [hf] at hb
    cases hb
  | rng lo hi =>
    have hf : all? (fun F => !(Nat.ble lo F && Nat.blt F hi)) H = true := hf
    have := all_mem hf b hb
    have this : (!(Nat.ble lo b && Nat.blt b hi)) = true := this
    show (Nat.ble lo b && Nat.blt b hi) = false
    cases hq : (Nat.ble lo b && Nat.blt b hi) with
    | false => rfl
    | true => rw [hq] at this; cases this
theorem held_step {c c' : Cx} {H : List Nat × List Nat} {b0 f0 : Tch} (hok : c.Ok) (hS : Step c c') (hK : KeepsB c c' b0 f0) (hf : freeB H.1 b0 = true) (hf' : freeB H.2 f0 = true) : Held c H c'.w ∧ ∀ w, Held c' H w → Held c H w := by
  have hne := free_hits hf
  have hne' := free_hits hf'
  have h1 : ∀ g, c.Z g → c'.w.heap[g]? = c.w.heap[g]? := fun g hg => hS.blk g (hok.zlt g hg) (fun h => h.elim (fun ⟨b, hb⟩ => hok.zb b g hb hg) (fun ⟨F, hF⟩ => hok.zf F g hF hg))
  exact ⟨⟨h1, fun b hb g hg => (hK.1 b g hg (hne b hb)).2, fun F hF g hg => (hK.2 F g hg (hne' F hF)).2⟩, fun w hw => ⟨fun g hg => (hw.1 g (hS.z g hg)).trans (h1 g hg), fun b hb g hg => (hw.2.1 b hb g (hK.1 b g hg (hne b hb)).1).trans (hK.1 b g hg (hne b hb)).2, fun F hF g hg => (hw.2.2 F hF g (hK.2 F g hg (hne' F hF)).1).trans (hK.2 F g hg (hne' F hF)).2⟩⟩
theorem sees_held {c : Cx} {s : St} {o : Oper} {H : List Nat × List Nat} {w : World} (h : Held c (readsA s o ++ H.1, readsF s o ++ H.2) w) : SeesO c s o w := by
  unfold SeesO
  split
  · rename_i t x hop
    split
    · rename_i b off hb
      refine h.2.1 b ?_
      simp [readsA, hop, hb]
    · rename_i t' e i off cs hb
      refine ⟨h.1, fun F hF g hg => ?_⟩
      subst hF
      exact h.2.2 F (by simp [readsF, hop, hb]) g hg
    · trivial
  · trivial

theorem parted_out {all : List Oper} {d : Option Tmp} {K : St → Prop} {s : St} (h : parted all d K s) : K s := by
  unfold parted at h
  cases d with
  | none => cases hq : asked all none <;> rw [hq] at h <;> exact h
  | some d =>
    cases hq : asked all (some d) with
    | false => rw [hq] at h; exact h
    | true =>
      rw [hq] at h
      simp only [] at h
      split at h
      · rename_i b hb
        have hgo : K (s.put (some d) (.bool b)) := by
          cases b
          · exact go_iff.1 (h.2 rfl)
          · exact go_iff.1 (h.1 rfl)
        have : s.put (some d) (.bool b) = s := by
          cases s with
          | mk t hh =>
            simp only [St.put, St.mk.injEq, and_true]
            exact upd_same t d _ hb
        rwa [this] at hgo
      · exact h.elim

/-! ### what was looked at may be written once it must have come up -/
section
variable {P : Program} {ops : Array Oper} {Q : Exit → Act → World → Prop}
/-- With an operation all that it waits for has come up. -/
def Shut (ops : Array Oper) (listed : Array Bool) : Prop := ∀ (j : Nat) (o : Oper), listed.getD j false = true → ops[j]? = some o → ∀ e ∈ o.after, Region.binds .any e = true → listed.getD e.on false = true
theorem before_listed {listed : Array Bool} (hc : Shut ops listed) : ∀ (n k j : Nat), before ops n k j = true → (∀ o, ops[j]? = some o → ∀ e ∈ o.after, Region.binds .any e = true → listed.getD e.on false = true) → listed.getD k false = true
  | 0, _, _, h, _ => by cases h
  | n + 1, k, j, h, hj => by
    unfold before at h
    split at h
    · rename_i o ho
      rw [List.any_eq_true] at h
      obtain ⟨e, he, hb⟩ := h
      rw [Bool.and_eq_true, Bool.or_eq_true] at hb
      have he : e ∈ o.after := by simpa using he
      have hl := hj o ho e he hb.1
      rcases hb.2 with h1 | h1
      · rw [← Nat.eq_of_beq_eq_true h1]; exact hl
      · exact before_listed hc n k e.on h1 (fun o' ho' => hc e.on o' hl ho')
    · cases h
theorem shut_none : Shut ops (Array.replicate ops.size false) := fun j o hj _ => by
  exfalso
  rw [Array.getD_eq_getD_getElem?] at hj
  by_cases h : j < ops.size
  · simp [h] at hj
  · simp [h] at hj
theorem shut_set {listed : Array Bool} {i : Nat} (hc : Shut ops listed) (hi : i ∈ Region.ready .any ops listed) : Shut ops (listed.setIfInBounds i true) := fun j o hj ho e he hb => by
  refine getD_set_true ?_
  by_cases hij : i = j
  · subst hij
    obtain ⟨_, o', ho', hall⟩ := mem_ready.1 hi
    obtain rfl : o' = o := Option.some.inj (ho'.symm.trans ho)
    exact hall e he hb
  · rw [getD_set_ne false hij] at hj
    exact hc j o hj ho e he hb
/-- Whatever order is picked; T: operations that were looked at first, each with what it asks of the world as long as it may not have come up. -/
def wpAnyK (P : Program) (ops : Array Oper) (Q : Exit → Act → World → Prop) (b : Nat → Nat → Bool) : Nat → List (Nat × (World → Prop)) → Array Bool → Act → World → Prop
  | 0, _, listed, a, w => Region.ready .any ops listed = [] ∧ Q .normal a w
  | fuel + 1, T, listed, a, w =>
    (Region.ready .any ops listed = [] → Q .normal a w) ∧
    ∀ i ∈ Region.ready .any ops listed, wpOp P ops Q i (fun a' w' => (∀ t ∈ T, b t.1 i = false → t.2 w') ∧ wpAnyK P ops Q b fuel (T.filter fun t => !b t.1 i) (listed.setIfInBounds i true) a' w') a w
theorem wpAny_of_K {b : Nat → Nat → Bool} : ∀ (fuel : Nat) (T : List (Nat × (World → Prop))) (listed : Array Bool) (a : Act) (w : World), wpAnyK P ops Q b fuel T listed a w → wpAny P .any ops Q fuel listed a w
  | 0, _, _, _, _, h => h
  | fuel + 1, _, _, _, _, h => ⟨h.1, fun i hi => wpOp_mono (fun a' w' h' => wpAny_of_K fuel _ _ a' w' h'.2) (h.2 i hi)⟩
theorem wpAnyK_mono {b : Nat → Nat → Bool} : ∀ (fuel : Nat) (T T' : List (Nat × (World → Prop))) (listed : Array Bool) (a : Act) (w : World), (∀ t ∈ T, ∃ t' ∈ T', t'.1 = t.1 ∧ ∀ w, t'.2 w → t.2 w) → wpAnyK P ops Q b fuel T' listed a w → wpAnyK P ops Q b fuel T listed a w
  | 0, _, _, _, _, _, _, h => h
  | fuel + 1, T, T', listed, a, w, hT, h => ⟨h.1, fun i hi => wpOp_mono (fun a' w' h' => ⟨fun t ht hb => by
      obtain ⟨t', ht', he, hs⟩ := hT t ht
      exact hs _ (h'.1 t' ht' (by rw [he]; exact hb)), wpAnyK_mono fuel _ _ _ a' w' (fun t ht => by
      obtain ⟨h1, h2⟩ := List.mem_filter.1 ht
      obtain ⟨t', ht', he, hs⟩ := hT t h1
      exact ⟨t', List.mem_filter.2 ⟨ht', by rw [he]; exact h2⟩, he, hs⟩) h'.2⟩) (h.2 i hi)⟩
theorem wpAnyK_first {n i : Nat} {oi : Oper} {v : Value} {S : World → Prop} (hi : ops[i]? = some oi) (hsel : ∀ (j : Nat) (o : Oper) cs b, ops[j]? = some o → o.op ≠ .select cs b)
    (hQ : ∀ c a w, Q (.panic c) (a.put oi.dst v) w → Q (.panic c) a w) :
    ∀ (fuel : Nat) (T : List (Nat × (World → Prop))) (listed : Array Bool) (a : Act) (w : World), Shut ops listed →
      (∀ j oj, ops[j]? = some oj → j ≠ i → listed.getD j true = false → (∀ e ∈ oj.after, Region.binds .any e = true → e.on ≠ i) → oi.apart ops oj = true) →
      i ∈ Region.ready .any ops listed → YieldsIf P ops S oi v a → S w → (∀ t ∈ T, t.2 w) →
      wpAnyK P ops Q (before ops n) fuel ((i, S) :: T) (listed.setIfInBounds i true) (a.put oi.dst v) w → wpAnyK P ops Q (before ops n) (fuel + 1) T listed a w := by
  have sub : ∀ (T : List (Nat × (World → Prop))) (f : Nat × (World → Prop) → Bool), ∀ t ∈ T.filter f, ∃ t' ∈ (i, S) :: T, t'.1 = t.1 ∧ ∀ w, t'.2 w → t.2 w := fun T f t ht => ⟨t, List.mem_cons_of_mem _ (List.mem_filter.1 ht).1, rfl, fun _ h => h⟩
  intro fuel
  induction fuel with
  | zero =>
    intro T listed a w hc _ hr hy hS hT H
    refine ⟨fun h => (by rw [h] at hr; cases hr), fun j hj => ?_⟩
    by_cases hji : j = i
    · subst hji; exact hy.wpOp hi hS ⟨fun t ht _ => hT t ht, H⟩
    · have := ready_mono hj hji
      rw [H.1] at this
      cases this
  | succ fuel ih =>
    intro T listed a w hc hfree hr hy hS hT H
    refine ⟨fun h => (by rw [h] at hr; cases hr), fun j hj => ?_⟩
    by_cases hji : j = i
    · subst hji; exact hy.wpOp hi hS ⟨fun t ht _ => hT t ht, wpAnyK_mono _ _ _ _ _ _ (sub T _) H⟩
    · have h1 := H.2 j (ready_mono hj hji)
      obtain ⟨hjun, oj, hoj, hall⟩ := mem_ready.1 hj
      have hun : ¬ listed.getD i false = true := fun h1 => by
        have h0 := (mem_ready.1 hr).1
        rw [Array.getD_eq_getD_getElem?] at h0 h1
        rcases Nat.lt_or_ge i listed.size with h' | h'
        · simp [h'] at h0 h1; rw [h0] at h1; cases h1
        · simp [Array.getElem?_eq_none h'] at h1
      have hnot : ∀ e ∈ oj.after, Region.binds .any e = true → e.on ≠ i := fun e he hb heq => hun (heq ▸ hall e he hb)
      have hbf : before ops n i j = false := by
        cases hq : before ops n i j with
        | false => rfl
        | true => exact absurd (before_listed hc n i j hq (fun o ho => by
            obtain rfl : oj = o := Option.some.inj (hoj.symm.trans ho)
            exact hall)) hun
      have h2 := wpOp_putIf hoj (hfree j oj hoj hji hjun hnot) (fun cs b => hsel i oi cs b hi) (fun cs b => hsel j oj cs b hoj) hQ hy h1
      have hfree' : ∀ k ok, ops[k]? = some ok → k ≠ i → (listed.setIfInBounds j true).getD k true = false →
          (∀ e ∈ ok.after, Region.binds .any e = true → e.on ≠ i) → oi.apart ops ok = true := fun k ok hk hki hun hno => by
        refine hfree k ok hk hki ?_ hno
        by_cases hjk : j = k
        · subst hjk; exact hjun
        · rw [getD_set_ne true hjk] at hun; exact hun
      refine wpOp_mono (fun a' w' h3 => ?_) h2
      have hcond := h3.2.1
      have hSw : S w' := hcond (i, S) (List.mem_cons_self ..) hbf
      have hTw : ∀ t ∈ T, before ops n t.1 j = false → t.2 w' := fun t ht => hcond t (List.mem_cons_of_mem _ ht)
      refine ⟨hTw, ih _ (listed.setIfInBounds j true) a' w' (shut_set hc hj) hfree' (ready_mono hr (Ne.symm hji)) h3.1 hSw (fun t ht => by
        obtain ⟨q1, q2⟩ := List.mem_filter.1 ht
        exact hTw t q1 (by simpa using q2)) ?_⟩
      rw [Array.setIfInBounds_comm _ _ hji]
      have h4 := h3.2.2
      rw [List.filter_cons, if_pos (by rw [hbf]; rfl)] at h4
      exact h4
theorem wpAnyK_take {n i : Nat} {oi : Oper} {v : Value} {S : World → Prop} {fuel : Nat} {T : List (Nat × (World → Prop))} {listed : Array Bool} {a : Act} {w : World} (hc : Shut ops listed) (hi : ops[i]? = some oi)
    (hs : Region.noSelect ops = true) (hf : Region.free .any ops listed i = true) (hr : (Region.ready .any ops listed).contains i = true)
    (hQ : ∀ c a w, Q (.panic c) (a.put oi.dst v) w → Q (.panic c) a w) (hy : YieldsIf P ops S oi v a) (hS : S w) (hT : ∀ t ∈ T, t.2 w)
    (h : wpAnyK P ops Q (before ops n) fuel ((i, S) :: T) (listed.setIfInBounds i true) (a.put oi.dst v) w) : wpAnyK P ops Q (before ops n) (fuel + 1) T listed a w :=
  wpAnyK_first hi (Region.noSelect_spec hs) hQ fuel T listed a w hc (Region.free_spec hi hf) (by simpa using hr) hy hS hT h
theorem wpAnyK_all {b : Nat → Nat → Bool} {rs : List Nat} {fuel : Nat} {T : List (Nat × (World → Prop))} {listed : Array Bool} {a : Act} {w : World} (hr : Region.ready .any ops listed = rs) (hne : rs ≠ [])
    (h : ∀ i ∈ rs, wpOp P ops Q i (fun a' w' => (∀ t ∈ T, b t.1 i = false → t.2 w') ∧ wpAnyK P ops Q b fuel (T.filter fun t => !b t.1 i) (listed.setIfInBounds i true) a' w') a w) : wpAnyK P ops Q b (fuel + 1) T listed a w :=
  ⟨fun h0 => absurd (hr ▸ h0) hne, hr ▸ h⟩
theorem wpAnyK_done {b : Nat → Nat → Bool} {listed : Array Bool} {T : List (Nat × (World → Prop))} {a : Act} {w : World} (hr : Region.ready .any ops listed = []) (h : Q .normal a w) : ∀ fuel, wpAnyK P ops Q b fuel T listed a w
  | 0 => ⟨hr, h⟩
  | _ + 1 => ⟨fun _ => h, by rw [hr]; simp⟩
end
/-- What those that were looked at first ask. -/
def asks (c : Cx) (H : List Nat × List Nat) (L : List Nat) : List (Nat × (World → Prop)) := L.map fun k => (k, Held c H)
theorem asks_mem {c : Cx} {H : List Nat × List Nat} {L : List Nat} {t : Nat × (World → Prop)} : t ∈ asks c H L ↔ t.1 ∈ L ∧ t.2 = Held c H := by
  unfold asks
  rw [List.mem_map]
  exact ⟨fun ⟨k, hk, e⟩ => e ▸ ⟨hk, rfl⟩, fun ⟨h1, h2⟩ => ⟨t.1, h1, by cases t; simp at h2; rw [h2]⟩⟩
theorem draw_sound (hT : TabOk P E.T) (hC : CallOk P E.T E.R) (hJ : JOk P E.T E.J) {c0 : Cx} {N : Nat} (hN : N ≤ 1000000) {ops : Array Oper} (hsel : Region.noSelect ops = true) (hops : ∀ (i : Nat) (p : Oper) (d : Tmp), ops.toList[i]? = some p → p.dst = some d → d < N) {Q : Ex → St → Prop} (p : Plan) :
    (∀ (fuel : Nat) (listed : Array Bool) (L : List Nat) (H : List Nat × List Nat) (c : Cx) (s : St) (a : Act), planOk ops p false fuel listed = true → Shut ops listed → (∀ k ∈ L, listed.getD k false = true) → Step c0 c → Rel E.T ρ c s a → a.tmps.size = N → drawA E ops.toList (Q .normal) p H.1 H.2 s →
      wpAnyK P ops (Post E ρ c0 N Q) (before ops ops.size) fuel (asks c H L) listed a c.w) ∧
    (∀ (n : Nat) (listed : Array Bool) (L : List Nat) (H : List Nat × List Nat) (c : Cx) (s : St) (a : Act), planOk ops p true (n + 1) listed = true → Shut ops listed → (∀ k ∈ L, listed.getD k false = true) → Step c0 c → Rel E.T ρ c s a → a.tmps.size = N → drawA E ops.toList (Q .normal) p H.1 H.2 s →
      ∀ i ∈ p.ids, i ∈ Region.ready .any ops listed → wpOp P ops (Post E ρ c0 N Q) i (fun a' w' => (∀ t ∈ asks c H L, before ops ops.size t.1 i = false → t.2 w') ∧ wpAnyK P ops (Post E ρ c0 N Q) (before ops ops.size) n ((asks c H L).filter fun t => !before ops ops.size t.1 i) (listed.setIfInBounds i true) a' w') a c.w) := by
  -- one that comes up; L': those that may still be asked
  have one : ∀ (p : Plan) (i : Nat), (∀ (fuel : Nat) (listed : Array Bool) (L : List Nat) (H : List Nat × List Nat) (c : Cx) (s : St) (a : Act), planOk ops p false fuel listed = true → Shut ops listed → (∀ k ∈ L, listed.getD k false = true) → Step c0 c → Rel E.T ρ c s a → a.tmps.size = N → drawA E ops.toList (Q .normal) p H.1 H.2 s → wpAnyK P ops (Post E ρ c0 N Q) (before ops ops.size) fuel (asks c H L) listed a c.w) →
      ∀ (n : Nat) (listed : Array Bool) (L L' : List Nat) (H H' : List Nat × List Nat) (c : Cx) (s : St) (a : Act), planOk ops p false n (listed.setIfInBounds i true) = true → Shut ops (listed.setIfInBounds i true) → (∀ k ∈ L', listed.getD k false = true) → (∀ k ∈ L, before ops ops.size k i = false → k ∈ L' ∧ H = H') → Step c0 c → Rel E.T ρ c s a → a.tmps.size = N → draw1A E ops.toList i H' s (drawA E ops.toList (Q .normal) p H'.1 H'.2) →
        wpOp P ops (Post E ρ c0 N Q) i (fun a' w' => (∀ t ∈ asks c H L, before ops ops.size t.1 i = false → t.2 w') ∧ wpAnyK P ops (Post E ρ c0 N Q) (before ops ops.size) n ((asks c H L).filter fun t => !before ops ops.size t.1 i) (listed.setIfInBounds i true) a' w') a c.w := by
    intro p i ih n listed L L' H H' c s a hp hc hL hLL h0 hR hs h1
    have fin : ∀ (c' : Cx) (w' : World) (a' : Act), (Held c H' w' ∧ ∀ w, Held c' H' w → Held c H' w) → wpAnyK P ops (Post E ρ c0 N Q) (before ops ops.size) n (asks c' H' L') (listed.setIfInBounds i true) a' w' →
        (∀ t ∈ asks c H L, before ops ops.size t.1 i = false → t.2 w') ∧ wpAnyK P ops (Post E ρ c0 N Q) (before ops ops.size) n ((asks c H L).filter fun t => !before ops ops.size t.1 i) (listed.setIfInBounds i true) a' w' := fun c' w' a' hh hk => by
      refine ⟨fun t ht hb => ?_, wpAnyK_mono _ _ _ _ _ _ (fun t ht => ?_) hk⟩
      · obtain ⟨q1, q2⟩ := asks_mem.1 ht
        rw [q2, (hLL t.1 q1 hb).2]
        exact hh.1
      · obtain ⟨ht, hb⟩ := List.mem_filter.1 ht
        obtain ⟨q1, q2⟩ := asks_mem.1 ht
        obtain ⟨q3, q4⟩ := hLL t.1 q1 (by simpa using hb)
        refine ⟨(t.1, Held c' H'), asks_mem.2 ⟨q3, rfl⟩, rfl, fun w hw => ?_⟩
        rw [q2, q4]
        exact hh.2 w hw
    have hL2 : ∀ k ∈ L', (listed.setIfInBounds i true).getD k false = true := fun k hk => getD_set_true (hL k hk)
    unfold draw1A at h1
    split at h1
    · rename_i o ho
      have ho' : ops[i]? = some o := by rw [← Array.getElem?_toList]; exact ho
      have hdst : ∀ d, o.dst = some d → d < a.tmps.size ∧ d < 1000000 := fun d hd => by
        have := hops i o d ho hd
        exact ⟨by rw [hs]; exact this, Nat.lt_of_lt_of_le this hN⟩
      unfold wpOp
      rw [ho']
      simp only []
      split at h1
      · rename_i hw
        rw [ifT_iff] at h1
        obtain ⟨hf, h1⟩ := h1
        simp only [Bool.and_eq_true] at hf
        rw [if_pos (wanted_sound hR (by rw [hs]; exact hops) (by rw [hs]; exact hN) hw)]
        refine .inl (op_sound hT hC hJ hR hdst h1 fun a' c' s' k1 k2 k3 k4 k5 => ?_)
        exact fin c' _ _ (held_step hR.ok k1 k2 hf.1 hf.2) (ih n _ L' H' c' s' a' hp hc hL2 (h0.trans k1) k3 (k4.trans hs) (parted_out k5))
      · rename_i hw
        rw [if_neg (by rw [wanted_sound hR (by rw [hs]; exact hops) (by rw [hs]; exact hN) hw]; simp)]
        rw [go_iff] at h1
        exact fin c _ _ ⟨.self c H', fun _ h => h⟩ (ih n _ L' H' c _ _ hp hc hL2 h0 (hR.put o.dst hdst undef_v) ((put_size _ _ _).trans hs) h1)
      · exact h1.elim
    · exact h1.elim
  induction p with
  | done =>
    refine ⟨fun fuel listed L H c s a hp _ _ h0 hR hs h => ?_, fun n listed L H c s a hp => by unfold planOk at hp; cases hp⟩
    rw [drawA_done] at h
    refine wpAnyK_done ?_ ⟨c, s, rfl, h0, hR, hs, h⟩ fuel
    unfold planOk at hp
    exact List.isEmpty_iff.1 hp
  | take i p ih =>
    refine ⟨fun fuel listed L H c s a hp hc hL h0 hR hs h => ?_, fun n listed L H c s a hp => by unfold planOk at hp; cases hp⟩
    cases fuel with
    | zero => unfold planOk at hp; cases hp
    | succ n =>
      unfold planOk at hp
      simp only [Bool.and_eq_true] at hp
      obtain ⟨⟨hfree, hready⟩, hp⟩ := hp
      have hri : i ∈ Region.ready .any ops listed := by simpa using hready
      have hTw : ∀ t ∈ asks c H L, t.2 c.w := fun t ht => by rw [(asks_mem.1 ht).2]; exact .self c H
      have hLi : ∀ k ∈ i :: L, (listed.setIfInBounds i true).getD k false = true := fun k hk => by
        rcases List.mem_cons.1 hk with rfl | hk
        · have h0 := (mem_ready.1 hri).1
          rw [Array.getD_eq_getD_getElem?] at h0 ⊢
          rcases Nat.lt_or_ge k listed.size with h' | h'
          · simp [h']
          · simp [Array.getElem?_eq_none h'] at h0
        · exact getD_set_true (hL k hk)
      rw [drawA_take] at h
      split at h
      · rename_i o ho
        have ho' : ops[i]? = some o := by rw [← Array.getElem?_toList]; exact ho
        have hdst : ∀ d, o.dst = some d → d < a.tmps.size ∧ d < 1000000 := fun d hd => ⟨by rw [hs]; exact hops i o d ho hd, Nat.lt_of_lt_of_le (hops i o d ho hd) hN⟩
        split at h
        · rename_i hw
          obtain ⟨x, hK, v, hV, hrun⟩ := look_sound hT hR h
          rw [putF_iff] at hK
          have hK := parted_out hK
          rw [addH_iff, addH_iff] at hK
          have hle : ∀ w, Held c (readsA s o ++ H.1, readsF s o ++ H.2) w → Held c H w := fun w hw => ⟨hw.1, fun b hb => hw.2.1 b (List.mem_append_right _ hb), fun b hb => hw.2.2 b (List.mem_append_right _ hb)⟩
          refine wpAnyK_take (S := Held c (readsA s o ++ H.1, readsF s o ++ H.2)) hc ho' hsel hfree hready (fun c a w q => q.elim) (.inl ⟨wanted_sound hR (by rw [hs]; exact hops) (by rw [hs]; exact hN) hw, fun w hw => hrun w (sees_held hw)⟩) (.self c _) hTw ?_
          refine wpAnyK_mono _ _ _ _ _ _ (fun t ht => ?_) (ih.1 n _ (i :: L) (readsA s o ++ H.1, readsF s o ++ H.2) c _ _ hp (shut_set hc hri) hLi h0 (hR.put o.dst hdst hV) ((put_size _ _ _).trans hs) hK)
          rcases List.mem_cons.1 ht with rfl | ht
          · exact ⟨_, asks_mem.2 ⟨List.mem_cons_self .., rfl⟩, rfl, fun _ h => h⟩
          · obtain ⟨q1, q2⟩ := asks_mem.1 ht
            exact ⟨(t.1, Held c (readsA s o ++ H.1, readsF s o ++ H.2)), asks_mem.2 ⟨List.mem_cons_of_mem _ q1, rfl⟩, rfl, fun w hw => by rw [q2]; exact hle w hw⟩
        · rename_i hw
          rw [go_iff] at h
          refine wpAnyK_take (S := Held c H) hc ho' hsel hfree hready (fun c a w q => q.elim) (.inr ⟨wanted_sound hR (by rw [hs]; exact hops) (by rw [hs]; exact hN) hw, rfl⟩) (.self c _) hTw ?_
          exact ih.1 n _ (i :: L) H c _ _ hp (shut_set hc hri) hLi h0 (hR.put o.dst hdst undef_v) ((put_size _ _ _).trans hs) h
        · exact h.elim
      · exact h.elim
  | last i p ih =>
    have h2 : ∀ (on : Bool) (n : Nat) (listed : Array Bool), planOk ops (.last i p) on (n + 1) listed = true → (on = true ∨ Region.ready .any ops listed = [i]) ∧ planOk ops p false n (listed.setIfInBounds i true) = true := fun on n listed hp => by
      unfold planOk at hp
      simp only [Bool.and_eq_true, Bool.or_eq_true] at hp
      exact ⟨hp.1.imp id (fun h => by simpa using h), hp.2⟩
    refine ⟨fun fuel listed L H c s a hp hc hL h0 hR hs h => ?_, fun n listed L H c s a hp hc hL h0 hR hs h j hj hrj => ?_⟩
    · cases fuel with
      | zero => unfold planOk at hp; cases hp
      | succ n =>
        obtain ⟨hr, hp⟩ := h2 _ _ _ hp
        have hr := hr.elim (fun e => by cases e) id
        rw [drawA_last] at h
        refine wpAnyK_all hr (by simp) fun j hj => ?_
        simp only [List.mem_singleton] at hj
        subst hj
        exact one p j ih.1 n listed L L H H c s a hp (shut_set hc (by rw [hr]; simp)) hL (fun k hk _ => ⟨hk, rfl⟩) h0 hR hs h
    · obtain ⟨_, hp⟩ := h2 _ _ _ hp
      rw [drawA_last] at h
      simp only [Plan.ids, List.mem_singleton] at hj
      subst hj
      exact one p j ih.1 n listed L L H H c s a hp (shut_set hc hrj) hL (fun k hk _ => ⟨hk, rfl⟩) h0 hR hs h
  | alt i p r ih ihr =>
    have h2 : ∀ (on : Bool) (n : Nat) (listed : Array Bool), planOk ops (.alt i p r) on (n + 1) listed = true → (on = true ∨ Region.ready .any ops listed = i :: r.ids) ∧ planOk ops p false n (listed.setIfInBounds i true) = true ∧ planOk ops r true (n + 1) listed = true := fun on n listed hp => by
      unfold planOk at hp
      simp only [Bool.and_eq_true, Bool.or_eq_true] at hp
      exact ⟨hp.1.1.imp id (fun h => by simpa using h), hp.1.2, hp.2⟩
    have both : ∀ (n : Nat) (listed : Array Bool) (L : List Nat) (H : List Nat × List Nat) (c : Cx) (s : St) (a : Act), planOk ops p false n (listed.setIfInBounds i true) = true → planOk ops r true (n + 1) listed = true → Shut ops listed → (∀ k ∈ L, listed.getD k false = true) → Step c0 c → Rel E.T ρ c s a → a.tmps.size = N → drawA E ops.toList (Q .normal) (.alt i p r) H.1 H.2 s →
        ∀ j ∈ i :: r.ids, j ∈ Region.ready .any ops listed → wpOp P ops (Post E ρ c0 N Q) j (fun a' w' => (∀ t ∈ asks c H L, before ops ops.size t.1 j = false → t.2 w') ∧ wpAnyK P ops (Post E ρ c0 N Q) (before ops ops.size) n ((asks c H L).filter fun t => !before ops ops.size t.1 j) (listed.setIfInBounds j true) a' w') a c.w := by
      intro n listed L H c s a hp hr hc hL h0 hR hs h j hj hrj
      rw [drawA_alt] at h
      rcases List.mem_cons.1 hj with rfl | hj
      · exact one p j ih.1 n listed L L H H c s a hp (shut_set hc hrj) hL (fun k hk _ => ⟨hk, rfl⟩) h0 hR hs h.1
      · exact ihr.2 n listed L H c s a hr hc hL h0 hR hs h.2 j hj hrj
    refine ⟨fun fuel listed L H c s a hp hc hL h0 hR hs h => ?_, fun n listed L H c s a hp hc hL h0 hR hs h j hj hrj => ?_⟩
    · cases fuel with
      | zero => unfold planOk at hp; cases hp
      | succ n =>
        obtain ⟨hr, hp, hp'⟩ := h2 _ _ _ hp
        have hr := hr.elim (fun e => by cases e) id
        exact wpAnyK_all hr (by simp) (fun j hj => both n listed L H c s a hp hp' hc hL h0 hR hs h j hj (by rw [hr]; exact hj))
    · obtain ⟨_, hp, hp'⟩ := h2 _ _ _ hp
      exact both n listed L H c s a hp hp' hc hL h0 hR hs h j hj hrj
  | cut i p ih =>
    refine ⟨fun fuel listed L H c s a hp hc hL h0 hR hs h => ?_, fun n listed L H c s a hp => by unfold planOk at hp; cases hp⟩
    cases fuel with
    | zero => unfold planOk at hp; cases hp
    | succ n =>
      unfold planOk at hp
      simp only [Bool.and_eq_true] at hp
      obtain ⟨⟨hr, hall⟩, hp⟩ := hp
      have hr : Region.ready .any ops listed = [i] := by simpa using hr
      rw [drawA_cut] at h
      refine wpAnyK_all hr (by simp) fun j hj => ?_
      simp only [List.mem_singleton] at hj
      subst hj
      refine one p j ih.1 n listed L [] H ([], []) c s a hp (shut_set hc (by rw [hr]; simp)) (fun k hk => by simp at hk) (fun k hk hb => ?_) h0 hR hs h
      exfalso
      have hl := hL k hk
      have hk' : k < listed.size := by
        rw [Array.getD_eq_getD_getElem?] at hl
        rcases Nat.lt_or_ge k listed.size with h' | h'
        · exact h'
        · simp [Array.getElem?_eq_none h'] at hl
      have := List.all_eq_true.1 hall k (List.mem_range.2 hk')
      rw [hl, hb] at this
      simp at this

theorem rounds_more {P : Program} {c : Code} {Q : Exit → Act → World → Prop} : ∀ {n : Nat} {a : Act} {w : World}, Code.rounds P c Q n a w → Code.rounds P c Q (n + 1) a w
  | 0, _, _, h => h.elim
  | n + 1, a, w, h => by
    rw [rounds_succ] at h ⊢
    refine Code.wp_mono (fun e a w q => ?_) h
    cases e <;> first | exact rounds_more q | exact q
theorem rounds_le {P : Program} {c : Code} {Q : Exit → Act → World → Prop} {n m : Nat} (h : n ≤ m) {a : Act} {w : World} (hr : Code.rounds P c Q n a w) : Code.rounds P c Q m a w := by
  induction h with
  | refl => exact hr
  | step _ ih => exact rounds_more ih

theorem wpA_sound (hT : TabOk P E.T) (hC : CallOk P E.T E.R) (hJ : JOk P E.T E.J) {c0 : Cx} {N : Nat} (hN : N ≤ 1000000) : ∀ (code : Code) (Q : Ex → St → Prop) (c : Cx) (s : St) (a : Act), okD E.pl N code = true → Step c0 c → Rel E.T ρ c s a → a.tmps.size = N → wpA E code Q s → code.wp P (Post E ρ c0 N Q) a c.w
  | .skip, Q, c, s, a, _, h0, hR, hs, h => wp_skip ⟨c, s, rfl, h0, hR, hs, h⟩
  | .region id ops false, Q, c, s, a, hk, h0, hR, hs, h => by
    have hops : ∀ (i : Nat) (p : Oper) (d : Tmp), ops.toList[i]? = some p → p.dst = some d → d < N := fun i p d hi hd => by
      simp only [okD, Bool.and_eq_true] at hk
      have := all_spec hk.1 i p hi
      rw [hd] at this
      exact Nat.le_of_ble_eq_true this
    exact wp_region_list (list_sound hT hC hJ hN hops ops.toList c s a hops h0 hR hs h)
  | .region id ops true, Q, c, s, a, hk, h0, hR, hs, h => by
    have hops : ∀ (i : Nat) (p : Oper) (d : Tmp), ops.toList[i]? = some p → p.dst = some d → d < N := fun i p d hi hd => by
      simp only [okD, Bool.and_eq_true] at hk
      have := all_spec hk.1 i p hi
      rw [hd] at this
      exact Nat.le_of_ble_eq_true this
    simp only [okD, Bool.and_eq_true] at hk
    obtain ⟨_, hsel, hp⟩ := hk
    exact wp_region_any hT.wide (wpAny_of_K _ _ _ _ _ ((draw_sound hT hC hJ hN hsel hops (E.pl id)).1 _ _ [] ([], []) { c with w := { c.w with drawn := c.w.drawn + 1 } } s a hp shut_none (fun k hk => by simp at hk) (h0.trans ⟨Nat.le_refl _, rfl, rfl, rfl, fun _ _ _ => rfl, fun _ h => .inl h, fun _ h => h, fun _ h => .inl h, fun _ _ => rfl⟩) (hR.world _ rfl) hs h))
  | .seq x y, Q, c, s, a, hk, h0, hR, hs, h => by
    simp only [okD, Bool.and_eq_true] at hk
    refine wp_seq (Code.wp_mono (fun e a w q => ?_) (wpA_sound hT hC hJ hN x _ c s a hk.1 h0 hR hs h))
    cases e with
    | normal => obtain ⟨c', s', rfl, h2, h3, h4, h5⟩ := q; exact wpA_sound hT hC hJ hN y Q c' s' a hk.2 h2 h3 h4 h5
    | exit i => exact q
    | ret => exact q
    | _ => exact q.elim
  | .cond x y z, Q, c, s, a, hk, h0, hR, hs, h => by
    simp only [okD, Bool.and_eq_true] at hk
    rw [wpA_cond] at h
    split at h
    · rename_i b hb
      have hv := (show V E.T c (.bool b) (a.eval x) from hb ▸ hR.ev x).bool_inv
      refine wp_cond hv ?_
      cases b
      · exact wpA_sound hT hC hJ hN z Q c s a hk.2 h0 hR hs (h.2 rfl)
      · exact wpA_sound hT hC hJ hN y Q c s a hk.1 h0 hR hs (h.1 rfl)
    · exact h.elim
  | .block id b, Q, c, s, a, hk, h0, hR, hs, h => by
    refine wp_block (Code.wp_mono (fun e a w q => ?_) (wpA_sound hT hC hJ hN b _ c s a hk h0 hR hs h))
    cases e with
    | normal => exact q
    | exit i =>
      obtain ⟨c', s', h1, h2, h3, h4, h5⟩ := q
      simp only [Exit.inBlock]
      cases hq : Nat.beq i id with
      | true =>
        rw [if_pos (Nat.eq_of_beq_eq_true hq)]
        simp only [hq] at h5
        exact ⟨c', s', h1, h2, h3, h4, h5⟩
      | false =>
        rw [if_neg (beq_false hq)]
        simp only [hq] at h5
        exact ⟨c', s', h1, h2, h3, h4, h5⟩
    | ret => exact q
    | _ => exact q.elim
  | .loop b, Q, c, s, a, hk, h0, hR, hs, h => by
    obtain ⟨I, ⟨n, hI⟩, hround⟩ := h
    have key : ∀ n c s a, Step c0 c → Rel E.T ρ c s a → a.tmps.size = N → I n s → Code.rounds P b (Post E ρ c0 N Q) (n + 1) a c.w := by
      intro n
      induction n using Nat.strongRecOn with
      | _ n ih =>
        intro c s a h0 hR hs hI
        rw [rounds_succ]
        refine Code.wp_mono (fun e a w q => ?_) (wpA_sound hT hC hJ hN b _ c s a hk h0 hR hs (hround n s hI))
        cases e with
        | normal =>
          obtain ⟨c', s', rfl, h2, h3, h4, m, hm, hI'⟩ := q
          exact rounds_le (show m + 1 ≤ n from hm) (ih m hm c' s' a h2 h3 h4 hI')
        | exit i => exact q
        | ret => exact q
        | _ => exact q.elim
    exact wp_loop_rounds (n + 1) (key n c s a h0 hR hs hI)
  | .exit id, Q, c, s, a, _, h0, hR, hs, h => wp_exit ⟨c, s, rfl, h0, hR, hs, h⟩
  | .ret, Q, c, s, a, _, h0, hR, hs, h => wp_ret ⟨c, s, rfl, h0, hR, hs, h⟩
  | .rangeFunc .., Q, c, s, a, _, h0, hR, hs, h => h.elim
  | .scope .., Q, c, s, a, _, h0, hR, hs, h => h.elim
  | .label .., Q, c, s, a, _, h0, hR, hs, h => h.elim
  | .goto .., Q, c, s, a, _, h0, hR, hs, h => h.elim

theorem results_eq (fn : Func) (tmps : Array Value) : ∃ F : ResultVar → Sem Value, (∀ t, F (.tmp t) = pure (tmps.getD t undef)) ∧ (∀ d t, F (.cell d t) = (do loadVar t (← asAddr (tmps.getD d undef)))) ∧ results fn tmps = (do let vs ← fn.results.mapM F; pure (if h : vs.size = 1 then vs[0] else .tuple vs)) := ⟨_, fun _ => rfl, fun _ _ => rfl, rfl⟩
theorem part_of {T : Tab} {t : TypeId} {cs : List AV} {off : Nat} {v : AV} (h : partO T t cs off = some v) : partA T t cs off (fun x => x = v) := by
  unfold partO at h
  unfold partA
  split at h
  · rename_i ha
    split at h
    · exact Option.some.inj h
    · cases h
  · rw [h]
  · cases h
theorem res_sound (hT : TabOk P E.T) {c : Cx} {s : St} {a : Act} (hR : Rel E.T ρ c s a) {F : ResultVar → Sem Value} (hF : ∀ t, F (.tmp t) = pure (a.tmps.getD t undef)) (hG : ∀ d t, F (.cell d t) = (do loadVar t (← asAddr (a.tmps.getD d undef)))) : ∀ (rs : List ResultVar) (vs : List AV), resA E.T s rs = some vs → ∃ us : List Value, VL E.T c vs us ∧ (rs.mapM F).run P c.w = .ok us c.w
  | [], vs, h => by
    cases h
    exact ⟨[], VL.nil, by simp⟩
  | .tmp t :: rs, vs, h => by
    simp only [resA] at h
    split at h
    · rename_i vs' h'
      cases h
      obtain ⟨us, h1, h2⟩ := res_sound hT hR hF hG rs vs' h'
      exact ⟨_ :: us, VL.cons (hR.ev (.tmp t)) h1, by simp only [List.mapM_cons, hF, Sem.run_bind, Sem.run_pure, Result.andThen_ok, h2]; rfl⟩
    · cases h
  | .cell d u :: rs, vs, h => by
    simp only [resA] at h
    split at h
    · rename_i v vs' hc h'
      cases h
      obtain ⟨us, h1, h2⟩ := res_sound hT hR hF hG rs vs' h'
      unfold cellA at hc
      split at hc
      · rename_i b off hp
        split at hc
        · rename_i e cs hbox
          have hv := hR.ev (.tmp d)
          rw [hp] at hv
          obtain ⟨g, hg, hq⟩ := hv.ptr_inv
          obtain ⟨g', hg', us', hblk, hVL, _⟩ := hR.h b _ hbox
          obtain rfl : g' = g := Option.some.inj (hg'.symm.trans hg)
          obtain ⟨x, y, hK, hxy, hload⟩ := load_sound (g := g') (o := 0) hT hVL (part_of hc)
          cases hK
          have hl := hload c.w (reads_of_blk hblk)
          rw [Nat.zero_add] at hl
          have hl' : (loadVar u ⟨g', off, none⟩).run P c.w = .ok y c.w := by
            simpa [Instr.loadAt, Instr.sureAddr] using hl
          have hq' : a.tmps.getD d undef = .pointer (some ⟨g', off, none⟩) := hq
          exact ⟨y :: us, VL.cons hxy h1, by simp only [List.mapM_cons, hG, hq', asAddr, Sem.run_bind, Sem.run_pure, Result.andThen_ok, hl', h2]⟩
        · cases hc
      · cases hc
    · cases h
theorem ret_sound (hT : TabOk P E.T) {c : Cx} {s : St} {a : Act} (hR : Rel E.T ρ c s a) {fn : Func} {v : AV} (h : retA E.T fn s = some v) : ∃ u, (results fn a.tmps).run P c.w = .ok u c.w ∧ V E.T c v u := by
  unfold retA at h
  obtain ⟨F, hF, hG, hres⟩ := results_eq fn a.tmps
  have key : ∀ us : List Value, (fn.results.toList.mapM F).run P c.w = .ok us c.w → (results fn a.tmps).run P c.w = .ok (if h : us.length = 1 then us[0] else .tuple us.toArray) c.w := by
    intro us hm
    rw [hres, Array.mapM_eq_mapM_toList]
    simp only [map_eq_pure_bind, Sem.run_bind, hm, Result.andThen_ok, Sem.run_pure, List.size_toArray]
    rfl
  split at h
  · rename_i v' hv'
    cases h
    obtain ⟨us, h1, h2⟩ := res_sound hT hR hF hG _ _ hv'
    have := key us h2
    match us, h1, this with
    | [u], h1, this => exact ⟨u, this, h1.2 0 _ _ rfl rfl⟩
    | [], h1, _ => exact absurd h1.1 (by simp)
    | _ :: _ :: _, h1, _ => exact absurd h1.1 (by simp)
  · rename_i vs hne hv'
    cases h
    obtain ⟨us, h1, h2⟩ := res_sound hT hR hF hG _ _ hv'
    have := key us h2
    rw [dif_neg ?_] at this
    · exact ⟨_, this, .tup _ us h1.1 h1.2⟩
    · intro hl
      match vs, h1.1.trans hl, hne with
      | [v], _, hne => exact hne v rfl
  · cases h

theorem out_sound {c : Cx} {s : St} {a : Act} (hR : Rel E.T ρ c s a) : ∀ (n i : Nat) (out : List Box), outA s i n = some out → ∀ j x, out[j]? = some x → ∃ g, c.bk (1000000000 + (i + j)) = some g ∧ BoxAt E.T c g x
  | 0, i, out, h, j, x, hx => by cases h; simp at hx
  | n + 1, i, out, h, j, x, hx => by
    simp only [outA] at h
    split at h
    · rename_i y l hy hl
      cases h
      cases j with
      | zero => simp at hx; subst hx; exact hR.h _ _ hy
      | succ j =>
        have := out_sound hR n (i + 1) l hl j x (by simpa using hx)
        rwa [show 1000000000 + (i + 1 + j) = 1000000000 + (i + (j + 1)) by omega] at this
    · cases h

/-- A function's contract from its body. -/
theorem fn_ok (hT : TabOk P E.T) (hC : CallOk P E.T E.R) (hJ : JOk P E.T E.J) {f : FuncId} {fn : Func} {code : Code} (hf : P.funcs[f]? = some fn) (hname : (fn.name == "runtime.NumGoroutine") = false) (hb : fn.body = some code) (hk : (okD E.pl fn.ntmps code && Nat.ble fn.ntmps 1000000) = true)
    {S : List AV → List Box → (AV → List Box → Prop) → Prop} (h : ∀ args bs K, S args bs K → Nat.ble args.length fn.ntmps = true ∧ wpA E code (bodyA E.T fn bs K) (enterA args bs)) : FnOk P E.T f S := by
  refine ⟨fun args w => ?_, fun args bs K hS c vs hok hfm hV hB => ?_⟩
  · have hne : ¬ (fn.name = "runtime.NumGoroutine") := by simpa using hname
    simp [callFunc, hf, hne, hb]
  · obtain ⟨hlen, hwp⟩ := h args bs K hS
    have hlen := Nat.le_of_ble_eq_true hlen
    simp only [Bool.and_eq_true] at hk
    refine calls_of_wp hf hb ?_
    have hsz : (vs.toArray ++ Array.replicate (fn.ntmps - vs.toArray.size) undef).size = fn.ntmps := by
      have := hV.1
      simp
      omega
    have hR : Rel E.T (fun _ => undef) c (enterA args bs) { tmps := vs.toArray ++ Array.replicate (fn.ntmps - vs.toArray.size) undef, defers := [] } := by
      refine ⟨hok, fun j => ?_, fun b x hx => ?_, rfl⟩
      · simp only [enterA]
        cases ha : args[j]? with
        | none => exact .bad _
        | some x =>
          have hj := (List.getElem?_eq_some_iff.1 ha).1
          have hj' : j < vs.length := by rw [← hV.1]; exact hj
          have : vals (fun _ => undef) { tmps := vs.toArray ++ Array.replicate (fn.ntmps - vs.toArray.size) undef, defers := [] } j = vs[j] := by
            have hm := Nat.le_of_ble_eq_true hk.2
            rw [vals, if_pos (by omega), Array.getD_eq_getD_getElem?, Array.getElem?_append_left (by simpa using hj')]
            simp [hj']
          rw [this]
          exact hV.2 j x _ ha (List.getElem?_eq_getElem hj')
      · simp only [enterA] at hx
        split at hx
        · rename_i hb
          have hb := Nat.le_of_ble_eq_true hb
          obtain ⟨g, h1, h2⟩ := hB _ x hx
          rw [show 1000000000 + (b - 1000000000) = b by omega] at h1
          exact ⟨g, h1, h2⟩
        · cases hx
    refine Code.wp_mono (fun e a w q => ?_) (wpA_sound hT hC hJ (Nat.le_of_ble_eq_true hk.2) code _ c _ _ hk.1 (.refl c) hR hsz hwp)
    have fin : ∀ (c' : Cx) (s' : St), c'.w = w → Step c c' → Rel E.T (fun _ => undef) c' s' a → bodyA E.T fn bs K .ret s' → a.defers = [] ∧ ∃ v, (results fn a.tmps).run P w = .ok v w ∧ (∃ v' c'' res out, Ending.returned v = .returned v' ∧ c''.w = w ∧ c''.Ok ∧ Step c c'' ∧ V E.T c'' res v' ∧ BoxesAt E.T c'' out ∧ K res out) := by
      intro c' s' hw h2 h3 h5
      subst hw
      simp only [bodyA] at h5
      split at h5
      · rename_i v out hv ho
        rw [force_iff] at h5
        obtain ⟨u, h6, h7⟩ := ret_sound hT h3 hv
        refine ⟨h3.d, u, h6, u, c', v, out, rfl, rfl, h3.ok, h2, h7, fun i x hx => ?_, h5⟩
        have := out_sound h3 _ _ _ ho i x hx
        rwa [Nat.zero_add] at this
      · exact h5.elim
    cases e with
    | normal => obtain ⟨c', s', h1, h2, h3, h4, h5⟩ := q; exact fin c' s' h1 h2 h3 h5
    | ret => obtain ⟨c', s', h1, h2, h3, h4, h5⟩ := q; exact fin c' s' h1 h2 h3 h5
    | exit i => obtain ⟨c', s', h1, h2, h3, h4, h5⟩ := q; exact h5.elim
    | _ => exact q.elim

/-- What a call does is what its body does. -/
theorem inl_ok (hT : TabOk P E.T) (hC : CallOk P E.T E.R) (hJ : JOk P E.T E.J) {f : FuncId} {fn : Func} {code : Code} (hf : P.funcs[f]? = some fn) (hname : (fn.name == "runtime.NumGoroutine") = false) (hb : fn.body = some code) (hk : (okD E.pl fn.ntmps code && Nat.ble fn.ntmps 1000000) = true) :
    SOk P E.T f (inlJ E fn code) := by
  refine ⟨fun args w => ?_, fun args s K hS ρ c a vs hR hV => ?_⟩
  · have hne : ¬ (fn.name = "runtime.NumGoroutine") := by simpa using hname
    simp [callFunc, hf, hne, hb]
  · obtain ⟨hlen, hwp⟩ := ifT_iff.1 hS
    have hlen := Nat.le_of_ble_eq_true hlen
    simp only [Bool.and_eq_true] at hk
    have hN := Nat.le_of_ble_eq_true hk.2
    refine calls_of_wp hf hb ?_
    have hsz : (vs.toArray ++ Array.replicate (fn.ntmps - vs.toArray.size) undef).size = fn.ntmps := by
      have := hV.1
      simp
      omega
    have hR' : Rel E.T (vals ρ a) c (pushS args s) { tmps := vs.toArray ++ Array.replicate (fn.ntmps - vs.toArray.size) undef, defers := [] } := by
      cases s with
      | mk t h =>
        refine ⟨hR.ok, fun j => ?_, hR.h, rfl⟩
        simp only [pushS, argAt]
        cases hq : Nat.blt j 1000000 with
        | true =>
          have hj1 : j < 1000000 := Nat.le_of_ble_eq_true hq
          rw [cond_true]
          cases ha : args[j]? with
          | none => exact .bad _
          | some x =>
            have hj := (List.getElem?_eq_some_iff.1 ha).1
            have hj' : j < vs.length := by rw [← hV.1]; exact hj
            have : vals (vals ρ a) { tmps := vs.toArray ++ Array.replicate (fn.ntmps - vs.toArray.size) undef, defers := [] } j = vs[j] := by
              rw [vals, if_pos hj1, Array.getD_eq_getD_getElem?, Array.getElem?_append_left (by simpa using hj')]
              simp [hj']
            rw [this]
            exact hV.2 j x _ ha (List.getElem?_eq_getElem hj')
        | false =>
          have hj1 : ¬ j < 1000000 := fun h => by rw [show Nat.blt j 1000000 = true from Nat.ble_eq_true_of_le h] at hq; cases hq
          rw [cond_false, vals, if_neg hj1]
          exact hR.t (j - 1000000)
    refine Code.wp_mono (fun e a' w q => ?_) (wpA_sound hT hC hJ hN code _ c _ _ hk.1 (.refl c) hR' hsz hwp)
    have fin : ∀ (c' : Cx) (s' : St), c'.w = w → Step c c' → Rel E.T (vals ρ a) c' s' a' → bodyJ E.T fn K .ret s' → a'.defers = [] ∧ ∃ v, (results fn a'.tmps).run P w = .ok v w ∧ (∃ v' c'' s'' res, Ending.returned v = .returned v' ∧ c''.w = w ∧ Step c c'' ∧ Rel E.T ρ c'' s'' a ∧ V E.T c'' res v' ∧ K res s'') := by
      intro c' s' hw h2 h3 h5
      subst hw
      simp only [bodyJ] at h5
      split at h5
      · rename_i v hv
        rw [force_iff] at h5
        obtain ⟨_, rfl, h5⟩ := h5
        obtain ⟨u, h6, h7⟩ := ret_sound hT h3 hv
        refine ⟨h3.d, u, h6, u, c', popS s', v, rfl, rfl, h2, ?_, h7, h5⟩
        cases s' with
        | mk t h =>
          refine ⟨h3.ok, fun j => ?_, h3.h, hR.d⟩
          have := h3.t (j + 1000000)
          rw [vals, if_neg (by omega), Nat.add_sub_cancel] at this
          exact this
      · exact h5.elim
    cases e with
    | normal => obtain ⟨c', s', h1, h2, h3, h4, h5⟩ := q; exact fin c' s' h1 h2 h3 h5
    | ret => obtain ⟨c', s', h1, h2, h3, h4, h5⟩ := q; exact fin c' s' h1 h2 h3 h5
    | exit i => obtain ⟨c', s', h1, h2, h3, h4, h5⟩ := q; exact h5.elim
    | _ => exact q.elim

theorem SOk.mono {T : Tab} {f : FuncId} {j j' : StSpec} (h : SOk P T f j') (hj : ∀ args s K, j args s K → j' args s K) : SOk P T f j :=
  ⟨h.1, fun args s K hs => h.2 args s K (hj args s K hs)⟩
theorem pop_eq {t' t : Nat → AV} {h : Nat → Option Box} (hp : ∀ j, t' (j + 1000000) = t j) : popS ⟨t', h⟩ = ⟨t, h⟩ := by
  simp only [popS, St.mk.injEq, and_true]
  exact funext hp
theorem push_at {args : List AV} {t : Nat → AV} (j : Nat) : (bif Nat.blt (j + 1000000) 1000000 then argAt args (j + 1000000) else t (j + 1000000 - 1000000)) = t j := by
  have : Nat.blt (j + 1000000) 1000000 = false := by
    cases hq : Nat.blt (j + 1000000) 1000000 with
    | false => rfl
    | true => have := Nat.le_of_ble_eq_true hq; omega
  rw [this, cond_false, Nat.add_sub_cancel]
theorem upd_over {α : Type} {f : Nat → α} {d j : Nat} {v : α} (hd : Nat.blt d 1000000 = true) : upd f d v (j + 1000000) = f (j + 1000000) :=
  upd_ne _ _ (by have := Nat.le_of_ble_eq_true hd; omega)

theorem pop_map (s : St) (φ : AV → AV) : popS (s.mapA φ) = (popS s).mapA φ := by cases s; rfl
theorem pop_put {s : St} {d : Tmp} {v : AV} (hd : Nat.blt d 1000000 = true) : popS (s.put (some d) v) = popS s := by
  cases s with
  | mk t h =>
    simp only [popS, St.put, St.mk.injEq, and_true]
    funext j
    exact upd_over hd
theorem pop_push (args : List AV) (s : St) : popS (pushS args s) = s := by
  cases s with
  | mk t h => exact pop_eq fun j => push_at j
end
end Go.Proofs.YtmlgkojmbnjfbaaDoor.A
