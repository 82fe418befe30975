/- A function's body, walked. -/
import Derived.Test.YtbpcofnhndgoeaaDoorGB
import Derived.LoopN
import Derived.Below
import Derived.ChangeArms
import Derived.DataReads
import Derived.ChangeShapes
import Derived.WideShapes
import Derived.ChangeSlices
import Derived.OpenShut
import Derived.DeepKeys
import Derived.SizedLaws
namespace Go.Proofs.YtbpcofnhndgoeaaDoor.A
open Go

section
variable {P : Program} {E : En} {ρ : Nat → Value}

theorem undef_v {T : Tab} {c : Cx} : V T c (.tup []) undef := .tup [] [] rfl (fun i x u hx => by simp at hx)
theorem V.bool_at {c : Cx} {s : St} {a : Act} (hR : Rel E.T ρ c s a) {d : Nat} (hd : d < a.tmps.size) (hm : d < 1000000) {b : Bool} (h : s.t d = .bool b) : a.tmps[d]? = some (.bool b) := by
  have := (show V E.T c (.bool b) _ from h ▸ hR.t d).bool_inv
  rw [vals, if_pos hm, Array.getD_eq_getD_getElem?, Array.getElem?_eq_getElem hd, Option.getD_some] at this
  rw [Array.getElem?_eq_getElem hd, this]

theorem wanted_sound {c : Cx} {s : St} {a : Act} (hR : Rel E.T ρ c s a) {ops : Array Oper} {o : Oper} (hd : ∀ (i : Nat) (p : Oper) (d : Tmp), ops.toList[i]? = some p → p.dst = some d → d < a.tmps.size) (hm : a.tmps.size ≤ 1000000) {b : Bool} (h : wantedA ops.toList s o = some b) : Region.wanted o (yielded ops a.tmps) = b := by
  unfold wantedA at h
  unfold Region.wanted
  split at h
  · rename_i hg
    rw [hg]
    exact Option.some.inj h
  · rename_i j want hg
    rw [hg]
    split at h
    · rename_i p hp
      split at h
      · rename_i d hpd
        have hp' : ops[j]? = some p := by rw [← Array.getElem?_toList]; exact hp
        have key : ∀ q, s.t d = .bool q → yielded ops a.tmps j = some q := fun q hq => by
          have := V.bool_at hR (hd j p d hp hpd) (Nat.lt_of_lt_of_le (hd j p d hp hpd) hm) hq
          unfold yielded
          rw [hp']
          simp [hpd, this]
        have key' : s.t d = .tup [] → yielded ops a.tmps j = none := fun hq => by
          have hdl := hd j p d hp hpd
          have hv := hR.t d
          rw [hq, vals, if_pos (Nat.lt_of_lt_of_le hdl hm), Array.getD_eq_getD_getElem?, Array.getElem?_eq_getElem hdl, Option.getD_some] at hv
          obtain ⟨us, hus, hl⟩ := hv.tup_inv
          unfold yielded
          rw [hp']
          simp only [Option.bind_some, hpd, Array.getElem?_eq_getElem hdl, hus]
        split at h <;> first | (rename_i hq; have := key _ hq; cases h; simp [this]; done) | (rename_i hq; have := key' hq; cases h; simp [this]; done) | cases h
      · cases h
    · cases h

/-- What holds at an end. -/
def Post (E : En) (ρ : Nat → Value) (c0 : Cx) (N : Nat) (Q : Ex → St → Prop) : Exit → Act → World → Prop
  | .normal, a, w => ∃ c s, c.w = w ∧ Step c0 c ∧ Rel E.T ρ c s a ∧ a.tmps.size = N ∧ Q .normal s
  | .exit i, a, w => ∃ c s, c.w = w ∧ Step c0 c ∧ Rel E.T ρ c s a ∧ a.tmps.size = N ∧ Q (.exit i) s
  | .ret, a, w => ∃ c s, c.w = w ∧ Step c0 c ∧ Rel E.T ρ c s a ∧ a.tmps.size = N ∧ Q .ret s
  | _, _, _ => False
theorem Post.mono {c0 : Cx} {N : Nat} {Q Q' : Ex → St → Prop} (h : ∀ e s, Q e s → Q' e s) {e : Exit} {a : Act} {w : World} (hp : Post E ρ c0 N Q e a w) : Post E ρ c0 N Q' e a w := by
  cases e with
  | normal => obtain ⟨c, s, h1, h2, h3, h4, h5⟩ := hp; exact ⟨c, s, h1, h2, h3, h4, h _ _ h5⟩
  | exit i => obtain ⟨c, s, h1, h2, h3, h4, h5⟩ := hp; exact ⟨c, s, h1, h2, h3, h4, h _ _ h5⟩
  | ret => obtain ⟨c, s, h1, h2, h3, h4, h5⟩ := hp; exact ⟨c, s, h1, h2, h3, h4, h _ _ h5⟩
  | _ => exact hp

theorem list_sound (hT : TabOk P E.T) (hC : CallOk P E.T E.R) (hJ : JOk P E.T E.J) {c0 : Cx} {N : Nat} (hN : N ≤ 1000000) {ops : Array Oper} (hops : ∀ (i : Nat) (p : Oper) (d : Tmp), ops.toList[i]? = some p → p.dst = some d → d < N) {Q : Ex → St → Prop} :
    ∀ (l : List Oper) (c : Cx) (s : St) (a : Act), (∀ (i : Nat) (p : Oper) (d : Tmp), l[i]? = some p → p.dst = some d → d < N) → Step c0 c → Rel E.T ρ c s a → a.tmps.size = N → listA E ops.toList (Q .normal) l s → wpList P ops (Post E ρ c0 N Q) l a c.w
  | [], c, s, a, _, h0, hR, hs, h => ⟨c, s, rfl, h0, hR, hs, h⟩
  | o :: l, c, s, a, hl, h0, hR, hs, h => by
    have hl' : ∀ (i : Nat) (p : Oper) (d : Tmp), l[i]? = some p → p.dst = some d → d < N := fun i p d hi => hl (i + 1) p d (by simpa using hi)
    have hdst : ∀ d, o.dst = some d → d < a.tmps.size ∧ d < 1000000 := fun d hd => by
      have := hl 0 o d rfl hd
      exact ⟨by rw [hs]; exact this, Nat.lt_of_lt_of_le this hN⟩
    rw [listA_cons] at h
    unfold wpList
    split at h
    · rename_i hw
      rw [if_pos (wanted_sound hR (by rw [hs]; exact hops) (by rw [hs]; exact hN) hw)]
      refine .inl (op_sound hT hC hJ hR hdst h fun a' c' s' h1 _ h2 h3 h4 => ?_)
      have go : listA E ops.toList (Q .normal) l s' → wpList P ops (Post E ρ c0 N Q) l a' c'.w := fun hk => list_sound hT hC hJ hN hops l c' s' a' hl' (h0.trans h1) h2 (h3.trans hs) hk
      unfold parted at h4
      split at h4
      · rename_i d hd hdd
        split at h4
        · rename_i b hb
          have hgo : listA E ops.toList (Q .normal) l (s'.put (some d) (.bool b)) := by
            cases b
            · exact go_iff.1 (h4.2 rfl)
            · exact go_iff.1 (h4.1 rfl)
          have : s'.put (some d) (.bool b) = s' := by
            cases s' with
            | mk t hh =>
              simp only [St.put, St.mk.injEq, and_true]
              exact upd_same t d _ hb
          rw [this] at hgo
          exact go hgo
        · exact h4.elim
      · exact go h4
    · rename_i hw
      rw [if_neg (by rw [wanted_sound hR (by rw [hs]; exact hops) (by rw [hs]; exact hN) hw]; simp)]
      rw [go_iff] at h
      exact list_sound hT hC hJ hN hops l c _ _ hl' h0 (hR.put o.dst hdst undef_v) ((put_size _ _ _).trans hs) h
    · exact h.elim

/-- What a drawn region's walk leans on. -/
def Held (c : Cx) (H : List Nat × List Nat) (w : World) : Prop := (∀ g, c.Z g → w.heap[g]? = c.w.heap[g]?) ∧ (∀ b ∈ H.1, ∀ g, c.bk b = some g → w.heap[g]? = c.w.heap[g]?) ∧ ∀ F ∈ H.2, ∀ g, c.fm F = some g → w.heap[g]? = c.w.heap[g]?
theorem Held.self (c : Cx) (H : List Nat × List Nat) : Held c H c.w := ⟨fun _ _ => rfl, fun _ _ _ _ => rfl, fun _ _ _ _ => rfl⟩
theorem anyH_strong {P : Program} {md : Region.Mode} {ops : Array Oper} {Q : Exit → Act → World → Prop} {S S' : World → Prop} (h : ∀ w, S' w → S w) : ∀ (fuel : Nat) (listed : Array Bool) (a : Act) (w : World), wpAnyH P md ops Q S' fuel listed a w → wpAnyH P md ops Q S fuel listed a w
  | 0, _, _, _, hh => hh
  | fuel + 1, _, _, _, hh => ⟨hh.1, fun i hi => wpOp_mono (fun a' w' h' => ⟨h w' h'.1, anyH_strong h fuel _ a' w' h'.2⟩) (hh.2 i hi)⟩
theorem free_hits {H : List Nat} {b0 : Tch} (hf : freeB H b0 = true) : ∀ b ∈ H, b0.hits b = false := fun b hb => by
  cases b0 with
  | non => rfl
  | one k =>
    simp only [Tch.hits]
    cases hq : Nat.beq k b with
    | false => rfl
    | true =>
      rw [Nat.eq_of_beq_eq_true hq] at hf
      simp [freeB] at hf
      exact (hf hb).elim
  | all =>
    simp [freeB] at hf
    rw [hf] at hb
    cases hb
  | rng lo hi =>
    have hf : all? (fun F => !(Nat.ble lo F && Nat.blt F hi)) H = true := hf
    have := all_mem hf b hb
    have this : (!(Nat.ble lo b && Nat.blt b hi)) = true := this
    show (Nat.ble lo b && Nat.blt b hi) = false
    cases hq : (Nat.ble lo b && Nat.blt b hi) with
    | false => rfl
    | true => rw [hq] at this; cases this
theorem held_step {c c' : Cx} {H : List Nat × List Nat} {b0 f0 : Tch} (hok : c.Ok) (hS : Step c c') (hK : KeepsB c c' b0 f0) (hf : freeB H.1 b0 = true) (hf' : freeB H.2 f0 = true) : Held c H c'.w ∧ ∀ w, Held c' H w → Held c H w := by
  have hne := free_hits hf
  have hne' := free_hits hf'
  have h1 : ∀ g, c.Z g → c'.w.heap[g]? = c.w.heap[g]? := fun g hg => hS.blk g (hok.zlt g hg) (fun h => h.elim (fun ⟨b, hb⟩ => hok.zb b g hb hg) (fun ⟨F, hF⟩ => hok.zf F g hF hg))
  exact ⟨⟨h1, fun b hb g hg => (hK.1 b g hg (hne b hb)).2, fun F hF g hg => (hK.2 F g hg (hne' F hF)).2⟩, fun w hw => ⟨fun g hg => (hw.1 g (hS.z g hg)).trans (h1 g hg), fun b hb g hg => (hw.2.1 b hb g (hK.1 b g hg (hne b hb)).1).trans (hK.1 b g hg (hne b hb)).2, fun F hF g hg => (hw.2.2 F hF g (hK.2 F g hg (hne' F hF)).1).trans (hK.2 F g hg (hne' F hF)).2⟩⟩
theorem sees_held {c : Cx} {s : St} {o : Oper} {H : List Nat × List Nat} {w : World} (h : Held c (readsA s o ++ H.1, readsF s o ++ H.2) w) : SeesO c s o w := by
  unfold SeesO
  split
  · rename_i t x hop
    split
    · rename_i b off hb
      refine h.2.1 b ?_
      simp [readsA, hop, hb]
    · rename_i t' e i off cs hb
      refine ⟨h.1, fun F hF g hg => ?_⟩
      subst hF
      exact h.2.2 F (by simp [readsF, hop, hb]) g hg
    · trivial
  · trivial

theorem parted_out {all : List Oper} {d : Option Tmp} {K : St → Prop} {s : St} (h : parted all d K s) : K s := by
  unfold parted at h
  cases d with
  | none => cases hq : asked all none <;> rw [hq] at h <;> exact h
  | some d =>
    cases hq : asked all (some d) with
    | false => rw [hq] at h; exact h
    | true =>
      rw [hq] at h
      simp only [] at h
      split at h
      · rename_i b hb
        have hgo : K (s.put (some d) (.bool b)) := by
          cases b
          · exact go_iff.1 (h.2 rfl)
          · exact go_iff.1 (h.1 rfl)
        have : s.put (some d) (.bool b) = s := by
          cases s with
          | mk t hh =>
            simp only [St.put, St.mk.injEq, and_true]
            exact upd_same t d _ hb
        rwa [this] at hgo
      · exact h.elim

/-! ### what was looked at may be written once it must have come up -/
section
variable {P : Program} {ops : Array Oper} {Q : Exit → Act → World → Prop}
/-- With an operation all that it waits for has come up. -/
def Shut (ops : Array Oper) (listed : Array Bool) : Prop := ∀ (j : Nat) (o : Oper), listed.getD j false = true → ops[j]? = some o → ∀ e ∈ o.after, Region.binds .any e = true → listed.getD e.on false = true
theorem before_listed {listed : Array Bool} (hc : Shut ops listed) : ∀ (n k j : Nat), before ops n k j = true → (∀ o, ops[j]? = some o → ∀ e ∈ o.after, Region.binds .any e = true → listed.getD e.on false = true) → listed.getD k false = true
  | 0, _, _, h, _ => by cases h
  | n + 1, k, j, h, hj => by
    unfold before at h
    split at h
    · rename_i o ho
      rw [List.any_eq_true] at h
      obtain ⟨e, he, hb⟩ := h
      rw [Bool.and_eq_true, Bool.or_eq_true] at hb
      have he : e ∈ o.after := by simpa using he
      have hl := hj o ho e he hb.1
      rcases hb.2 with h1 | h1
      · rw [← Nat.eq_of_beq_eq_true h1]; exact hl
      · exact before_listed hc n k e.on h1 (fun o' ho' => hc e.on o' hl ho')
    · cases h
theorem shut_none : Shut ops (Array.replicate ops.size false) := fun j o hj _ => by
  exfalso
  rw [Array.getD_eq_getD_getElem?] at hj
  by_cases h : j < ops.size
  · simp [h] at hj
  · simp [h] at hj
theorem shut_set {listed : Array Bool} {i : Nat} (hc : Shut ops listed) (hi : i ∈ Region.ready .any ops listed) : Shut ops (listed.setIfInBounds i true) := fun j o hj ho e he hb => by
  refine getD_set_true ?_
  by_cases hij : i = j
  · subst hij
    obtain ⟨_, o', ho', hall⟩ := mem_ready.1 hi
    obtain rfl : o' = o := Option.some.inj (ho'.symm.trans ho)
    exact hall e he hb
  · rw [getD_set_ne false hij] at hj
    exact hc j o hj ho e he hb
/-- Whatever order is picked; T: operations that were looked at first, each with what it asks of the world as long as it may not have come up. -/
def wpAnyK (P : Program) (ops : Array Oper) (Q : Exit → Act → World → Prop) (b : Nat → Nat → Bool) : Nat → List (Nat × (World → Prop)) → Array Bool → Act → World → Prop
  | 0, _, listed, a, w => Region.ready .any ops listed = [] ∧ Q .normal a w
  | fuel + 1, T, listed, a, w =>
    (Region.ready .any ops listed = [] → Q .normal a w) ∧
    ∀ i ∈ Region.ready .any ops listed, wpOp P ops Q i (fun a' w' => (∀ t ∈ T, b t.1 i = false → t.2 w') ∧ wpAnyK P ops Q b fuel (T.filter fun t => !b t.1 i) (listed.setIfInBounds i true) a' w') a w
theorem wpAny_of_K {b : Nat → Nat → Bool} : ∀ (fuel : Nat) (T : List (Nat × (World → Prop))) (listed : Array Bool) (a : Act) (w : World), wpAnyK P ops Q b fuel T listed a w → wpAny P .any ops Q fuel listed a w
  | 0, _, _, _, _, h => h
  | fuel + 1, _, _, _, _, h => ⟨h.1, fun i hi => wpOp_mono (fun a' w' h' => wpAny_of_K fuel _ _ a' w' h'.2) (h.2 i hi)⟩
theorem wpAnyK_mono {b : Nat → Nat → Bool} : ∀ (fuel : Nat) (T T' : List (Nat × (World → Prop))) (listed : Array Bool) (a : Act) (w : World), (∀ t ∈ T, ∃ t' ∈ T', t'.1 = t.1 ∧ ∀ w, t'.2 w → t.2 w) → wpAnyK P ops Q b fuel T' listed a w → wpAnyK P ops Q b fuel T listed a w
  | 0, _, _, _, _, _, _, h => h
  | fuel + 1, T, T', listed, a, w, hT, h => ⟨h.1, fun i hi => wpOp_mono (fun a' w' h' => ⟨fun t ht hb => by
      obtain ⟨t', ht', he, hs⟩ := hT t ht
      exact hs _ (h'.1 t' ht' (by rw [he]; exact hb)), wpAnyK_mono fuel _ _ _ a' w' (fun t ht => by
      obtain ⟨h1, h2⟩ := List.mem_filter.1 ht
      obtain ⟨t', ht', he, hs⟩ := hT t h1
      exact ⟨t', List.mem_filter.2 ⟨ht', by rw [he]; exact h2⟩, he, hs⟩) h'.2⟩) (h.2 i hi)⟩
theorem wpAnyK_first {n i : Nat} {oi : Oper} {v : Value} {S : World → Prop} (hi : ops[i]? = some oi) (hsel : ∀ (j : Nat) (o : Oper) cs b, ops[j]? = some o → o.op ≠ .select cs b)
    (hQ : ∀ c a w, Q (.panic c) (a.put oi.dst v) w → Q (.panic c) a w) :
    ∀ (fuel : Nat) (T : List (Nat × (World → Prop))) (listed : Array Bool) (a : Act) (w : World), Shut ops listed →
      (∀ j oj, ops[j]? = some oj → j ≠ i → listed.getD j true = false → (∀ e ∈ oj.after, Region.binds .any e = true → e.on ≠ i) → oi.apart ops oj = true) →
      i ∈ Region.ready .any ops listed → YieldsIf P ops S oi v a → S w → (∀ t ∈ T, t.2 w) →
      wpAnyK P ops Q (before ops n) fuel ((i, S) :: T) (listed.setIfInBounds i true) (a.put oi.dst v) w → wpAnyK P ops Q (before ops n) (fuel + 1) T listed a w := by
  have sub : ∀ (T : List (Nat × (World → Prop))) (f : Nat × (World → Prop) → Bool), ∀ t ∈ T.filter f, ∃ t' ∈ (i, S) :: T, t'.1 = t.1 ∧ ∀ w, t'.2 w → t.2 w := fun T f t ht => ⟨t, List.mem_cons_of_mem _ (List.mem_filter.1 ht).1, rfl, fun _ h => h⟩
  intro fuel
  induction fuel with
  | zero =>
    intro T listed a w hc _ hr hy hS hT H
    refine ⟨fun h => (by rw [h] at hr; cases hr), fun j hj => ?_⟩
    by_cases hji : j = i
    · subst hji; exact hy.wpOp hi hS ⟨fun t ht _ => hT t ht, H⟩
    · have := ready_mono hj hji
      rw [H.1] at this
      cases this
  | succ fuel ih =>
    intro T listed a w hc hfree hr hy hS hT H
    refine ⟨fun h => (by rw [h] at hr; cases hr), fun j hj => ?_⟩
    by_cases hji : j = i
    · subst hji; exact hy.wpOp hi hS ⟨fun t ht _ => hT t ht, wpAnyK_mono _ _ _ _ _ _ (sub T _) H⟩
    · have h1 := H.2 j (ready_mono hj hji)
      obtain ⟨hjun, oj, hoj, hall⟩ := mem_ready.1 hj
      have hun : ¬ listed.getD i false = true := fun h1 => by
        have h0 := (mem_ready.1 hr).1
        rw [Array.getD_eq_getD_getElem?] at h0 h1
        rcases Nat.lt_or_ge i listed.size with h' | h'
        · simp [h'] at h0 h1; rw [h0] at h1; cases h1
        · simp [Array.getElem?_eq_none h'] at h1
      have hnot : ∀ e ∈ oj.after, Region.binds .any e = true → e.on ≠ i := fun e he hb heq => hun (heq ▸ hall e he hb)
      have hbf : before ops n i j = false := by
        cases hq : before ops n i j with
        | false => rfl
        | true => exact absurd (before_listed hc n i j hq (fun o ho => by
            obtain rfl : oj = o := Option.some.inj (hoj.symm.trans ho)
            exact hall)) hun
      have h2 := wpOp_putIf hoj (hfree j oj hoj hji hjun hnot) (fun cs b => hsel i oi cs b hi) (fun cs b => hsel j oj cs b hoj) hQ hy h1
      have hfree' : ∀ k ok, ops[k]? = some ok → k ≠ i → (listed.setIfInBounds j true).getD k true = false →
          (∀ e ∈ ok.after, Region.binds .any e = true → e.on ≠ i) → oi.apart ops ok = true := fun k ok hk hki hun hno => by
        refine hfree k ok hk hki ?_ hno
        by_cases hjk : j = k
        · subst hjk; exact hjun
        · rw [getD_set_ne true hjk] at hun; exact hun
      refine wpOp_mono (fun a' w' h3 => ?_) h2
      have hcond := h3.2.1
      have hSw : S w' := hcond (i, S) (List.mem_cons_self ..) hbf
      have hTw : ∀ t ∈ T, before ops n t.1 j = false → t.2 w' := fun t ht => hcond t (List.mem_cons_of_mem _ ht)
      refine ⟨hTw, ih _ (listed.setIfInBounds j true) a' w' (shut_set hc hj) hfree' (ready_mono hr (Ne.symm hji)) h3.1 hSw (fun t ht => by
        obtain ⟨q1, q2⟩ := List.mem_filter.1 ht
        exact hTw t q1 (by simpa using q2)) ?_⟩
      rw [Array.setIfInBounds_comm _ _ hji]
      have h4 := h3.2.2
      rw [List.filter_cons, if_pos (by rw [hbf]; rfl)] at h4
      exact h4
theorem wpAnyK_take {n i : Nat} {oi : Oper} {v : Value} {S : World → Prop} {fuel : Nat} {T : List (Nat × (World → Prop))} {listed : Array Bool} {a : Act} {w : World} (hc : Shut ops listed) (hi : ops[i]? = some oi)
    (hs : Region.noSelect ops = true) (hf : Region.free .any ops listed i = true) (hr : (Region.ready .any ops listed).contains i = true)
    (hQ : ∀ c a w, Q (.panic c) (a.put oi.dst v) w → Q (.panic c) a w) (hy : YieldsIf P ops S oi v a) (hS : S w) (hT : ∀ t ∈ T, t.2 w)
    (h : wpAnyK P ops Q (before ops n) fuel ((i, S) :: T) (listed.setIfInBounds i true) (a.put oi.dst v) w) : wpAnyK P ops Q (before ops n) (fuel + 1) T listed a w :=
  wpAnyK_first hi (Region.noSelect_spec hs) hQ fuel T listed a w hc (Region.free_spec hi hf) (by simpa using hr) hy hS hT h
theorem wpAnyK_all {b : Nat → Nat → Bool} {rs : List Nat} {fuel : Nat} {T : List (Nat × (World → Prop))} {listed : Array Bool} {a : Act} {w : World} (hr : Region.ready .any ops listed = rs) (hne : rs ≠ [])
    (h : ∀ i ∈ rs, wpOp P ops Q i (fun a' w' => (∀ t ∈ T, b t.1 i = false → t.2 w') ∧ wpAnyK P ops Q b fuel (T.filter fun t => !b t.1 i) (listed.setIfInBounds i true) a' w') a w) : wpAnyK P ops Q b (fuel + 1) T listed a w :=
  ⟨fun h0 => absurd (hr ▸ h0) hne, hr ▸ h⟩
theorem wpAnyK_done {b : Nat → Nat → Bool} {listed : Array Bool} {T : List (Nat × (World → Prop))} {a : Act} {w : World} (hr : Region.ready .any ops listed = []) (h : Q .normal a w) : ∀ fuel, wpAnyK P ops Q b fuel T listed a w
  | 0 => ⟨hr, h⟩
  | _ + 1 => ⟨fun _ => h, by rw [hr]; simp⟩
end
/-- What those that were looked at first ask. -/
def asks (c : Cx) (H : List Nat × List Nat) (L : List Nat) : List (Nat × (World → Prop)) := L.map fun k => (k, Held c H)
theorem asks_mem {c : Cx} {H : List Nat × List Nat} {L : List Nat} {t : Nat × (World → Prop)} : t ∈ asks c H L ↔ t.1 ∈ L ∧ t.2 = Held c H := by
  unfold asks
  rw [List.mem_map]
  exact ⟨fun ⟨k, hk, e⟩ => e ▸ ⟨hk, rfl⟩, fun ⟨h1, h2⟩ => ⟨t.1, h1, by cases t; simp at h2; rw [h2]⟩⟩
theorem draw_sound (hT : TabOk P E.T) (hC : CallOk P E.T E.R) (hJ : JOk P E.T E.J) {c0 : Cx} {N : Nat} (hN : N ≤ 1000000) {ops : Array Oper} (hsel : Region.noSelect ops = true) (hops : ∀ (i : Nat) (p : Oper) (d : Tmp), ops.toList[i]? = some p → p.dst = some d → d < N) {Q : Ex → St → Prop} (p : Plan) :
    (∀ (fuel : Nat) (listed : Array Bool) (L : List Nat) (H : List Nat × List Nat) (c : Cx) (s : St) (a : Act), planOk ops p false fuel listed = true → Shut ops listed → (∀ k ∈ L, listed.getD k false = true) → Step c0 c → Rel E.T ρ c s a → a.tmps.size = N → drawA E ops.toList (Q .normal) p H.1 H.2 s →
      wpAnyK P ops (Post E ρ c0 N Q) (before ops ops.size) fuel (asks c H L) listed a c.w) ∧
    (∀ (n : Nat) (listed : Array Bool) (L : List Nat) (H : List Nat × List Nat) (c : Cx) (s : St) (a : Act), planOk ops p true (n + 1) listed = true → Shut ops listed → (∀ k ∈ L, listed.getD k false = true) → Step c0 c → Rel E.T ρ c s a → a.tmps.size = N → drawA E ops.toList (Q .normal) p H.1 H.2 s →
      ∀ i ∈ p.ids, i ∈ Region.ready .any ops listed → wpOp P ops (Post E ρ c0 N Q) i (fun a' w' => (∀ t ∈ asks c H L, before ops ops.size t.1 i = false → t.2 w') ∧ wpAnyK P ops (Post E ρ c0 N Q) (before ops ops.size) n ((asks c H L).filter fun t => !before ops ops.size t.1 i) (listed.setIfInBounds i true) a' w') a c.w) := by
  -- one that comes up; L': those that may still be asked
  have one : ∀ (p : Plan) (i : Nat), (∀ (fuel : Nat) (listed : Array Bool) (L : List Nat) (H : List Nat × List Nat) (c : Cx) (s : St) (a : Act), planOk ops p false fuel listed = true → Shut ops listed → (∀ k ∈ L, listed.getD k false = true) → Step c0 c → Rel E.T ρ c s a → a.tmps.size = N → drawA E ops.toList (Q .normal) p H.1 H.2 s → wpAnyK P ops (Post E ρ c0 N Q) (before ops ops.size) fuel (asks c H L) listed a c.w) →
      ∀ (n : Nat) (listed : Array Bool) (L L' : List Nat) (H H' : List Nat × List Nat) (c : Cx) (s : St) (a : Act), planOk ops p false n (listed.setIfInBounds i true) = true → Shut ops (listed.setIfInBounds i true) → (∀ k ∈ L', listed.getD k false = true) → (∀ k ∈ L, before ops ops.size k i = false → k ∈ L' ∧ H = H') → Step c0 c → Rel E.T ρ c s a → a.tmps.size = N → draw1A E ops.toList i H' s (drawA E ops.toList (Q .normal) p H'.1 H'.2) →
        wpOp P ops (Post E ρ c0 N Q) i (fun a' w' => (∀ t ∈ asks c H L, before ops ops.size t.1 i = false → t.2 w') ∧ wpAnyK P ops (Post E ρ c0 N Q) (before ops ops.size) n ((asks c H L).filter fun t => !before ops ops.size t.1 i) (listed.setIfInBounds i true) a' w') a c.w := by
    intro p i ih n listed L L' H H' c s a hp hc hL hLL h0 hR hs h1
    have fin : ∀ (c' : Cx) (w' : World) (a' : Act), (Held c H' w' ∧ ∀ w, Held c' H' w → Held c H' w) → wpAnyK P ops (Post E ρ c0 N Q) (before ops ops.size) n (asks c' H' L') (listed.setIfInBounds i true) a' w' →
        (∀ t ∈ asks c H L, before ops ops.size t.1 i = false → t.2 w') ∧ wpAnyK P ops (Post E ρ c0 N Q) (before ops ops.size) n ((asks c H L).filter fun t => !before ops ops.size t.1 i) (listed.setIfInBounds i true) a' w' := fun c' w' a' hh hk => by
      refine ⟨fun t ht hb => ?_, wpAnyK_mono _ _ _ _ _ _ (fun t ht => ?_) hk⟩
      · obtain ⟨q1, q2⟩ := asks_mem.1 ht
        rw [q2, (hLL t.1 q1 hb).2]
        exact hh.1
      · obtain ⟨ht, hb⟩ := List.mem_filter.1 ht
        obtain ⟨q1, q2⟩ := asks_mem.1 ht
        obtain ⟨q3, q4⟩ := hLL t.1 q1 (by simpa using hb)
        refine ⟨(t.1, Held c' H'), asks_mem.2 ⟨q3, rfl⟩, rfl, fun w hw => ?_⟩
        rw [q2, q4]
        exact hh.2 w hw
    have hL2 : ∀ k ∈ L', (listed.setIfInBounds i true).getD k false = true := fun k hk => getD_set_true (hL k hk)
    unfold draw1A at h1
    split at h1
    · rename_i o ho
      have ho' : ops[i]? = some o := by rw [← Array.getElem?_toList]; exact ho
      have hdst : ∀ d, o.dst = some d → d < a.tmps.size ∧ d < 1000000 := fun d hd => by
        have := hops i o d ho hd
        exact ⟨by rw [hs]; exact this, Nat.lt_of_lt_of_le this hN⟩
      unfold wpOp
      rw [ho']
      simp only []
      split at h1
      · rename_i hw
        rw [ifT_iff] at h1
        obtain ⟨hf, h1⟩ := h1
        simp only [Bool.and_eq_true] at hf
        rw [if_pos (wanted_sound hR (by rw [hs]; exact hops) (by rw [hs]; exact hN) hw)]
        refine .inl (op_sound hT hC hJ hR hdst h1 fun a' c' s' k1 k2 k3 k4 k5 => ?_)
        exact fin c' _ _ (held_step hR.ok k1 k2 hf.1 hf.2) (ih n _ L' H' c' s' a' hp hc hL2 (h0.trans k1) k3 (k4.trans hs) (parted_out k5))
      · rename_i hw
        rw [if_neg (by rw [wanted_sound hR (by rw [hs]; exact hops) (by rw [hs]; exact hN) hw]; simp)]
        rw [go_iff] at h1
        exact fin c _ _ ⟨.self c H', fun _ h => h⟩ (ih n _ L' H' c _ _ hp hc hL2 h0 (hR.put o.dst hdst undef_v) ((put_size _ _ _).trans hs) h1)
      · exact h1.elim
    · exact h1.elim
  induction p with
  | done =>
    refine ⟨fun fuel listed L H c s a hp _ _ h0 hR hs h => ?_, fun n listed L H c s a hp => by unfold planOk at hp; cases hp⟩
    rw [drawA_done] at h
    refine wpAnyK_done ?_ ⟨c, s, rfl, h0, hR, hs, h⟩ fuel
    unfold planOk at hp
    exact List.isEmpty_iff.1 hp
  | take i p ih =>
    refine ⟨fun fuel listed L H c s a hp hc hL h0 hR hs h => ?_, fun n listed L H c s a hp => by unfold planOk at hp; cases hp⟩
    cases fuel with
    | zero => unfold planOk at hp; cases hp
    | succ n =>
      unfold planOk at hp
      simp only [Bool.and_eq_true] at hp
      obtain ⟨⟨hfree, hready⟩, hp⟩ := hp
      have hri : i ∈ Region.ready .any ops listed := by simpa using hready
      have hTw : ∀ t ∈ asks c H L, t.2 c.w := fun t ht => by rw [(asks_mem.1 ht).2]; exact .self c H
      have hLi : ∀ k ∈ i :: L, (listed.setIfInBounds i true).getD k false = true := fun k hk => by
        rcases List.mem_cons.1 hk with rfl | hk
        · have h0 := (mem_ready.1 hri).1
          rw [Array.getD_eq_getD_getElem?] at h0 ⊢
          rcases Nat.lt_or_ge k listed.size with h' | h'
          · simp [h']
          · simp [Array.getElem?_eq_none h'] at h0
        · exact getD_set_true (hL k hk)
      rw [drawA_take] at h
      split at h
      · rename_i o ho
        have ho' : ops[i]? = some o := by rw [← Array.getElem?_toList]; exact ho
        have hdst : ∀ d, o.dst = some d → d < a.tmps.size ∧ d < 1000000 := fun d hd => ⟨by rw [hs]; exact hops i o d ho hd, Nat.lt_of_lt_of_le (hops i o d ho hd) hN⟩
        split at h
        · rename_i hw
          obtain ⟨x, hK, v, hV, hrun⟩ := look_sound hT hR h
          rw [putF_iff] at hK
          have hK := parted_out hK
          rw [addH_iff, addH_iff] at hK
          have hle : ∀ w, Held c (readsA s o ++ H.1, readsF s o ++ H.2) w → Held c H w := fun w hw => ⟨hw.1, fun b hb => hw.2.1 b (List.mem_append_right _ hb), fun b hb => hw.2.2 b (List.mem_append_right _ hb)⟩
          refine wpAnyK_take (S := Held c (readsA s o ++ H.1, readsF s o ++ H.2)) hc ho' hsel hfree hready (fun c a w q => q.elim) (.inl ⟨wanted_sound hR (by rw [hs]; exact hops) (by rw [hs]; exact hN) hw, fun w hw => hrun w (sees_held hw)⟩) (.self c _) hTw ?_
          refine wpAnyK_mono _ _ _ _ _ _ (fun t ht => ?_) (ih.1 n _ (i :: L) (readsA s o ++ H.1, readsF s o ++ H.2) c _ _ hp (shut_set hc hri) hLi h0 (hR.put o.dst hdst hV) ((put_size _ _ _).trans hs) hK)
          rcases List.mem_cons.1 ht with rfl | ht
          · exact ⟨_, asks_mem.2 ⟨List.mem_cons_self .., rfl⟩, rfl, fun _ h => h⟩
          · obtain ⟨q1, q2⟩ := asks_mem.1 ht
            exact ⟨(t.1, Held c (readsA s o ++ H.1, readsF s o ++ H.2)), asks_mem.2 ⟨List.mem_cons_of_mem _ q1, rfl⟩, rfl, fun w hw => by rw [q2]; exact hle w hw⟩
        · rename_i hw
          rw [go_iff] at h
          refine wpAnyK_take (S := Held c H) hc ho' hsel hfree hready (fun c a w q => q.elim) (.inr ⟨wanted_sound hR (by rw [hs]; exact hops) (by rw [hs]; exact hN) hw, rfl⟩) (.self c _) hTw ?_
          exact ih.1 n _ (i :: L) H c _ _ hp (shut_set hc hri) hLi h0 (hR.put o.dst hdst undef_v) ((put_size _ _ _).trans hs) h
        · exact h.elim
      · exact h.elim
  | last i p ih =>
    have h2 : ∀ (on : Bool) (n : Nat) (listed : Array Bool), planOk ops (.last i p) on (n + 1) listed = true → (on = true ∨ Region.ready .any ops listed = [i]) ∧ planOk ops p false n (listed.setIfInBounds i true) = true := fun on n listed hp => by
      unfold planOk at hp
      simp only [Bool.and_eq_true, Bool.or_eq_true] at hp
      exact ⟨hp.1.imp id (fun h => by simpa using h), hp.2⟩
    refine ⟨fun fuel listed L H c s a hp hc hL h0 hR hs h => ?_, fun n listed L H c s a hp hc hL h0 hR hs h j hj hrj => ?_⟩
    · cases fuel with
      | zero => unfold planOk at hp; cases hp
      | succ n =>
        obtain ⟨hr, hp⟩ := h2 _ _ _ hp
        have hr := hr.elim (fun e => by cases e) id
        rw [drawA_last] at h
        refine wpAnyK_all hr (by simp) fun j hj => ?_
        simp only [List.mem_singleton] at hj
        subst hj
        exact one p j ih.1 n listed L L H H c s a hp (shut_set hc (by rw [hr]; simp)) hL (fun k hk _ => ⟨hk, rfl⟩) h0 hR hs h
    · obtain ⟨_, hp⟩ := h2 _ _ _ hp
      rw [drawA_last] at h
      simp only [Plan.ids, List.mem_singleton] at hj
      subst hj
      exact one p j ih.1 n listed L L H H c s a hp (shut_set hc hrj) hL (fun k hk _ => ⟨hk, rfl⟩) h0 hR hs h
  | alt i p r ih ihr =>
    have h2 : ∀ (on : Bool) (n : Nat) (listed : Array Bool), planOk ops (.alt i p r) on (n + 1) listed = true → (on = true ∨ Region.ready .any ops listed = i :: r.ids) ∧ planOk ops p false n (listed.setIfInBounds i true) = true ∧ planOk ops r true (n + 1) listed = true := fun on n listed hp => by
      unfold planOk at hp
      simp only [Bool.and_eq_true, Bool.or_eq_true] at hp
      exact ⟨hp.1.1.imp id (fun h => by simpa using h), hp.1.2, hp.2⟩
    have both : ∀ (n : Nat) (listed : Array Bool) (L : List Nat) (H : List Nat × List Nat) (c : Cx) (s : St) (a : Act), planOk ops p false n (listed.setIfInBounds i true) = true → planOk ops r true (n + 1) listed = true → Shut ops listed → (∀ k ∈ L, listed.getD k false = true) → Step c0 c → Rel E.T ρ c s a → a.tmps.size = N → drawA E ops.toList (Q .normal) (.alt i p r) H.1 H.2 s →
        ∀ j ∈ i :: r.ids, j ∈ Region.ready .any ops listed → wpOp P ops (Post E ρ c0 N Q) j (fun a' w' => (∀ t ∈ asks c H L, before ops ops.size t.1 j = false → t.2 w') ∧ wpAnyK P ops (Post E ρ c0 N Q) (before ops ops.size) n ((asks c H L).filter fun t => !before ops ops.size t.1 j) (listed.setIfInBounds j true) a' w') a c.w := by
      intro n listed L H c s a hp hr hc hL h0 hR hs h j hj hrj
      rw [drawA_alt] at h
      rcases List.mem_cons.1 hj with rfl | hj
      · exact one p j ih.1 n listed L L H H c s a hp (shut_set hc hrj) hL (fun k hk _ => ⟨hk, rfl⟩) h0 hR hs h.1
      · exact ihr.2 n listed L H c s a hr hc hL h0 hR hs h.2 j hj hrj
    refine ⟨fun fuel listed L H c s a hp hc hL h0 hR hs h => ?_, fun n listed L H c s a hp hc hL h0 hR hs h j hj hrj => ?_⟩
    · cases fuel with
      | zero => unfold planOk at hp; cases hp
      | succ n =>
        obtain ⟨hr, hp, hp'⟩ := h2 _ _ _ hp
        have hr := hr.elim (fun e => by cases e) id
        exact wpAnyK_all hr (by simp) (fun j hj => both n listed L H c s a hp hp' hc hL h0 hR hs h j hj (by rw [hr]; exact hj))
    · obtain ⟨_, hp, hp'⟩ := h2 _ _ _ hp
      exact both n listed L H c s a hp hp' hc hL h0 hR hs h j hj hrj
  | cut i p ih =>
    refine ⟨fun fuel listed L H c s a hp hc hL h0 hR hs h => ?_, fun n listed L H c s a hp => by unfold planOk at hp; cases hp⟩
    cases fuel with
    | zero => unfold planOk at hp; cases hp
    | succ n =>
      unfold planOk at hp
      simp only [Bool.and_eq_true] at hp
      obtain ⟨⟨hr, hall⟩, hp⟩ := hp
      have hr : Region.ready .any ops listed = [i] := by simpa using hr
      rw [drawA_cut] at h
      refine wpAnyK_all hr (by simp) fun j hj => ?_
      simp only [List.mem_singleton] at hj
      subst hj
      refine one p j ih.1 n listed L [] H ([], []) c s a hp (shut_set hc (by rw [hr]; simp)) (fun k hk => by simp at hk) (fun k hk hb => ?_) h0 hR hs h
      exfalso
      have hl := hL k hk
      have hk' : k < listed.size := by
        rw [Array.getD_eq_getD_getElem?] at hl
        rcases Nat.lt_or_ge k listed.size with h' | h'
        · exact h'
        · simp [Array.getElem?_eq_none h'] at hl
      have := List.all_eq_true.1 hall k (List.mem_range.2 hk')
      rw [hl, hb] at this
      simp at this

theorem rounds_more {P : Program} {c : Code} {Q : Exit → Act → World → Prop} : ∀ {n : Nat} {a : Act} {w : World}, Code.rounds P c Q n a w → Code.rounds P c Q (n + 1) a w
  | 0, _, _, h => h.elim
  | n + 1, a, w, h => by
    rw [rounds_succ] at h ⊢
    refine Code.wp_mono (fun e a w q => ?_) h
    cases e <;> first | exact rounds_more q | exact q
theorem rounds_le {P : Program} {c : Code} {Q : Exit → Act → World → Prop} {n m : Nat} (h : n ≤ m) {a : Act} {w : World} (hr : Code.rounds P c Q n a w) : Code.rounds P c Q m a w := by
  induction h with
  | refl => exact hr
  | step _ ih => exact rounds_more ih

theorem wpA_sound (hT : TabOk P E.T) (hC : CallOk P E.T E.R) (hJ : JOk P E.T E.J) {c0 : Cx} {N : Nat} (hN : N ≤ 1000000) : ∀ (code : Code) (Q : Ex → St → Prop) (c : Cx) (s : St) (a : Act), okD E.pl N code = true → Step c0 c → Rel E.T ρ c s a → a.tmps.size = N → wpA E code Q s → code.wp P (Post E ρ c0 N Q) a c.w
  | .skip, Q, c, s, a, _, h0, hR, hs, h => wp_skip ⟨c, s, rfl, h0, hR, hs, h⟩
  | .region id ops false, Q, c, s, a, hk, h0, hR, hs, h => by
    have hops : ∀ (i : Nat) (p : Oper) (d : Tmp), ops.toList[i]? = some p → p.dst = some d → d < N := fun i p d hi hd => by
      simp only [okD, Bool.and_eq_true] at hk
      have := all_spec hk.1 i p hi
      rw [hd] at this
      exact Nat.le_of_ble_eq_true this
    exact wp_region_list (list_sound hT hC hJ hN hops ops.toList c s a hops h0 hR hs h)
  | .region id ops true, Q, c, s, a, hk, h0, hR, hs, h => by
    have hops : ∀ (i : Nat) (p : Oper) (d : Tmp), ops.toList[i]? = some p → p.dst = some d → d < N := fun i p d hi hd => by
      simp only [okD, Bool.and_eq_true] at hk
      have := all_spec hk.1 i p hi
      rw [hd] at this
      exact Nat.le_of_ble_eq_true this
    simp only [okD, Bool.and_eq_true] at hk
    obtain ⟨_, hsel, hp⟩ := hk
    exact wp_region_any hT.wide (wpAny_of_K _ _ _ _ _ ((draw_sound hT hC hJ hN hsel hops (E.pl id)).1 _ _ [] ([], []) { c with w := { c.w with drawn := c.w.drawn + 1 } } s a hp shut_none (fun k hk => by simp at hk) (h0.trans ⟨Nat.le_refl _, rfl, rfl, rfl, fun _ _ _ => rfl, fun _ h => .inl h, fun _ h => h, fun _ h => .inl h, fun _ _ _ => rfl⟩) (hR.world _ rfl) hs h))
  | .seq x y, Q, c, s, a, hk, h0, hR, hs, h => by
    simp only [okD, Bool.and_eq_true] at hk
    refine wp_seq (Code.wp_mono (fun e a w q => ?_) (wpA_sound hT hC hJ hN x _ c s a hk.1 h0 hR hs h))
    cases e with
    | normal => obtain ⟨c', s', rfl, h2, h3, h4, h5⟩ := q; exact wpA_sound hT hC hJ hN y Q c' s' a hk.2 h2 h3 h4 h5
    | exit i => exact q
    | ret => exact q
    | _ => exact q.elim
  | .cond x y z, Q, c, s, a, hk, h0, hR, hs, h => by
    simp only [okD, Bool.and_eq_true] at hk
    rw [wpA_cond] at h
    split at h
    · rename_i b hb
      have hv := (show V E.T c (.bool b) (a.eval x) from hb ▸ hR.ev x).bool_inv
      refine wp_cond hv ?_
      cases b
      · exact wpA_sound hT hC hJ hN z Q c s a hk.2 h0 hR hs (h.2 rfl)
      · exact wpA_sound hT hC hJ hN y Q c s a hk.1 h0 hR hs (h.1 rfl)
    · exact h.elim
  | .block id b, Q, c, s, a, hk, h0, hR, hs, h => by
    refine wp_block (Code.wp_mono (fun e a w q => ?_) (wpA_sound hT hC hJ hN b _ c s a hk h0 hR hs h))
    cases e with
    | normal => exact q
    | exit i =>
      obtain ⟨c', s', h1, h2, h3, h4, h5⟩ := q
      simp only [Exit.inBlock]
      cases hq : Nat.beq i id with
      | true =>
        rw [if_pos (Nat.eq_of_beq_eq_true hq)]
        simp only [hq] at h5
        exact ⟨c', s', h1, h2, h3, h4, h5⟩
      | false =>
        rw [if_neg (beq_false hq)]
        simp only [hq] at h5
        exact ⟨c', s', h1, h2, h3, h4, h5⟩
    | ret => exact q
    | _ => exact q.elim
  | .loop b, Q, c, s, a, hk, h0, hR, hs, h => by
    obtain ⟨I, ⟨n, hI⟩, hround⟩ := h
    have key : ∀ n c s a, Step c0 c → Rel E.T ρ c s a → a.tmps.size = N → I n s → Code.rounds P b (Post E ρ c0 N Q) (n + 1) a c.w := by
      intro n
      induction n using Nat.strongRecOn with
      | _ n ih =>
        intro c s a h0 hR hs hI
        rw [rounds_succ]
        refine Code.wp_mono (fun e a w q => ?_) (wpA_sound hT hC hJ hN b _ c s a hk h0 hR hs (hround n s hI))
        cases e with
        | normal =>
          obtain ⟨c', s', rfl, h2, h3, h4, m, hm, hI'⟩ := q
          exact rounds_le (show m + 1 ≤ n from hm) (ih m hm c' s' a h2 h3 h4 hI')
        | exit i => exact q
        | ret => exact q
        | _ => exact q.elim
    exact wp_loop_rounds (n + 1) (key n c s a h0 hR hs hI)
  | .exit id, Q, c, s, a, _, h0, hR, hs, h => wp_exit ⟨c, s, rfl, h0, hR, hs, h⟩
  | .ret, Q, c, s, a, _, h0, hR, hs, h => wp_ret ⟨c, s, rfl, h0, hR, hs, h⟩
  | .rangeFunc .., Q, c, s, a, _, h0, hR, hs, h => h.elim
  | .scope .., Q, c, s, a, _, h0, hR, hs, h => h.elim
  | .label .., Q, c, s, a, _, h0, hR, hs, h => h.elim
  | .goto .., Q, c, s, a, _, h0, hR, hs, h => h.elim

theorem results_eq (fn : Func) (tmps : Array Value) : ∃ F : ResultVar → Sem Value, (∀ t, F (.tmp t) = pure (tmps.getD t undef)) ∧ (∀ d t, F (.cell d t) = (do loadVar t (← asAddr (tmps.getD d undef)))) ∧ results fn tmps = (do let vs ← fn.results.mapM F; pure (if h : vs.size = 1 then vs[0] else .tuple vs)) := ⟨_, fun _ => rfl, fun _ _ => rfl, rfl⟩
theorem part_of {T : Tab} {t : TypeId} {cs : List AV} {off : Nat} {v : AV} (h : partO T t cs off = some v) : partA T t cs off (fun x => x = v) := by
  unfold partO at h
  unfold partA
  split at h
  · rename_i ha
    split at h
    · exact Option.some.inj h
    · cases h
  · rw [h]
  · cases h
theorem res_sound (hT : TabOk P E.T) {c : Cx} {s : St} {a : Act} (hR : Rel E.T ρ c s a) {F : ResultVar → Sem Value} (hF : ∀ t, F (.tmp t) = pure (a.tmps.getD t undef)) (hG : ∀ d t, F (.cell d t) = (do loadVar t (← asAddr (a.tmps.getD d undef)))) : ∀ (rs : List ResultVar) (vs : List AV), resA E.T s rs = some vs → ∃ us : List Value, VL E.T c vs us ∧ (rs.mapM F).run P c.w = .ok us c.w
  | [], vs, h => by
    cases h
    exact ⟨[], VL.nil, by simp⟩
  | .tmp t :: rs, vs, h => by
    simp only [resA] at h
    split at h
    · rename_i vs' h'
      cases h
      obtain ⟨us, h1, h2⟩ := res_sound hT hR hF hG rs vs' h'
      exact ⟨_ :: us, VL.cons (hR.ev (.tmp t)) h1, by simp only [List.mapM_cons, hF, Sem.run_bind, Sem.run_pure, Result.andThen_ok, h2]; rfl⟩
    · cases h
  | .cell d u :: rs, vs, h => by
    simp only [resA] at h
    split at h
    · rename_i v vs' hc h'
      cases h
      obtain ⟨us, h1, h2⟩ := res_sound hT hR hF hG rs vs' h'
      unfold cellA at hc
      split at hc
      · rename_i b off hp
        split at hc
        · rename_i e cs hbox
          have hv := hR.ev (.tmp d)
          rw [hp] at hv
          obtain ⟨g, hg, hq⟩ := hv.ptr_inv
          obtain ⟨g', hg', us', hblk, hVL, _⟩ := hR.h b _ hbox
          obtain rfl : g' = g := Option.some.inj (hg'.symm.trans hg)
          obtain ⟨x, y, hK, hxy, hload⟩ := load_sound (g := g') (o := 0) hT hVL (part_of hc)
          cases hK
          have hl := hload c.w (reads_of_blk hblk)
          rw [Nat.zero_add] at hl
          have hl' : (loadVar u ⟨g', off, none⟩).run P c.w = .ok y c.w := by
            simpa [Instr.loadAt, Instr.sureAddr] using hl
          have hq' : a.tmps.getD d undef = .pointer (some ⟨g', off, none⟩) := hq
          exact ⟨y :: us, VL.cons hxy h1, by simp only [List.mapM_cons, hG, hq', asAddr, Sem.run_bind, Sem.run_pure, Result.andThen_ok, hl', h2]⟩
        · cases hc
      · cases hc
    · cases h
theorem ret_sound (hT : TabOk P E.T) {c : Cx} {s : St} {a : Act} (hR : Rel E.T ρ c s a) {fn : Func} {v : AV} (h : retA E.T fn s = some v) : ∃ u, (results fn a.tmps).run P c.w = .ok u c.w ∧ V E.T c v u := by
  unfold retA at h
  obtain ⟨F, hF, hG, hres⟩ := results_eq fn a.tmps
  have key : ∀ us : List Value, (fn.results.toList.mapM F).run P c.w = .ok us c.w → (results fn a.tmps).run P c.w = .ok (if h : us.length = 1 then us[0] else .tuple us.toArray) c.w := by
    intro us hm
    rw [hres, Array.mapM_eq_mapM_toList]
    simp only [map_eq_pure_bind, Sem.run_bind, hm, Result.andThen_ok, Sem.run_pure, List.size_toArray]
    rfl
  split at h
  · rename_i v' hv'
    cases h
    obtain ⟨us, h1, h2⟩ := res_sound hT hR hF hG _ _ hv'
    have := key us h2
    match us, h1, this with
    | [u], h1, this => exact ⟨u, this, h1.2 0 _ _ rfl rfl⟩
    | [], h1, _ => exact absurd h1.1 (by simp)
    | _ :: _ :: _, h1, _ => exact absurd h1.1 (by simp)
  · rename_i vs hne hv'
    cases h
    obtain ⟨us, h1, h2⟩ := res_sound hT hR hF hG _ _ hv'
    have := key us h2
    rw [dif_neg ?_] at this
    · exact ⟨_, this, .tup _ us h1.1 h1.2⟩
    · intro hl
      match vs, h1.1.trans hl, hne with
      | [v], _, hne => exact hne v rfl
  · cases h

theorem out_sound {c : Cx} {s : St} {a : Act} (hR : Rel E.T ρ c s a) : ∀ (n i : Nat) (out : List Box), outA s i n = some out → ∀ j x, out[j]? = some x → ∃ g, c.bk (1000000000 + (i + j)) = some g ∧ BoxAt E.T c g x
  | 0, i, out, h, j, x, hx => by cases h; simp at hx
  | n + 1, i, out, h, j, x, hx => by
    simp only [outA] at h
    split at h
    · rename_i y l hy hl
      cases h
      cases j with
      | zero => simp at hx; subst hx; exact hR.h _ _ hy
      | succ j =>
        have := out_sound hR n (i + 1) l hl j x (by simpa using hx)
        rwa [show 1000000000 + (i + 1 + j) = 1000000000 + (i + (j + 1)) by omega] at this
    · cases h

theorem enterA_hid (args : List AV) (bs : List Box) : ∀ b, 2000000000 ≤ b → (enterA args bs).h b = none := by
  intro b hb
  have h : Nat.blt b 2000000000 = false := by
    cases hq : Nat.blt b 2000000000 with
    | false => rfl
    | true => have := Nat.le_of_ble_eq_true hq; omega
  simp only [enterA, h, Bool.and_false]
/-- A function's contract from its body. -/
theorem fn_ok (hT : TabOk P E.T) (hC : CallOk P E.T E.R) (hJ : JOk P E.T E.J) {f : FuncId} {fn : Func} {code : Code} (hf : P.funcs[f]? = some fn) (hname : (fn.name == "runtime.NumGoroutine") = false) (hb : fn.body = some code) (hk : (okD E.pl fn.ntmps code && Nat.ble fn.ntmps 1000000) = true)
    {S : List AV → List Box → (AV → List Box → Prop) → Prop} (h : ∀ args bs K, S args bs K → Nat.ble args.length fn.ntmps = true ∧ wpA E code (bodyA E.T fn bs K) (enterA args bs)) : FnOk P E.T f S := by
  refine ⟨fun args w => ?_, fun args bs K hS c vs hok hfm hV hB => ?_⟩
  · have hne : ¬ (fn.name = "runtime.NumGoroutine") := by simpa using hname
    simp [callFunc, hf, hne, hb]
  · obtain ⟨hlen, hwp⟩ := h args bs K hS
    have hlen := Nat.le_of_ble_eq_true hlen
    simp only [Bool.and_eq_true] at hk
    refine calls_of_wp hf hb ?_
    have hsz : (vs.toArray ++ Array.replicate (fn.ntmps - vs.toArray.size) undef).size = fn.ntmps := by
      have := hV.1
      simp
      omega
    have hR : Rel E.T (fun _ => undef) c (enterA args bs) { tmps := vs.toArray ++ Array.replicate (fn.ntmps - vs.toArray.size) undef, defers := [] } := by
      refine ⟨hok, fun j => ?_, fun b x hx => ?_, rfl, enterA_hid args bs⟩
      · simp only [enterA]
        cases ha : args[j]? with
        | none => exact .bad _
        | some x =>
          have hj := (List.getElem?_eq_some_iff.1 ha).1
          have hj' : j < vs.length := by rw [← hV.1]; exact hj
          have : vals (fun _ => undef) { tmps := vs.toArray ++ Array.replicate (fn.ntmps - vs.toArray.size) undef, defers := [] } j = vs[j] := by
            have hm := Nat.le_of_ble_eq_true hk.2
            rw [vals, if_pos (by omega), Array.getD_eq_getD_getElem?, Array.getElem?_append_left (by simpa using hj')]
            simp [hj']
          rw [this]
          exact hV.2 j x _ ha (List.getElem?_eq_getElem hj')
      · simp only [enterA] at hx
        split at hx
        · rename_i hb
          rw [Bool.and_eq_true] at hb
          have hb := Nat.le_of_ble_eq_true hb.1
          obtain ⟨g, h1, h2⟩ := hB _ x hx
          rw [show 1000000000 + (b - 1000000000) = b by omega] at h1
          exact ⟨g, h1, h2⟩
        · cases hx
    refine Code.wp_mono (fun e a w q => ?_) (wpA_sound hT hC hJ (Nat.le_of_ble_eq_true hk.2) code _ c _ _ hk.1 (.refl c) hR hsz hwp)
    have fin : ∀ (c' : Cx) (s' : St), c'.w = w → Step c c' → Rel E.T (fun _ => undef) c' s' a → bodyA E.T fn bs K .ret s' → a.defers = [] ∧ ∃ v, (results fn a.tmps).run P w = .ok v w ∧ (∃ v' c'' res out, Ending.returned v = .returned v' ∧ c''.w = w ∧ c''.Ok ∧ Step c c'' ∧ V E.T c'' res v' ∧ BoxesAt E.T c'' out ∧ K res out) := by
      intro c' s' hw h2 h3 h5
      subst hw
      simp only [bodyA] at h5
      split at h5
      · rename_i v out hv ho
        rw [force_iff] at h5
        obtain ⟨u, h6, h7⟩ := ret_sound hT h3 hv
        refine ⟨h3.d, u, h6, u, c', v, out, rfl, rfl, h3.ok, h2, h7, fun i x hx => ?_, h5⟩
        have := out_sound h3 _ _ _ ho i x hx
        rwa [Nat.zero_add] at this
      · exact h5.elim
    cases e with
    | normal => obtain ⟨c', s', h1, h2, h3, h4, h5⟩ := q; exact fin c' s' h1 h2 h3 h5
    | ret => obtain ⟨c', s', h1, h2, h3, h4, h5⟩ := q; exact fin c' s' h1 h2 h3 h5
    | exit i => obtain ⟨c', s', h1, h2, h3, h4, h5⟩ := q; exact h5.elim
    | _ => exact q.elim

/-- What a call does is what its body does. -/
theorem inl_ok (hT : TabOk P E.T) (hC : CallOk P E.T E.R) (hJ : JOk P E.T E.J) {f : FuncId} {fn : Func} {code : Code} (hf : P.funcs[f]? = some fn) (hname : (fn.name == "runtime.NumGoroutine") = false) (hb : fn.body = some code) (hk : (okD E.pl fn.ntmps code && Nat.ble fn.ntmps 1000000) = true) :
    SOk P E.T f (inlJ E fn code) := by
  refine ⟨fun args w => ?_, fun args s K hS ρ c a vs hR hV => ?_⟩
  · have hne : ¬ (fn.name = "runtime.NumGoroutine") := by simpa using hname
    simp [callFunc, hf, hne, hb]
  · obtain ⟨hlen, hwp⟩ := ifT_iff.1 hS
    have hlen := Nat.le_of_ble_eq_true hlen
    simp only [Bool.and_eq_true] at hk
    have hN := Nat.le_of_ble_eq_true hk.2
    refine calls_of_wp hf hb ?_
    have hsz : (vs.toArray ++ Array.replicate (fn.ntmps - vs.toArray.size) undef).size = fn.ntmps := by
      have := hV.1
      simp
      omega
    have hR' : Rel E.T (vals ρ a) c (pushS args s) { tmps := vs.toArray ++ Array.replicate (fn.ntmps - vs.toArray.size) undef, defers := [] } := by
      cases s with
      | mk t h =>
        refine ⟨hR.ok, fun j => ?_, hR.h, rfl, hR.n⟩
        simp only [pushS, argAt]
        cases hq : Nat.blt j 1000000 with
        | true =>
          have hj1 : j < 1000000 := Nat.le_of_ble_eq_true hq
          rw [cond_true]
          cases ha : args[j]? with
          | none => exact .bad _
          | some x =>
            have hj := (List.getElem?_eq_some_iff.1 ha).1
            have hj' : j < vs.length := by rw [← hV.1]; exact hj
            have : vals (vals ρ a) { tmps := vs.toArray ++ Array.replicate (fn.ntmps - vs.toArray.size) undef, defers := [] } j = vs[j] := by
              rw [vals, if_pos hj1, Array.getD_eq_getD_getElem?, Array.getElem?_append_left (by simpa using hj')]
              simp [hj']
            rw [this]
            exact hV.2 j x _ ha (List.getElem?_eq_getElem hj')
        | false =>
          have hj1 : ¬ j < 1000000 := fun h => by rw [show Nat.blt j 1000000 = true from Nat.ble_eq_true_of_le h] at hq; cases hq
          rw [cond_false, vals, if_neg hj1]
          exact hR.t (j - 1000000)
    refine Code.wp_mono (fun e a' w q => ?_) (wpA_sound hT hC hJ hN code _ c _ _ hk.1 (.refl c) hR' hsz hwp)
    have fin : ∀ (c' : Cx) (s' : St), c'.w = w → Step c c' → Rel E.T (vals ρ a) c' s' a' → bodyJ E.T fn K .ret s' → a'.defers = [] ∧ ∃ v, (results fn a'.tmps).run P w = .ok v w ∧ (∃ v' c'' s'' res, Ending.returned v = .returned v' ∧ c''.w = w ∧ Step c c'' ∧ Rel E.T ρ c'' s'' a ∧ V E.T c'' res v' ∧ K res s'') := by
      intro c' s' hw h2 h3 h5
      subst hw
      simp only [bodyJ] at h5
      split at h5
      · rename_i v hv
        rw [force_iff] at h5
        obtain ⟨_, rfl, h5⟩ := h5
        obtain ⟨u, h6, h7⟩ := ret_sound hT h3 hv
        refine ⟨h3.d, u, h6, u, c', popS s', v, rfl, rfl, h2, ?_, h7, h5⟩
        cases s' with
        | mk t h =>
          refine ⟨h3.ok, fun j => ?_, h3.h, hR.d, h3.n⟩
          have := h3.t (j + 1000000)
          rw [vals, if_neg (by omega), Nat.add_sub_cancel] at this
          exact this
      · exact h5.elim
    cases e with
    | normal => obtain ⟨c', s', h1, h2, h3, h4, h5⟩ := q; exact fin c' s' h1 h2 h3 h5
    | ret => obtain ⟨c', s', h1, h2, h3, h4, h5⟩ := q; exact fin c' s' h1 h2 h3 h5
    | exit i => obtain ⟨c', s', h1, h2, h3, h4, h5⟩ := q; exact h5.elim
    | _ => exact q.elim

theorem SOk.mono {T : Tab} {f : FuncId} {j j' : StSpec} (h : SOk P T f j') (hj : ∀ args s K, j args s K → j' args s K) : SOk P T f j :=
  ⟨h.1, fun args s K hs => h.2 args s K (hj args s K hs)⟩
theorem pop_eq {t' t : Nat → AV} {h : Nat → Option Box} (hp : ∀ j, t' (j + 1000000) = t j) : popS ⟨t', h⟩ = ⟨t, h⟩ := by
  simp only [popS, St.mk.injEq, and_true]
  exact funext hp
theorem push_at {args : List AV} {t : Nat → AV} (j : Nat) : (bif Nat.blt (j + 1000000) 1000000 then argAt args (j + 1000000) else t (j + 1000000 - 1000000)) = t j := by
  have : Nat.blt (j + 1000000) 1000000 = false := by
    cases hq : Nat.blt (j + 1000000) 1000000 with
    | false => rfl
    | true => have := Nat.le_of_ble_eq_true hq; omega
  rw [this, cond_false, Nat.add_sub_cancel]
theorem upd_over {α : Type} {f : Nat → α} {d j : Nat} {v : α} (hd : Nat.blt d 1000000 = true) : upd f d v (j + 1000000) = f (j + 1000000) :=
  upd_ne _ _ (by have := Nat.le_of_ble_eq_true hd; omega)

theorem pop_map (s : St) (φ : AV → AV) : popS (s.mapA φ) = (popS s).mapA φ := by cases s; rfl
theorem pop_put {s : St} {d : Tmp} {v : AV} (hd : Nat.blt d 1000000 = true) : popS (s.put (some d) v) = popS s := by
  cases s with
  | mk t h =>
    simp only [popS, St.put, St.mk.injEq, and_true]
    funext j
    exact upd_over hd
theorem pop_push (args : List AV) (s : St) : popS (pushS args s) = s := by
  cases s with
  | mk t h => exact pop_eq fun j => push_at j
end
end Go.Proofs.YtbpcofnhndgoeaaDoor.A

/- A program's types as a tree; one closed check. -/
namespace Go.Proofs.YtbpcofnhndgoeaaDoor.A
open Go

inductive Bt (α : Type) where
  | nil
  | node (v : Option α) (l r : Bt α)
def Bt.get {α : Type} : Bt α → Nat → Option α
  | .nil, _ => none
  | .node v l r, n => bif Nat.beq n 0 then v else bif Nat.beq (n % 2) 1 then l.get (n / 2) else r.get (n / 2 - 1)
def Bt.allK {α : Type} (f : Nat → α → Bool) : Bt α → Nat → Nat → Bool
  | .nil, _, _ => true
  | .node v l r, a, b => (match v with
    | some e => f b e
    | none => true) && l.allK f (2 * a) (a + b) && r.allK f (2 * a) (2 * a + b)
/-- Keys of a part: a * n + b. -/
theorem Bt.allK_get {α : Type} {f : Nat → α → Bool} : ∀ {t : Bt α} {a b n : Nat} {e : α}, t.allK f a b = true → t.get n = some e → f (a * n + b) e = true
  | .nil, a, b, n, e, _, h => by simp [Bt.get] at h
  | .node v l r, a, b, n, e, hk, h => by
    simp only [Bt.allK, Bool.and_eq_true] at hk
    obtain ⟨⟨h1, h2⟩, h3⟩ := hk
    simp only [Bt.get] at h
    cases hq : Nat.beq n 0 with
    | true =>
      rw [hq, cond_true] at h
      have := Nat.eq_of_beq_eq_true hq
      subst this
      rw [h] at h1
      simpa using h1
    | false =>
      rw [hq, cond_false] at h
      have hn := beq_false hq
      cases hq2 : Nat.beq (n % 2) 1 with
      | true =>
        rw [hq2, cond_true] at h
        have h4 := Nat.eq_of_beq_eq_true hq2
        have := Bt.allK_get h2 h
        rw [show a * n + b = 2 * a * (n / 2) + (a + b) by
          have : n = 2 * (n / 2) + 1 := by omega
          conv => lhs; rw [this]
          rw [Nat.mul_add, Nat.mul_one, ← Nat.mul_assoc, Nat.mul_comm a 2]
          omega]
        exact this
      | false =>
        rw [hq2, cond_false] at h
        have h4 := beq_false hq2
        have := Bt.allK_get h3 h
        rw [show a * n + b = 2 * a * (n / 2 - 1) + (2 * a + b) by
          have : n = 2 * (n / 2 - 1) + 2 := by omega
          conv => lhs; rw [this]
          rw [Nat.mul_add, ← Nat.mul_assoc, Nat.mul_comm a 2]
          omega]
        exact this

inductive ZC where
  | ki (k : IntKind) | kb | ks | kp | kl | kf | kn | km
inductive ZV where
  | one (c : ZC)
  | agg (cs : List ZC)
def ZC.val : ZC → Value
  | .ki k => .int k 0 | .kb => .bool false | .ks => .string ByteArray.empty | .kp => .pointer none | .kl => .slice none 0 0 | .kf => .nilFunc | .kn => .nilIface | .km => .map none
def ZC.av : ZC → AV
  | .ki k => .int k 0 | .kb => .bool false | .ks => .str ByteArray.empty | .kp => .nilptr | .kl => .sl .nl 0 [] | .kf => .nilfn | .kn => .nilifc | .km => .nilmp
def ZC.is : ZC → Value → Bool
  | .ki k, .int k' n => kindA k k' && n == 0
  | .kb, .bool b => !b
  | .ks, .string s => Nat.beq s.data.size 0
  | .kp, .pointer none => true
  | .kl, .slice none a b => Nat.beq a 0 && Nat.beq b 0
  | .kf, .nilFunc => true
  | .kn, .nilIface => true
  | .km, .map none => true
  | _, _ => false
theorem ZC.is_val {c : ZC} {v : Value} (h : c.is v = true) : v = c.val := by
  cases c <;> cases v <;> first | (simp [ZC.is] at h; done) | skip
  case ki.int k k' n =>
    simp only [ZC.is, Bool.and_eq_true] at h
    rw [ZC.val, kind_eq h.1]
    simpa using h.2
  case kb.bool b => cases b <;> simp [ZC.is] at h; rfl
  case ks.string s =>
    have h1 := Nat.eq_of_beq_eq_true h
    cases s with
    | mk d =>
      have : d = #[] := Array.eq_empty_of_size_eq_zero h1
      subst this
      rfl
  case kp.pointer a => cases a <;> first | rfl | (simp [ZC.is] at h; done)
  case kl.slice a x y =>
    cases a
    · simp only [ZC.is, Bool.and_eq_true] at h
      rw [Nat.eq_of_beq_eq_true h.1, Nat.eq_of_beq_eq_true h.2]; rfl
    · simp [ZC.is] at h
  case kf.nilFunc => rfl
  case kn.nilIface => rfl
  case km.map a => cases a <;> first | rfl | (simp [ZC.is] at h; done)
theorem ZC.v (T : Tab) (c : Cx) (z : ZC) : V T c z.av z.val := by
  cases z
  · exact .int _ _
  · exact .bool _
  · exact .str _
  · exact .nilptr
  · exact .nilsl _ _
  · exact .nilfn
  · exact .nilifc
  · exact .nilmp
theorem ZC.one (z : ZC) : z.val.oneCell' = true := by cases z <;> rfl
theorem ZC.cells (z : ZC) : z.val.cells = #[z.val] ∧ z.av.cells = [z.av] := by cases z <;> exact ⟨rfl, rfl⟩
def ZC.isL : List ZC → List Value → Bool
  | [], [] => true
  | c :: cs, v :: vs => c.is v && ZC.isL cs vs
  | _, _ => false
theorem ZC.isL_val : ∀ {cs : List ZC} {vs : List Value}, ZC.isL cs vs = true → vs = cs.map ZC.val
  | [], [], _ => rfl
  | [], _ :: _, h => by simp [ZC.isL] at h
  | _ :: _, [], h => by simp [ZC.isL] at h
  | c :: cs, v :: vs, h => by
    simp only [ZC.isL, Bool.and_eq_true] at h
    rw [List.map_cons, ← ZC.is_val h.1, ← ZC.isL_val h.2]
def ZV.av : ZV → AV
  | .one c => c.av
  | .agg cs => .agg (cs.map ZC.av)
def ZV.is : ZV → Value → Bool
  | .one c, v => c.is v
  | .agg cs, .agg vs => ZC.isL cs vs.toList
  | _, _ => false
theorem ZV.ok {z : ZV} {v : Value} (h : z.is v = true) : (∀ T c, V T c z.av v ∧ VL T c z.av.cells v.cells.toList) ∧ ∀ u ∈ v.cells, u.oneCell' = true := by
  cases z with
  | one k =>
    have := ZC.is_val h
    subst this
    obtain ⟨h1, h2⟩ := k.cells
    refine ⟨fun T c => ⟨k.v T c, ?_⟩, fun u hu => ?_⟩
    · show VL T c k.av.cells k.val.cells.toList
      rw [h1, h2]
      exact VL.cons (k.v T c) VL.nil
    · rw [h1] at hu
      simp at hu
      subst hu
      exact k.one
  | agg cs =>
    cases v <;> first | (simp [ZV.is] at h; done) | skip
    case agg vs =>
      have hl := ZC.isL_val h
      have hv : vs = (cs.map ZC.val).toArray := by rw [← hl]
      subst hv
      have hVL : ∀ T c, VL T c (cs.map ZC.av) (cs.map ZC.val) := fun T c => by
        refine ⟨by simp, fun i x u hx hu => ?_⟩
        rw [List.getElem?_map] at hx hu
        cases hc : cs[i]? with
        | none => rw [hc] at hx; cases hx
        | some k => rw [hc] at hx hu; cases hx; cases hu; exact k.v T c
      refine ⟨fun T c => ⟨(hVL T c).agg, hVL T c⟩, fun u hu => ?_⟩
      have hu' : u ∈ (cs.map ZC.val).toArray := hu
      simp only [List.mem_toArray] at hu'
      obtain ⟨k, _, rfl⟩ := List.mem_map.1 hu'
      exact k.one

structure TE where
  d : TD
  s : Nat
  b : Nat
  z : ZV
def tabOf (tr : Bt TE) (meth : TypeId → String → Option (FuncId × Option TypeId)) : Tab where
  desc := fun t => match tr.get t with
    | some e => e.d
    | none => .other
  size := fun t => match tr.get t with
    | some e => e.s
    | none => 0
  bytes := fun t => match tr.get t with
    | some e => e.b
    | none => 0
  zero := fun t => match tr.get t with
    | some e => e.z.av
    | none => .bad
  eqT := fun _ => none
  meth := meth
def isKnown (tr : Bt TE) (t : TypeId) : Bool := match tr.get t with
  | some e => (match e.d with
    | .other => false
    | _ => true)
  | none => false
def eqFs : List (Nat × TypeId) → List Field → Bool
  | [], [] => true
  | (o, t) :: fs, f :: gs => Nat.beq o f.offset && Nat.beq t f.type && eqFs fs gs
  | _, _ => false
def descOk (tr : Bt TE) : TD → Option TypeDesc → Bool
  | .int k, some (.int k') => kindA k k'
  | .bool, some .bool => true
  | .str, some .string => true
  | .slice e, some (.slice e') => Nat.beq e e' && isKnown tr e
  | .struct fs, some (.struct gs) => eqFs fs gs.toList && all? (fun p => isKnown tr p.2) fs
  | .arr n e, some (.array n' e') => Nat.beq n n' && Nat.beq e e' && isKnown tr e
  | .ptr e, some (.pointer e') => Nat.beq e e'
  | .mp k e, some (.map k' e') => Nat.beq k k' && Nat.beq e e'
  | .func, some (.func _ _ _) => true
  | .iface, some (.interface _) => true
  | _, _ => false
def cmpOk : TD → Bool → Bool
  | .int _, b => b
  | _, _ => true
def TE.ok (P : Program) (tr : Bt TE) (t : Nat) (e : TE) : Bool := match e.d with
  | .other => true
  | d => match P.info? t with
    | some i => match i.zero with
      | some z => e.z.is z && Nat.beq i.size e.s && Nat.beq i.bytes e.b && Nat.beq z.cells.size e.s && descOk tr d (P.underlying t) && cmpOk d i.comparable
      | none => false
    | none => false
def treeOk (P : Program) (tr : Bt TE) : Bool := tr.allK (TE.ok P tr) 1 0

theorem isKnown_spec {tr : Bt TE} {m : TypeId → String → Option (FuncId × Option TypeId)} {t : TypeId} (h : isKnown tr t = true) : (tabOf tr m).desc t ≠ .other := by
  unfold isKnown at h
  simp only [tabOf]
  intro e
  split at h
  · rename_i x hx
    rw [hx] at e
    simp only [] at e
    rw [e] at h
    cases h
  · cases h
theorem eqFs_spec : ∀ {fs : List (Nat × TypeId)} {gs : List Field}, eqFs fs gs = true → (gs.map fun f => (f.offset, f.type)) = fs
  | [], [], _ => rfl
  | [], _ :: _, h => by simp [eqFs] at h
  | _ :: _, [], h => by simp [eqFs] at h
  | (o, t) :: fs, f :: gs, h => by
    simp only [eqFs, Bool.and_eq_true] at h
    rw [List.map_cons, eqFs_spec h.2, Nat.eq_of_beq_eq_true h.1.1, Nat.eq_of_beq_eq_true h.1.2]

theorem tab_ok {P : Program} {tr : Bt TE} {m : TypeId → String → Option (FuncId × Option TypeId)} (h : treeOk P tr = true) (hm : ∀ t n f d, m t n = some (f, d) → match d with
    | none => ∀ v w, (method (P.types.size + Made.depth) t v n).run P w = .ok (f, v) w
    | some e => ∀ a v w, (loadVar e a).run P w = .ok v w → (method (P.types.size + Made.depth) t (.pointer (some a)) n).run P w = .ok (f, v) w) (hw : P.follows .mixedOrders = true) : TabOk P (tabOf tr m) := by
  have key : ∀ t d, (tabOf tr m).desc t = d → d ≠ .other → ∃ e i z, tr.get t = some e ∧ e.d = d ∧ P.info? t = some i ∧ i.zero = some z ∧ e.z.is z = true ∧ i.size = e.s ∧ i.bytes = e.b ∧ z.cells.size = e.s ∧ descOk tr d (P.underlying t) = true ∧ cmpOk d i.comparable = true := by
    intro t d hd hne
    simp only [tabOf] at hd
    split at hd
    · rename_i e he
      have := Bt.allK_get h he
      rw [Nat.one_mul, Nat.add_zero] at this
      unfold TE.ok at this
      rw [hd] at this
      cases d with
      | other => exact (hne rfl).elim
      | _ =>
        simp only [] at this
        split at this
        · rename_i i hi
          split at this
          · rename_i z hz
            simp only [Bool.and_eq_true] at this
            exact ⟨e, i, z, he, hd, hi, hz, this.1.1.1.1.1, Nat.eq_of_beq_eq_true this.1.1.1.1.2, Nat.eq_of_beq_eq_true this.1.1.1.2, Nat.eq_of_beq_eq_true this.1.1.2, this.1.2, this.2⟩
          · cases this
        · cases this
    · exact (hne hd.symm).elim
  refine { int := ?_, bool := ?_, str := ?_, slice := ?_, struct := ?_, arr := ?_, ptr := ?_, func := ?_, iface := ?_, mp := ?_, info := ?_, eqs := ?_, cmp := ?_, meth := hm, wide := hw }
  · intro t k hd
    obtain ⟨_, _, _, _, _, _, _, _, _, _, _, hk, _⟩ := key t _ hd (by simp)
    generalize P.underlying t = u at hk ⊢
    cases u with
    | none => simp [descOk] at hk
    | some u => cases u <;> first | (simp [descOk] at hk; done) | (rw [kind_eq hk])
  · intro t hd
    obtain ⟨_, _, _, _, _, _, _, _, _, _, _, hk, _⟩ := key t _ hd (by simp)
    generalize P.underlying t = u at hk ⊢
    cases u with
    | none => simp [descOk] at hk
    | some u => cases u <;> first | (simp [descOk] at hk; done) | rfl
  · intro t hd
    obtain ⟨_, _, _, _, _, _, _, _, _, _, _, hk, _⟩ := key t _ hd (by simp)
    generalize P.underlying t = u at hk ⊢
    cases u with
    | none => simp [descOk] at hk
    | some u => cases u <;> first | (simp [descOk] at hk; done) | rfl
  · intro t e hd
    obtain ⟨_, _, _, _, _, _, _, _, _, _, _, hk, _⟩ := key t _ hd (by simp)
    generalize P.underlying t = u at hk ⊢
    cases u with
    | none => simp [descOk] at hk
    | some u =>
      cases u <;> first | (simp [descOk] at hk; done) | skip
      simp only [descOk, Bool.and_eq_true] at hk
      exact ⟨by rw [Nat.eq_of_beq_eq_true hk.1], isKnown_spec hk.2⟩
  · intro t fs hd
    obtain ⟨_, _, _, _, _, _, _, _, _, _, _, hk, _⟩ := key t _ hd (by simp)
    generalize P.underlying t = u at hk ⊢
    cases u with
    | none => simp [descOk] at hk
    | some u =>
      cases u <;> first | (simp [descOk] at hk; done) | skip
      simp only [descOk, Bool.and_eq_true] at hk
      refine ⟨_, rfl, eqFs_spec hk.1, fun p hp => ?_⟩
      obtain ⟨i, hi⟩ := List.getElem?_of_mem hp
      exact isKnown_spec (all_spec hk.2 i p hi)
  · intro t n e hd
    obtain ⟨_, _, _, _, _, _, _, _, _, _, _, hk, _⟩ := key t _ hd (by simp)
    generalize P.underlying t = u at hk ⊢
    cases u with
    | none => simp [descOk] at hk
    | some u =>
      cases u <;> first | (simp [descOk] at hk; done) | skip
      simp only [descOk, Bool.and_eq_true] at hk
      exact ⟨by rw [Nat.eq_of_beq_eq_true hk.1.1, Nat.eq_of_beq_eq_true hk.1.2], isKnown_spec hk.2⟩
  · intro t e hd
    obtain ⟨_, _, _, _, _, _, _, _, _, _, _, hk, _⟩ := key t _ hd (by simp)
    generalize P.underlying t = u at hk ⊢
    cases u with
    | none => simp [descOk] at hk
    | some u => cases u <;> first | (simp [descOk] at hk; done) | (rw [Nat.eq_of_beq_eq_true hk])
  · intro t hd
    obtain ⟨_, _, _, _, _, _, _, _, _, _, _, hk, _⟩ := key t _ hd (by simp)
    generalize P.underlying t = u at hk ⊢
    cases u with
    | none => simp [descOk] at hk
    | some u => cases u <;> first | (simp [descOk] at hk; done) | exact ⟨_, _, _, rfl⟩
  · intro t hd
    obtain ⟨_, _, _, _, _, _, _, _, _, _, _, hk, _⟩ := key t _ hd (by simp)
    generalize P.underlying t = u at hk ⊢
    cases u with
    | none => simp [descOk] at hk
    | some u => cases u <;> first | (simp [descOk] at hk; done) | exact ⟨_, rfl⟩
  · intro t k e hd
    obtain ⟨_, _, _, _, _, _, _, _, _, _, _, hk, _⟩ := key t _ hd (by simp)
    generalize P.underlying t = u at hk ⊢
    cases u with
    | none => simp [descOk] at hk
    | some u =>
      cases u <;> first | (simp [descOk] at hk; done) | skip
      simp only [descOk, Bool.and_eq_true] at hk
      rw [Nat.eq_of_beq_eq_true hk.1, Nat.eq_of_beq_eq_true hk.2]
  · intro t hd
    obtain ⟨e, i, z, he, _, hi, hz, hzz, hs, hb, hzs, _⟩ := key t _ rfl hd
    obtain ⟨h1, h2⟩ := ZV.ok hzz
    refine ⟨i, z, hi, ?_, ?_, hz, ?_, ?_, h2⟩ <;> simp only [tabOf, he]
    · exact hs
    · exact hb
    · exact hzs
    · exact h1
  · intro t ks ht
    simp [tabOf] at ht
  · intro t k hd
    obtain ⟨e, i, z, he, _, hi, _, _, _, _, _, _, hc⟩ := key t _ hd (by simp)
    exact ⟨i, hi, hc⟩
end Go.Proofs.YtbpcofnhndgoeaaDoor.A

/- A contract's slices, handed on as slices that are only read. -/
namespace Go.Proofs.YtbpcofnhndgoeaaDoor.A
open Go
variable {P : Program}
/-- The same slice, as one that nobody writes. -/
def Fz (res res' : AV) : Prop := (∃ F e xs, res = .sl (.own F) e xs ∧ res' = .sl .fz e xs) ∨ (∃ e e', res = .sl .nl e [] ∧ res' = .sl .fz e' [])
theorem FnOk.fz {T : Tab} {f : FuncId} {S : List AV → List Box → (AV → List Box → Prop) → Prop} (h : FnOk P T f S) : FnOk P T f (fun args bs K => bs = [] ∧ S args bs (fun res _ => ∃ res', Fz res res' ∧ K res' [])) := by
  refine ⟨h.1, fun args bs K hS c vs hok hfm hV hB => ?_⟩
  obtain ⟨rfl, hS⟩ := hS
  refine Calls.mono (h.2 args [] _ hS c vs hok hfm hV hB) ?_
  rintro e w' ⟨v, c', res, out, rfl, rfl, ok', hst, hres, hout, res', hF, hK⟩
  rcases hF with ⟨F, e, xs, rfl, rfl⟩ | ⟨e, e', rfl, rfl⟩
  · have hR : Rel T (fun _ => undef) c' ⟨fun _ => .bad, fun _ => none⟩ { tmps := #[], defers := [] } := ⟨ok', fun j => .bad _, fun b x hx => (by cases hx), rfl, fun _ _ => rfl⟩
    obtain ⟨c'', h1, h2, h3, h4, h5⟩ := Rel.frzAll [F] hR
    refine ⟨v, c'', _, [], rfl, h2, h4.ok, hst.trans h1, ?_, fun i x hx => by simp at hx, hK⟩
    have := h5 _ _ hres
    unfold AV.frzAll AV.frzAll AV.tr frzF at this
    simpa using this
  · refine ⟨v, c', _, [], rfl, rfl, ok', hst, ?_, fun i x hx => by simp at hx, hK⟩
    cases hres
    exact .nilsl _ _
/-- All of a result's own slices, handed on as slices that nobody writes. -/
theorem FnOk.frz {T : Tab} {f : FuncId} {S : List AV → List Box → (AV → List Box → Prop) → Prop} (h : FnOk P T f S) : FnOk P T f (fun args bs K => bs = [] ∧ S args bs (fun res _ => ∃ res', res.frzAll res.fams = res' ∧ K res' [])) := by
  refine ⟨h.1, fun args bs K hS c vs hok hfm hV hB => ?_⟩
  obtain ⟨rfl, hS⟩ := hS
  refine Calls.mono (h.2 args [] _ hS c vs hok hfm hV hB) ?_
  rintro e w' ⟨v, c', res, out, rfl, rfl, ok', hst, hres, hout, res', rfl, hK⟩
  have hR : Rel T (fun _ => undef) c' ⟨fun _ => .bad, fun _ => none⟩ { tmps := #[], defers := [] } := ⟨ok', fun j => .bad _, fun b x hx => (by cases hx), rfl, fun _ _ => rfl⟩
  obtain ⟨c'', h1, h2, h3, h4, h5⟩ := Rel.frzAll res.fams hR
  exact ⟨v, c'', _, [], rfl, h2, h4.ok, hst.trans h1, h5 _ _ hres, fun i x hx => by simp at hx, hK⟩
theorem FnOk.mono {T : Tab} {f : FuncId} {S S' : List AV → List Box → (AV → List Box → Prop) → Prop} (h : FnOk P T f S) (hm : ∀ args bs K, S' args bs K → S args bs K) : FnOk P T f S' := ⟨h.1, fun args bs K hS => h.2 args bs K (hm args bs K hS)⟩
/-- A nil slice is an empty one that nobody writes. -/
def NilA (v v' : AV) : Prop := v' = v ∨ ∃ e e', v = .sl .nl e [] ∧ v' = .sl .fz e' []
def NilL : List AV → List AV → Prop
  | [], [] => True
  | v :: vs, v' :: vs' => NilA v v' ∧ NilL vs vs'
  | _, _ => False
theorem NilL.vl {T : Tab} {c : Cx} : ∀ {l l' : List AV} {us : List Value}, NilL l l' → VL T c l us → VL T c l' us
  | [], [], _, _, h => h
  | [], _ :: _, _, h, _ => h.elim
  | _ :: _, [], _, h, _ => h.elim
  | v :: vs, v' :: vs', [], _, hv => absurd hv.1 (by simp)
  | v :: vs, v' :: vs', u :: us, h, hv => by
    refine VL.cons ?_ (NilL.vl h.2 ⟨by have := hv.1; simpa using this, fun i x u' hx hu => hv.2 (i + 1) x u' (by simpa using hx) (by simpa using hu)⟩)
    have h0 := hv.2 0 v u rfl rfl
    rcases h.1 with rfl | ⟨e, e', rfl, rfl⟩
    · exact h0
    · cases h0
      exact .nilsl _ _
def nilC (S : List AV → List Box → (AV → List Box → Prop) → Prop) (args : List AV) (bs : List Box) (K : AV → List Box → Prop) : Prop := ∃ args', NilL args args' ∧ S args' bs K
theorem FnOk.nil {T : Tab} {f : FuncId} {S : List AV → List Box → (AV → List Box → Prop) → Prop} (h : FnOk P T f S) : FnOk P T f (nilC S) :=
  ⟨h.1, fun _ bs K ⟨args', hN, hS⟩ c vs hok hfm hV hB => h.2 args' bs K hS c vs hok hfm (hN.vl hV) hB⟩
end Go.Proofs.YtbpcofnhndgoeaaDoor.A

/- What an argument of a call reads as, as an abstract value; a law's call. -/
namespace Go.Proofs.YtbpcofnhndgoeaaDoor.A
open Go
variable {P : Program}
def kindsL (f : TypeId → Option (List LK)) : Nat → List (Nat × TypeId) → Option (List LK)
  | _, [] => some []
  | o, (p, u) :: fs => match Nat.beq p o, f u with
    | true, some ks => match kindsL f (o + ks.length) fs with
      | some r => some (ks ++ r)
      | none => none
    | _, _ => none
/-- The kinds of a plain type's cells. -/
def kinds0 (T : Tab) (f : TypeId → Option (List LK)) (t : TypeId) : Option (List LK) := match T.desc t with
  | .int k => some [.int k]
  | .bool => some [.bool]
  | .str => some [.str]
  | .struct fs => kindsL f 0 fs
  | .arr n e => match f e with
    | some ks => some (List.replicate n ks).flatten
    | none => none
  | _ => none
def kindsA (T : Tab) : Nat → TypeId → Option (List LK)
  | 0, _ => none
  | n + 1, t => match kinds0 T (kindsA T n) t with
    | some ks => match Nat.beq (T.size t) ks.length with
      | true => some ks
      | false => none
    | none => none
def FitV1 : LK → Value → Prop
  | .int k, v => ∃ n, v = .int k n ∧ (Lit.int k n).wf = true
  | .bool, v => ∃ b, v = .bool b
  | .str, v => ∃ s, v = .string s ∧ s.size ≤ maxLen
def FitV : List LK → List Value → Prop
  | [], [] => True
  | k :: ks, v :: vs => FitV1 k v ∧ FitV ks vs
  | _, _ => False
def FitA1 : LK → AV → Prop
  | .int k, v => ∃ n, v = .int k n ∧ (Lit.int k n).wf = true
  | .bool, v => ∃ b, v = .bool b
  | .str, v => ∃ s, v = .str s ∧ s.size ≤ maxLen
def FitA : List LK → List AV → Prop
  | [], [] => True
  | k :: ks, v :: vs => FitA1 k v ∧ FitA ks vs
  | _, _ => False
theorem FitV.len : ∀ {ks : List LK} {vs : List Value}, FitV ks vs → vs.length = ks.length
  | [], [], _ => rfl
  | [], _ :: _, h => h.elim
  | _ :: _, [], h => h.elim
  | _ :: _, _ :: _, h => by simp [FitV.len h.2]
theorem FitA.len : ∀ {ks : List LK} {vs : List AV}, FitA ks vs → vs.length = ks.length
  | [], [], _ => rfl
  | [], _ :: _, h => h.elim
  | _ :: _, [], h => h.elim
  | _ :: _, _ :: _, h => by simp [FitA.len h.2]
theorem FitV.append : ∀ {ks ks' : List LK} {vs vs' : List Value}, FitV ks vs → FitV ks' vs' → FitV (ks ++ ks') (vs ++ vs')
  | [], _, [], _, _, h => h
  | [], _, _ :: _, _, h, _ => h.elim
  | _ :: _, _, [], _, h, _ => h.elim
  | _ :: _, _, _ :: _, _, h, h' => ⟨h.1, FitV.append h.2 h'⟩
theorem fitL {f : TypeId → Option (List LK)} {cs : List Value} : ∀ {fs : List (Nat × TypeId)} {o : Nat} {r : List LK}, kindsL f o fs = some r → (∀ p u ks, (p, u) ∈ fs → f u = some ks → FitV ks ((cs.drop p).take ks.length)) → FitV r ((cs.drop o).take r.length)
  | [], o, r, h, _ => by cases h; simp [FitV]
  | (p, u) :: fs, o, r, h, hf => by
    unfold kindsL at h
    split at h
    · rename_i ks hb hk
      obtain rfl := Nat.eq_of_beq_eq_true hb
      split at h
      · rename_i r' hr
        cases h
        have h1 := hf p u ks (List.mem_cons_self ..) hk
        have h2 := fitL hr (fun p' u' ks' hm => hf p' u' ks' (List.mem_cons_of_mem _ hm))
        have e : (cs.drop p).take (ks ++ r').length = (cs.drop p).take ks.length ++ (cs.drop (p + ks.length)).take r'.length := by
          rw [List.length_append, List.take_add, List.drop_drop]
        rw [e]
        exact h1.append h2
      · cases h
    · cases h
theorem cells_size {T : Tab} (hT : TabOk P T) {t : TypeId} (h : T.desc t ≠ .other) : P.cellsOf t = T.size t := by
  obtain ⟨i, z, h1, h2, _⟩ := hT.info t h
  simp [Program.cellsOf, h1, h2]
theorem kinds_known {T : Tab} : ∀ {n : Nat} {t : TypeId} {ks : List LK}, kindsA T n t = some ks → T.desc t ≠ .other ∧ T.size t = ks.length
  | 0, _, _, h => by cases h
  | n + 1, t, ks, h => by
    unfold kindsA at h
    split at h
    · rename_i ks' hk
      split at h
      · rename_i hb
        cases h
        refine ⟨fun e => ?_, Nat.eq_of_beq_eq_true hb⟩
        unfold kinds0 at hk
        rw [e] at hk
        cases hk
      · cases h
    · cases h
theorem fit_trod {T : Tab} (hT : TabOk P T) {H : Type} {enc : TypeId × Value → H} {w : World} {base : Nat} {sp : Nat → Bool} {held : Bool} : ∀ {n : Nat} {t : TypeId} {ks : List LK} {fuel : Nat} {cs : List Value} {x : DataW H × List MemPlace},
    kindsA T n t = some ks → DataW.trod enc P w base sp held fuel t cs = some x → FitV ks cs
  | 0, _, _, _, _, _, h, _ => by cases h
  | n + 1, t, ks, fuel, cs, x, h, hx => by
    have hk0 := kinds_known h
    have hsz := cells_size hT hk0.1
    unfold kindsA at h
    split at h
    · rename_i ks' hk
      split at h
      · cases h
        unfold kinds0 at hk
        split at hk
        · rename_i k hd
          cases hk
          obtain ⟨m, rfl, _, hw⟩ := DataW.trod_int (hT.int t k hd) hx
          exact ⟨⟨m, rfl, hw⟩, trivial⟩
        · rename_i hd
          cases hk
          obtain ⟨b, rfl, _⟩ := DataW.trod_bool (hT.bool t hd) hx
          exact ⟨⟨b, rfl⟩, trivial⟩
        · rename_i hd
          cases hk
          obtain ⟨s, rfl, _, hs⟩ := DataW.trod_string (hT.str t hd) hx
          exact ⟨⟨s, rfl, hs⟩, trivial⟩
        · rename_i fs hd
          obtain ⟨fields, hu, hfs, hkn⟩ := hT.struct t fs hd
          obtain ⟨xs, m, _, _, hl, _, hall⟩ := DataW.trod_struct hu hx
          have := fitL (cs := cs) hk (fun p u ku hm hku => by
            rw [← hfs] at hm
            obtain ⟨f, hf, e⟩ := List.mem_map.1 hm
            cases e
            obtain ⟨i, hi⟩ := List.getElem?_of_mem hf
            have hi' : fields[i]? = some f := by rw [← Array.getElem?_toList]; exact hi
            have h1 := hall i f hi'
            have hku' := kinds_known hku
            rw [cells_size hT hku'.1, hku'.2] at h1
            cases hxi : xs[i]? with
            | none =>
              rw [hxi] at h1
              have h2 := (Array.getElem?_eq_some_iff.1 hi').1
              have h3 := List.getElem?_eq_none_iff.1 hxi
              rename_i hxl
              omega
            | some y =>
              rw [hxi] at h1
              exact fit_trod hT hku h1)
          rw [List.drop_zero] at this
          rwa [List.take_of_length_le (by rw [hl, hsz, hk0.2]; exact Nat.le_refl _)] at this
        · rename_i len e hd
          split at hk
          · rename_i ke hke
            cases hk
            obtain ⟨hu, hkn⟩ := hT.arr t len e hd
            obtain ⟨xs, m, _, _, hl, hxl, hall⟩ := DataW.trod_array hu hx
            have hke' := kinds_known hke
            rw [cells_size hT hke'.1, hke'.2] at hall
            have hcl : cs.length = len * ke.length := by rw [hl, hsz, hk0.2]; simp
            have each : ∀ i, i < len → FitV ke ((cs.drop (i * ke.length)).take ke.length) := by
              intro i hi
              have h1 := hall i hi
              rw [List.getElem?_eq_getElem (by omega)] at h1
              exact fit_trod hT hke h1
            clear hall hl hx hk0 hsz
            have : ∀ k cs', cs'.length = k * ke.length → (∀ i, i < k → FitV ke ((cs'.drop (i * ke.length)).take ke.length)) → FitV (List.replicate k ke).flatten cs' := by
              intro k
              induction k with
              | zero =>
                intro cs' hc _
                have : cs' = [] := List.length_eq_zero_iff.1 (by simpa using hc)
                subst this
                simp [FitV]
              | succ k ih =>
                intro cs' hc hf
                rw [List.replicate_succ, List.flatten_cons, ← List.take_append_drop ke.length cs']
                refine FitV.append (by simpa using hf 0 (by omega)) (ih _ (by rw [List.length_drop, hc, Nat.succ_mul]; omega) fun i hi => ?_)
                have := hf (i + 1) (by omega)
                rw [List.drop_drop, show ke.length + i * ke.length = (i + 1) * ke.length by rw [Nat.succ_mul]; omega]
                exact this
            exact this len cs hcl each
          · cases hk
        · cases hk
      · cases h
    · cases h
/-- Such cells, as abstract ones. -/
theorem fit_av {T : Tab} {c : Cx} : ∀ {ks : List LK} {cs : List Value}, FitV ks cs → ∃ avs, FitA ks avs ∧ VL T c avs cs ∧ (∀ u ∈ cs, u.oneCell' = true) ∧ ∀ a ∈ avs, a.flat = true ∧ a.isCell = true ∧ a.cells = [a]
  | [], [], _ => ⟨[], trivial, VL.nil, fun u h => by simp at h, fun a h => by simp at h⟩
  | [], _ :: _, h => h.elim
  | _ :: _, [], h => h.elim
  | k :: ks, v :: vs, h => by
    obtain ⟨avs, h1, h2, h3, h4⟩ := fit_av (T := T) (c := c) h.2
    have key : ∃ a, FitA1 k a ∧ V T c a v ∧ v.oneCell' = true ∧ a.flat = true ∧ a.isCell = true ∧ a.cells = [a] := by
      cases k with
      | int k => obtain ⟨n, rfl, hw⟩ := h.1; exact ⟨.int k n, ⟨n, rfl, hw⟩, .int k n, rfl, rfl, rfl, rfl⟩
      | bool => obtain ⟨b, rfl⟩ := h.1; exact ⟨.bool b, ⟨b, rfl⟩, .bool b, rfl, rfl, rfl, rfl⟩
      | str => obtain ⟨s, rfl, hs⟩ := h.1; exact ⟨.str s, ⟨s, rfl, hs⟩, .str s, rfl, rfl, rfl, rfl⟩
    obtain ⟨a, ha, hv, h1c, hfl⟩ := key
    refine ⟨a :: avs, ⟨ha, h1⟩, VL.cons hv h2, fun u hu => ?_, fun b hb => ?_⟩
    · rcases List.mem_cons.1 hu with rfl | hu
      · exact h1c
      · exact h3 u hu
    · rcases List.mem_cons.1 hb with rfl | hb
      · exact hfl
      · exact h4 b hb
def wrapT (T : Tab) (t : TypeId) (avs : List AV) : AV := match (T.desc t).isAgg with
  | some true => .agg avs
  | _ => avs.headD .bad
/-- The context in which a law is called: all that is there is written no more. -/
def cx0 (W : World) : Cx := ⟨W, fun g => g < W.heap.size, fun _ => none, fun _ => none⟩
theorem cx0_ok (W : World) (hg : (cx0 W).Gl) : (cx0 W).Ok where
  gl := hg
  zlt := fun _ h => h
  blt := fun _ _ h => by cases h
  flt := fun _ _ h => by cases h
  zb := fun _ _ h => by cases h
  zf := fun _ _ h => by cases h
  bb := fun _ _ _ h => by cases h
  ff := fun _ _ _ h => by cases h
  bf := fun _ _ _ h => by cases h
theorem wrap_cells {T : Tab} {n : Nat} {t : TypeId} {ks : List LK} {avs : List AV} (h : kindsA T n t = some ks) (hf : FitA ks avs) (hc : ∀ a ∈ avs, a.cells = [a]) : (wrapT T t avs).cells = avs := by
  unfold wrapT
  cases n with
  | zero => cases h
  | succ n =>
    unfold kindsA at h
    split at h
    · rename_i ks' hk
      split at h
      · cases h
        unfold kinds0 at hk
        split at hk
        case h_4 fs hd => rw [hd]; rfl
        case h_5 len e hd => rw [hd]; rfl
        case h_6 => cases hk
        all_goals
          rename_i hd
          rw [hd]
          cases hk
          match avs, hf, hc with
          | [a], _, hc => exact hc a (List.mem_singleton.2 rfl)
      · cases h
    · cases h
/-- A slice that came in. -/
theorem slice_in {T : Tab} (hT : TabOk P T) {H : Type} {enc : TypeId × Value → H} {W : World} {t e : TypeId} {n b0 : Nat} {ks : List LK} {v : Value} {d : DataW H} {ps : List MemPlace} (hd : T.desc t = .slice e) (hk : kindsA T n e = some ks)
    (hok : Value.okWide P W .any b0 t v) (h : DataW.Trod enc P W 0 (fun _ => true) true t v d ps) : ∃ rows : List (List AV), (∀ r ∈ rows, FitA ks r) ∧ V T (cx0 W) (.sl .fz e (rows.map (wrapT T e))) v := by
  have hu := (hT.slice t e hd).1
  obtain ⟨a, len, cap, rfl⟩ := WideShapes.okWide_slice hu hok
  obtain ⟨fuel, hf⟩ := h
  have hkn := kinds_known hk
  have hce : P.cellsOf e = ks.length := (cells_size hT hkn.1).trans hkn.2
  rcases DataW.trod_slice hu hf with ⟨h0, _⟩ | ⟨a', len', cap', elems, rest, m, _, h0, _, _, hl, hm, hlen, hel, _⟩
  · simp [Value.cells] at h0
    obtain ⟨rfl, rfl, rfl⟩ := h0
    exact ⟨[], fun r h => by simp at h, .nilsl _ _⟩
  · simp [Value.cells] at h0
    obtain ⟨rfl, rfl, rfl⟩ := h0
    have hhas : a'.spot = none ∧ ∃ row cells, W.shape? a'.block = some (row, cells) := by
      simp only [Value.okWide, hu, Cell.okWide, Cell.ok] at hok
      exact ⟨hok.2.2.2.1, by obtain ⟨row, cells, h, _⟩ := hok.2.2.2.2; exact ⟨row, cells, h⟩⟩
    obtain ⟨hs, row, cells, hsh⟩ := hhas
    obtain ⟨g, o, spot⟩ := a'
    obtain rfl : spot = none := hs
    have hg : g < W.heap.size := by
      unfold World.shape? at hsh
      split at hsh
      · rename_i c el _ hh
        exact (Array.getElem?_eq_some_iff.1 hh).1
      · cases hsh
    have each : ∀ i, i < len → ∃ us avs, us.length = ks.length ∧ (∀ j u, us[j]? = some u → W.cell? ⟨g, o + (i * ks.length + j), none⟩ = some u) ∧ FitA ks avs ∧ VL T (cx0 W) avs us ∧ (∀ u ∈ us, u.oneCell' = true) ∧ ∀ a ∈ avs, a.flat = true ∧ a.isCell = true ∧ a.cells = [a] := by
      intro i hi
      have h1 := hel i hi
      have hei : elems[i]? = some (elems[i]'(by omega)) := List.getElem?_eq_getElem _
      rw [hei, Option.bind_eq_some_iff] at h1
      obtain ⟨cs, hcs, htr⟩ := h1
      obtain ⟨_, hcl, hcc⟩ := World.cells?_some hcs
      obtain ⟨avs, q1, q2, q3, q4⟩ := fit_av (T := T) (c := cx0 W) (fit_trod hT hk htr)
      refine ⟨cs, avs, by rw [hcl, hce], fun j u hj => ?_, q1, q2, q3, q4⟩
      have hjl : j < P.cellsOf e := by rw [← hcl]; exact (List.getElem?_eq_some_iff.1 hj).1
      have := hcc j hjl
      rw [hj, hce] at this
      have e1 : ∀ (x y : Nat), (⟨g, x, none⟩ : Addr).add y = ⟨g, x + y, none⟩ := fun x y => by unfold Addr.add; split <;> simp_all
      rw [e1, e1, Nat.add_assoc] at this
      exact this
    have build : ∀ m, m ≤ len → ∃ (us : List Value) (rows : List (List AV)), us.length = m * ks.length ∧ rows.length = m ∧ (∀ r ∈ rows, FitA ks r ∧ ∀ a ∈ r, a.flat = true ∧ a.isCell = true ∧ a.cells = [a]) ∧ (∀ j u, us[j]? = some u → W.cell? ⟨g, o + j, none⟩ = some u) ∧ (∀ u ∈ us, u.oneCell' = true) ∧
        ∀ (i : Nat) (r : List AV) (j : Nat) (y : AV) (u : Value), rows[i]? = some r → r[j]? = some y → us[i * ks.length + j]? = some u → V T (cx0 W) y u := by
      intro m
      induction m with
      | zero => intro _; exact ⟨[], [], by simp, rfl, fun r h => by simp at h, fun j u h => by simp at h, fun u h => by simp at h, fun i r j y u h => by simp at h⟩
      | succ m ih =>
        intro hm
        obtain ⟨us, rows, i1, i2, i3, i4, i5, i6⟩ := ih (by omega)
        obtain ⟨vs, avs, e1, e2, e3, e4, e5, e6⟩ := each m (by omega)
        refine ⟨us ++ vs, rows ++ [avs], ?_, by simp [i2], ?_, ?_, ?_, ?_⟩
        · rw [List.length_append, i1, e1, Nat.succ_mul]
        · intro r hr
          rcases List.mem_append.1 hr with hr | hr
          · exact i3 r hr
          · rcases List.mem_singleton.1 hr with rfl
            exact ⟨e3, e6⟩
        · intro j u hj
          by_cases hjl : j < us.length
          · rw [List.getElem?_append_left hjl] at hj; exact i4 j u hj
          · rw [List.getElem?_append_right (by omega)] at hj
            have := e2 _ u hj
            rw [i1] at this
            rwa [show m * ks.length + (j - m * ks.length) = j by omega] at this
        · intro u hu
          rcases List.mem_append.1 hu with hu | hu
          · exact i5 u hu
          · exact e5 u hu
        · intro i r j y u hr hy hu
          by_cases hi : i < rows.length
          · rw [List.getElem?_append_left hi] at hr
            have hrk := (i3 r (List.mem_of_getElem? hr)).1.len
            have hj : j < ks.length := by rw [← hrk]; exact (List.getElem?_eq_some_iff.1 hy).1
            have : i * ks.length + j < us.length := by
              rw [i1]
              calc i * ks.length + j < i * ks.length + ks.length := by omega
                _ = (i + 1) * ks.length := by rw [Nat.succ_mul]
                _ ≤ m * ks.length := Nat.mul_le_mul_right _ (by omega)
            rw [List.getElem?_append_left this] at hu
            exact i6 i r j y u hr hy hu
          · rw [List.getElem?_append_right (by omega)] at hr
            have hi0 : i - rows.length = 0 := by
              have := (List.getElem?_eq_some_iff.1 hr).1
              simp at this; omega
            have him : i = m := by omega
            rw [hi0] at hr
            cases hr
            subst him
            rw [List.getElem?_append_right (by rw [i1]; omega), i1, show i * ks.length + j - i * ks.length = j by omega] at hu
            exact e4.2 j y u hy hu
    obtain ⟨us, rows, b1, b2, b3, b4, b5, b6⟩ := build len (Nat.le_refl _)
    refine ⟨rows, fun r hr => (b3 r hr).1, ?_⟩
    have hcell : ∀ r ∈ rows, (wrapT T e r).cells = r := fun r hr => wrap_cells hk (b3 r hr).1 (fun a ha => ((b3 r hr).2 a ha).2.2)
    have hlen' : (rows.map (wrapT T e)).length = len := by simp [b2]
    have key : ∀ (i : Nat) (x : AV), (rows.map (wrapT T e))[i]? = some x → ∃ r, rows[i]? = some r ∧ r ∈ rows ∧ x.cells = r := by
      intro i x hx
      rw [List.getElem?_map] at hx
      cases hr : rows[i]? with
      | none => rw [hr] at hx; cases hx
      | some r => rw [hr] at hx; cases hx; exact ⟨r, rfl, List.mem_of_getElem? hr, hcell r (List.mem_of_getElem? hr)⟩
    have := V.slf (T := T) (c := cx0 W) e (rows.map (wrapT T e)) g o cap us hg (by rw [hlen']; exact hl) hm (by rw [hlen', b1, hkn.2]) (fun j u hj => b4 j u hj) b5
      (fun i x hx => by obtain ⟨r, _, hr, hc⟩ := key i x hx; rw [hc, (b3 r hr).1.len, hkn.2])
      (fun i x hx j y hy => by obtain ⟨r, _, hr, hc⟩ := key i x hx; rw [hc] at hy; exact ((b3 r hr).2 y (List.mem_of_getElem? hy)).1)
      (fun i x j y u hx hy hu => by obtain ⟨r, hri, hr, hc⟩ := key i x hx; rw [hc] at hy; rw [hkn.2] at hu; exact b6 i r j y u hri hy hu)
    rwa [hlen'] at this
/-- A law's call: it yields true, and nothing that was there has turned. -/
theorem law_calls {T : Tab} {f : FuncId} {S : List AV → List Box → (AV → List Box → Prop) → Prop} (h : FnOk P T f S) {W : World} (hg : (cx0 W).Gl) {args : List AV} {vs : List Value} (hS : S args [] (fun res _ => res = .bool true)) (hV : VL T (cx0 W) args vs) :
    Calls P f vs.toArray W fun e W' => e = .returned (.bool true) ∧ RowKit.Below W.heap.size W W' := by
  refine Calls.mono (h.2 args [] _ hS (cx0 W) vs (cx0_ok W hg) (fun _ => rfl) hV (fun i x hx => by simp at hx)) ?_
  rintro e w' ⟨v, c', res, out, rfl, rfl, ok', hst, hres, -, rfl⟩
  cases hres
  refine ⟨rfl, hst.os, hst.tape, hst.output, hst.size, fun k hk => hst.blk k hk (fun hw => ?_)⟩
  rcases hw with ⟨b, hb⟩ | ⟨F, hF⟩
  · cases hb
  · cases hF
end Go.Proofs.YtbpcofnhndgoeaaDoor.A

/- == of structs and arrays whose cells are plain. -/
namespace Go.Proofs.YtbpcofnhndgoeaaDoor.A
open Go
variable {P : Program}
def eqOffs (T : Tab) : Nat → List (Nat × TypeId) → Nat → Bool
  | o, [], m => Nat.beq o m
  | o, (p, u) :: fs, m => Nat.beq p o && eqOffs T (o + T.size u) fs m
/-- Can == of a type be told by its cells? -/
def eqChk (P : Program) (T : Tab) : Nat → TypeId → Bool
  | 0, _ => false
  | n + 1, t => match T.desc t with
    | .int _ => true
    | .bool => true
    | .str => true
    | .struct fs => (!P.stoodInHeld t && (P.fieldsOf t).toList.all (fun f => f.name != "_")) && (eqOffs T 0 fs (T.size t) && all? (fun p => eqChk P T n p.2) fs)
    | .arr _ e => eqChk P T n e
    | _ => false
def wrT (T : Tab) (t : TypeId) (us : List Value) : Value := match (T.desc t).isAgg with
  | some true => .agg us.toArray
  | _ => us.headD undef
theorem eqvL_append : ∀ {a a' r r' : List AV} {b : Bool}, a.length = a'.length → AV.eqvL (a ++ r) (a' ++ r') = some b → ∃ b1 b2, AV.eqvL a a' = some b1 ∧ AV.eqvL r r' = some b2 ∧ b = (b1 && b2)
  | [], [], r, r', b, _, h => ⟨true, b, rfl, h, rfl⟩
  | [], _ :: _, _, _, _, h, _ => by simp at h
  | _ :: _, [], _, _, _, h, _ => by simp at h
  | x :: a, y :: a', r, r', b, hl, h => by
    simp only [List.cons_append, AV.eqvL] at h
    split at h
    · rename_i p q hp hq
      cases h
      obtain ⟨b1, b2, h1, h2, rfl⟩ := eqvL_append (by simpa using hl) hq
      exact ⟨p && b1, b2, by simp [AV.eqvL, hp, h1], h2, by simp [Bool.and_assoc]⟩
    · cases h
theorem fitB_len : ∀ {ks : List LK} {xs : List AV}, fitB ks xs = true → xs.length = ks.length
  | [], [], _ => rfl
  | [], _ :: _, h => by simp [fitB] at h
  | k :: ks, [], h => by cases k <;> simp [fitB] at h
  | k :: ks, x :: xs, h => by
    cases k <;> cases x <;> simp [fitB] at h
    · simp [fitB_len h.2]
    · simp [fitB_len h]
    · simp [fitB_len h]
theorem fitB_append : ∀ {ks ks' : List LK} {xs : List AV}, fitB (ks ++ ks') xs = true → fitB ks (xs.take ks.length) = true ∧ fitB ks' (xs.drop ks.length) = true
  | [], _, _, h => ⟨by simp [fitB], h⟩
  | k :: ks, _, [], h => by cases k <;> simp [fitB] at h
  | k :: ks, ks', x :: xs, h => by
    cases k <;> cases x <;> simp [fitB] at h ⊢
    · exact ⟨⟨h.1, (fitB_append h.2).1⟩, (fitB_append h.2).2⟩
    · exact fitB_append h
    · exact fitB_append h
theorem run_partT {T : Tab} (hT : TabOk P T) {n : Nat} {u : TypeId} {ks : List LK} (hk : kindsA T n u = some ks) {us : List Value} {o : Nat} (h : o + ks.length ≤ us.length) (w : World) : (part u us.toArray o).run P w = .ok (wrT T u ((us.drop o).take ks.length)) w := by
  have hkn := kinds_known hk
  have agg : (T.desc u).isAgg = some true → (part u us.toArray o).run P w = .ok (wrT T u ((us.drop o).take ks.length)) w := fun ha => by
    unfold part wrT
    rw [Sem.run_bind, run_isAgg hT ha, ha]
    simp only [Result.andThen_ok, if_true, Sem.run_bind, run_size hT hkn.1, Sem.run_pure]
    congr 2
    apply Array.ext'
    simp [hkn.2]
  have leaf : (T.desc u).isAgg = some false → ks.length = 1 → (part u us.toArray o).run P w = .ok (wrT T u ((us.drop o).take ks.length)) w := fun ha h1 => by
    unfold part wrT
    rw [Sem.run_bind, run_isAgg hT ha, ha, h1]
    have : o < us.length := by omega
    have e : (us.drop o).take 1 = [us[o]] := by rw [List.drop_eq_getElem_cons this]; rfl
    rw [e]
    simp [this]
  cases n with
  | zero => cases hk
  | succ n =>
    unfold kindsA at hk
    split at hk
    · rename_i ks' hk0
      split at hk
      · cases hk
        unfold kinds0 at hk0
        split at hk0
        case h_4 fs hd => exact agg (by rw [hd]; rfl)
        case h_5 len e hd => exact agg (by rw [hd]; rfl)
        case h_6 => cases hk0
        all_goals
          rename_i hd
          cases hk0
          exact leaf (by rw [hd]; rfl) rfl
      · cases hk
    · cases hk
theorem VL.cut {T' : Tab} {c : Cx} {xs : List AV} {us : List Value} (h : VL T' c xs us) (k : Nat) : VL T' c (xs.take k) (us.take k) ∧ VL T' c (xs.drop k) (us.drop k) := by
  refine ⟨⟨by rw [List.length_take, List.length_take, h.1], fun i x u hx hu => ?_⟩, ⟨by rw [List.length_drop, List.length_drop, h.1], fun i x u hx hu => ?_⟩⟩
  · rw [List.getElem?_take] at hx hu
    split at hx
    · rename_i hi
      rw [if_pos hi] at hu
      exact h.2 i x u hx hu
    · cases hx
  · rw [List.getElem?_drop] at hx hu
    exact h.2 _ x u hx hu
theorem eq_fields {T T' : Tab} (hT : TabOk P T) {c : Cx} {n d : Nat} {us vs : List Value} (w : World)
    (IH : ∀ u ks, kindsA T n u = some ks → eqChk P T n u = true → ∀ xs ys us vs b, fitB ks xs = true → fitB ks ys = true → VL T' c xs us → VL T' c ys vs → AV.eqvL xs ys = some b → (Op.equalIn (d + n) u (wrT T u us) (wrT T u vs)).run P w = .ok b w) :
    ∀ (fl : List Field) (o : Nat) (r : List LK) (xs ys : List AV) (b : Bool), kindsL (kindsA T n) o (fl.map fun f => (f.offset, f.type)) = some r → (fl.all fun f => f.name != "_") = true → all? (fun p : Nat × TypeId => eqChk P T n p.2) (fl.map fun f => (f.offset, f.type)) = true →
      o + r.length ≤ us.length → us.length = vs.length → fitB r xs = true → fitB r ys = true → VL T' c xs ((us.drop o).take r.length) → VL T' c ys ((vs.drop o).take r.length) → AV.eqvL xs ys = some b → (Op.eqFields (d + n) us.toArray vs.toArray fl).run P w = .ok b w
  | [], o, r, xs, ys, b, hk, _, _, _, _, hx, hy, _, _, h => by
    cases hk
    have h1 := fitB_len hx
    have h2 := fitB_len hy
    have : xs = [] := List.length_eq_zero_iff.1 h1
    subst this
    have : ys = [] := List.length_eq_zero_iff.1 h2
    subst this
    cases h
    simp [Op.eqFields]
  | f :: fl, o, r, xs, ys, b, hk, hn, hc, hlen, huv, hx, hy, hX, hY, h => by
    simp only [List.map_cons] at hk hc
    unfold kindsL at hk
    split at hk
    · rename_i ks hb hku
      have ho := Nat.eq_of_beq_eq_true hb
      split at hk
      · rename_i r' hr
        cases hk
        simp only [List.all_cons, Bool.and_eq_true, bne_iff_ne, ne_eq] at hn
        simp only [all?, Bool.and_eq_true] at hc
        have fx := fitB_append hx
        have fy := fitB_append hy
        rw [List.length_append] at hlen hX hY
        have lx : (xs.take ks.length).length = (ys.take ks.length).length := by
          rw [fitB_len fx.1, fitB_len fy.1]
        rw [← List.take_append_drop ks.length xs, ← List.take_append_drop ks.length ys] at h
        obtain ⟨b1, b2, e1, e2, rfl⟩ := eqvL_append lx h
        have cx := hX.cut ks.length
        have cy := hY.cut ks.length
        have t1 : ∀ l : List Value, (((l.drop o).take (ks.length + r'.length)).take ks.length) = (l.drop o).take ks.length := fun l => by rw [List.take_take, Nat.min_eq_left (by omega)]
        have t2 : ∀ l : List Value, (((l.drop o).take (ks.length + r'.length)).drop ks.length) = (l.drop (o + ks.length)).take r'.length := fun l => by
          rw [List.drop_take, List.drop_drop, Nat.add_sub_cancel_left]
        rw [t1, t2] at cx
        rw [t1, t2] at cy
        have p1 := run_partT hT hku (us := us) (o := f.offset) (by rw [ho]; omega) w
        have p2 := run_partT hT hku (us := vs) (o := f.offset) (by rw [ho]; omega) w
        rw [ho] at p1 p2
        have q := IH f.type ks hku hc.1 _ _ _ _ b1 fx.1 fy.1 cx.1 cy.1 e1
        have rest := eq_fields hT w IH fl (o + ks.length) r' _ _ b2 hr hn.2 hc.2 (by omega) huv fx.2 fy.2 cx.2 cy.2 e2
        simp only [Op.eqFields, hn.1, ne_eq, not_false_eq_true, if_true, Sem.run_bind, ho, p1, p2, q, Result.andThen_ok]
        cases b1
        · simp
        · simpa using rest
      · cases hk
    · cases hk
theorem eq_items {T T' : Tab} (hT : TabOk P T) {c : Cx} {n d : Nat} {e : TypeId} {ks : List LK} {us vs : List Value} (w : World) (hk : kindsA T n e = some ks)
    (IH : ∀ xs ys us vs b, fitB ks xs = true → fitB ks ys = true → VL T' c xs us → VL T' c ys vs → AV.eqvL xs ys = some b → (Op.equalIn (d + n) e (wrT T e us) (wrT T e vs)).run P w = .ok b w) :
    ∀ (k i : Nat) (xs ys : List AV) (b : Bool), (i + k) * ks.length ≤ us.length → us.length = vs.length → fitB (List.replicate k ks).flatten xs = true → fitB (List.replicate k ks).flatten ys = true →
      VL T' c xs ((us.drop (i * ks.length)).take (k * ks.length)) → VL T' c ys ((vs.drop (i * ks.length)).take (k * ks.length)) → AV.eqvL xs ys = some b → (Op.eqItems (d + n) e (P.cellsOf e) us.toArray vs.toArray (List.range' i k)).run P w = .ok b w
  | 0, i, xs, ys, b, _, _, hx, hy, _, _, h => by
    have h1 := fitB_len hx
    have h2 := fitB_len hy
    have : xs = [] := List.length_eq_zero_iff.1 (by simpa using h1)
    subst this
    have : ys = [] := List.length_eq_zero_iff.1 (by simpa using h2)
    subst this
    cases h
    simp [Op.eqItems]
  | k + 1, i, xs, ys, b, hlen, huv, hx, hy, hX, hY, h => by
    rw [List.replicate_succ, List.flatten_cons] at hx hy
    have fx := fitB_append hx
    have fy := fitB_append hy
    have lx : (xs.take ks.length).length = (ys.take ks.length).length := by rw [fitB_len fx.1, fitB_len fy.1]
    rw [← List.take_append_drop ks.length xs, ← List.take_append_drop ks.length ys] at h
    obtain ⟨b1, b2, e1, e2, rfl⟩ := eqvL_append lx h
    have cx := hX.cut ks.length
    have cy := hY.cut ks.length
    have hkk : (k + 1) * ks.length = ks.length + k * ks.length := by rw [Nat.succ_mul]; omega
    have hii : (i + 1) * ks.length = i * ks.length + ks.length := by rw [Nat.succ_mul]
    have hlen' : i * ks.length + (ks.length + k * ks.length) ≤ us.length := by
      rw [← hkk, ← Nat.add_mul]; exact hlen
    rw [hkk] at cx cy
    have t1 : ∀ l : List Value, (((l.drop (i * ks.length)).take (ks.length + k * ks.length)).take ks.length) = (l.drop (i * ks.length)).take ks.length := fun l => by rw [List.take_take, Nat.min_eq_left (by omega)]
    have t2 : ∀ l : List Value, (((l.drop (i * ks.length)).take (ks.length + k * ks.length)).drop ks.length) = (l.drop ((i + 1) * ks.length)).take (k * ks.length) := fun l => by
      rw [List.drop_take, List.drop_drop, Nat.add_sub_cancel_left, hii]
    rw [t1, t2] at cx
    rw [t1, t2] at cy
    have hkn := kinds_known hk
    have hce : P.cellsOf e = ks.length := (cells_size hT hkn.1).trans hkn.2
    have p1 := run_partT hT hk (us := us) (o := i * ks.length) (by omega) w
    have p2 := run_partT hT hk (us := vs) (o := i * ks.length) (by omega) w
    have q := IH _ _ _ _ b1 fx.1 fy.1 cx.1 cy.1 e1
    have rest := eq_items hT w hk IH k (i + 1) _ _ b2 (by rw [show i + 1 + k = i + (k + 1) by omega]; exact hlen) huv fx.2 fy.2 cx.2 cy.2 e2
    rw [hce] at rest ⊢
    rw [List.range'_succ]
    simp only [Op.eqItems, Sem.run_bind, p1, p2, q, Result.andThen_ok]
    cases b1
    · simp
    · simpa using rest
theorem fields_of {t : TypeId} {fs : Array Field} (h : P.underlying t = some (.struct fs)) : P.fieldsOf t = fs := by simp [Program.fieldsOf, h]
theorem eq_run {T T' : Tab} (hT : TabOk P T) {c : Cx} : ∀ (n : Nat) (t : TypeId) (ks : List LK), kindsA T n t = some ks → eqChk P T n t = true → ∀ (xs ys : List AV) (us vs : List Value) (b : Bool), fitB ks xs = true → fitB ks ys = true → VL T' c xs us → VL T' c ys vs → AV.eqvL xs ys = some b →
    ∀ d w, (Op.equalIn (d + n) t (wrT T t us) (wrT T t vs)).run P w = .ok b w
  | 0, _, _, h, _, _, _, _, _, _, _, _, _, _, _, _, _ => by cases h
  | n + 1, t, ks, hk, hc, xs, ys, us, vs, b, hx, hy, hX, hY, h, d, w => by
    have hkk := hk
    have hkn := kinds_known hk
    unfold kindsA at hk
    unfold eqChk at hc
    split at hk
    · rename_i ks' hk0
      split at hk
      · cases hk
        unfold kinds0 at hk0
        have two : ∀ {k : LK}, ks = [k] → ∃ x y u v, xs = [x] ∧ ys = [y] ∧ us = [u] ∧ vs = [v] ∧ V T' c x u ∧ V T' c y v := by
          rintro k rfl
          have h1 := fitB_len hx
          have h2 := fitB_len hy
          have h3 := hX.1
          have h4 := hY.1
          match xs, ys, us, vs, h1, h2, h3, h4 with
          | [x], [y], [u], [v], _, _, _, _ => exact ⟨x, y, u, v, rfl, rfl, rfl, rfl, hX.2 0 _ _ rfl rfl, hY.2 0 _ _ rfl rfl⟩
        split at hk0
        · rename_i k hd
          cases hk0
          obtain ⟨x, y, u, v, rfl, rfl, rfl, rfl, hu, hv⟩ := two rfl
          cases x <;> simp [fitB] at hx
          cases y <;> simp [fitB] at hy
          rename_i k1 a k2 a'
          obtain rfl := kind_eq hx
          obtain rfl := kind_eq hy
          simp [AV.eqvL, AV.eqv, show kindA k k = true by cases k <;> rfl] at h
          subst h
          rw [hu.int_inv, hv.int_inv]
          unfold wrT
          rw [hd]
          exact run_equalIn_int w _ t k k a a' (hT.int _ _ hd)
        · rename_i hd
          cases hk0
          obtain ⟨x, y, u, v, rfl, rfl, rfl, rfl, hu, hv⟩ := two rfl
          cases x <;> simp [fitB] at hx
          cases y <;> simp [fitB] at hy
          simp [AV.eqvL, AV.eqv] at h
          subst h
          rw [hu.bool_inv, hv.bool_inv]
          unfold wrT
          rw [hd]
          exact run_equalIn_bool' w _ t _ _ (hT.bool _ hd)
        · rename_i hd
          cases hk0
          obtain ⟨x, y, u, v, rfl, rfl, rfl, rfl, hu, hv⟩ := two rfl
          cases x <;> simp [fitB] at hx
          cases y <;> simp [fitB] at hy
          simp [AV.eqvL, AV.eqv] at h
          subst h
          rw [hu.str_inv, hv.str_inv, beq_toListBytes]
          unfold wrT
          rw [hd]
          exact run_equalIn_string w _ t _ _ (hT.str _ hd)
        · rename_i fs hd
          rw [hd] at hc
          simp only [Bool.and_eq_true, Bool.not_eq_true'] at hc
          obtain ⟨fields, hu, hfs, _⟩ := hT.struct t fs hd
          have hff := fields_of hu
          unfold wrT
          rw [hd]
          show (Op.equalIn (d + n + 1) t (.agg us.toArray) (.agg vs.toArray)).run P w = _
          rw [run_equalIn_struct w (d + n) t _ _ (by rw [hff]; exact hu) hc.1.1, hff]
          have hl := fitB_len hx
          have hl' := fitB_len hy
          have h1 := hX.1
          have h2 := hY.1
          refine eq_fields (T' := T') (c := c) hT w (fun u ks hku hcu xs ys us vs b a1 a2 a3 a4 a5 => eq_run hT n u ks hku hcu xs ys us vs b a1 a2 a3 a4 a5 d w) fields.toList 0 ks xs ys b (by rw [hfs]; exact hk0) (by rw [hff] at hc; exact hc.1.2) (by rw [hfs]; exact hc.2.2) (by omega) (by omega) hx hy ?_ ?_ h
          · rw [List.drop_zero, List.take_of_length_le (by omega)]; exact hX
          · rw [List.drop_zero, List.take_of_length_le (by omega)]; exact hY
        · rename_i len e hd
          rw [hd] at hc
          split at hk0
          · rename_i ke hke
            cases hk0
            obtain ⟨hu, _⟩ := hT.arr t len e hd
            obtain ⟨i, z, hi, _⟩ := hT.info e (kinds_known hke).1
            unfold wrT
            rw [hd]
            show (Op.equalIn (d + n + 1) t (.agg us.toArray) (.agg vs.toArray)).run P w = _
            rw [run_equalIn_array w (d + n) _ _ hu hi, List.range_eq_range']
            have hl := fitB_len hx
            have hl' := fitB_len hy
            have h1 := hX.1
            have h2 := hY.1
            have hfl : (List.replicate len ke).flatten.length = len * ke.length := by simp
            refine eq_items (T' := T') (c := c) hT w hke (fun xs ys us vs b a1 a2 a3 a4 a5 => eq_run hT n e ke hke hc xs ys us vs b a1 a2 a3 a4 a5 d w) len 0 xs ys b (by rw [Nat.zero_add]; omega) (by omega) hx hy ?_ ?_ h
            · rw [Nat.zero_mul, List.drop_zero, List.take_of_length_le (by omega)]; exact hX
            · rw [Nat.zero_mul, List.drop_zero, List.take_of_length_le (by omega)]; exact hY
          · cases hk0
        · cases hk0
      · cases hk
    · cases hk
/-- A table with the types whose == is told by their cells. -/
theorem tab_eq {T : Tab} (h : TabOk P T) (eqK : TypeId → Option (List LK)) (hK : ∀ t ks, eqK t = some ks → kindsA T 8 t = some ks ∧ eqChk P T 8 t = true ∧ (T.desc t).isAgg = some true ∧ P.eqGuardType P.depth t = false) : TabOk P { T with eqT := eqK } where
  int := h.int
  bool := h.bool
  str := h.str
  slice := h.slice
  struct := h.struct
  arr := h.arr
  ptr := h.ptr
  func := h.func
  iface := h.iface
  mp := h.mp
  info := h.info
  meth := h.meth
  wide := h.wide
  cmp := h.cmp
  eqs := by
    intro t ks ht c xs ys us vs b fx fy hX hY hb w
    obtain ⟨k1, k2, k3, k4⟩ := hK t ks ht
    refine ⟨?_, fun op px py => run_eqGuard_agg w op t px py _ _ k4⟩
    have := eq_run (T' := { T with eqT := eqK }) h 8 t ks k1 k2 xs ys us vs b fx fy hX hY hb 9992 w
    unfold wrT at this
    rw [k3] at this
    exact this
end Go.Proofs.YtbpcofnhndgoeaaDoor.A

/- A slice that came in, as a cell. -/
namespace Go.Proofs.YtbpcofnhndgoeaaDoor.A
open Go
variable {P : Program}
/-- A slice in a cell. -/
theorem slice_cell_in2 {T : Tab} (hT : TabOk P T) {H : Type} {enc : TypeId × Value → H} {W : World} {t e : TypeId} {n b0 fuel : Nat} {ks : List LK} {v : Value} {x : DataW H × List MemPlace} (hd : T.desc t = .slice e) (hk : kindsA T n e = some ks)
    (hok : Cell.okWide P W .any b0 t v) (hf : DataW.trod enc P W 0 (fun _ => true) true fuel t [v] = some x) : ∃ rows : List (List AV), (∀ r ∈ rows, FitA ks r) ∧ V T (cx0 W) (.sl .fz e (rows.map (wrapT T e))) v ∧ ((∀ m ∈ x.1.weights P t, m ≤ reachBytes) → rows.length * P.bytesOf e ≤ reachBytes) ∧ (rows.length = 0 ∨ ∃ elems rest, x.1 = .slice elems rest ∧ elems.length = rows.length) := by
  have hu := (hT.slice t e hd).1
  obtain ⟨a, len, cap, rfl⟩ : ∃ a len cap, v = .slice a len cap := by
    simp only [Cell.okWide, hu] at hok
    cases v <;> simp_all [Cell.ok]
  have hkn := kinds_known hk
  have hce : P.cellsOf e = ks.length := (cells_size hT hkn.1).trans hkn.2
  rcases DataW.trod_slice hu hf with ⟨h0, _⟩ | ⟨a', len', cap', elems, rest, m, _, h0, hx, _, hl, hm, hlen, hel, _⟩
  · simp at h0
    obtain ⟨rfl, rfl, rfl⟩ := h0
    exact ⟨[], fun r h => by simp at h, .nilsl _ _, fun _ => by simp, .inl rfl⟩
  · simp at h0
    obtain ⟨rfl, rfl, rfl⟩ := h0
    have hhas : a'.spot = none ∧ ∃ row cells, W.shape? a'.block = some (row, cells) := by
      simp only [hu, Cell.okWide, Cell.ok] at hok
      exact ⟨hok.2.2.2.1, by obtain ⟨row, cells, h, _⟩ := hok.2.2.2.2; exact ⟨row, cells, h⟩⟩
    obtain ⟨hs, row, cells, hsh⟩ := hhas
    obtain ⟨g, o, spot⟩ := a'
    obtain rfl : spot = none := hs
    have hg : g < W.heap.size := by
      unfold World.shape? at hsh
      split at hsh
      · rename_i c el _ hh
        exact (Array.getElem?_eq_some_iff.1 hh).1
      · cases hsh
    have each : ∀ i, i < len → ∃ us avs, us.length = ks.length ∧ (∀ j u, us[j]? = some u → W.cell? ⟨g, o + (i * ks.length + j), none⟩ = some u) ∧ FitA ks avs ∧ VL T (cx0 W) avs us ∧ (∀ u ∈ us, u.oneCell' = true) ∧ ∀ a ∈ avs, a.flat = true ∧ a.isCell = true ∧ a.cells = [a] := by
      intro i hi
      have h1 := hel i hi
      have hei : elems[i]? = some (elems[i]'(by omega)) := List.getElem?_eq_getElem _
      rw [hei, Option.bind_eq_some_iff] at h1
      obtain ⟨cs, hcs, htr⟩ := h1
      obtain ⟨_, hcl, hcc⟩ := World.cells?_some hcs
      obtain ⟨avs, q1, q2, q3, q4⟩ := fit_av (T := T) (c := cx0 W) (fit_trod hT hk htr)
      refine ⟨cs, avs, by rw [hcl, hce], fun j u hj => ?_, q1, q2, q3, q4⟩
      have hjl : j < P.cellsOf e := by rw [← hcl]; exact (List.getElem?_eq_some_iff.1 hj).1
      have := hcc j hjl
      rw [hj, hce] at this
      have e1 : ∀ (x y : Nat), (⟨g, x, none⟩ : Addr).add y = ⟨g, x + y, none⟩ := fun x y => by unfold Addr.add; split <;> simp_all
      rw [e1, e1, Nat.add_assoc] at this
      exact this
    have build : ∀ m, m ≤ len → ∃ (us : List Value) (rows : List (List AV)), us.length = m * ks.length ∧ rows.length = m ∧ (∀ r ∈ rows, FitA ks r ∧ ∀ a ∈ r, a.flat = true ∧ a.isCell = true ∧ a.cells = [a]) ∧ (∀ j u, us[j]? = some u → W.cell? ⟨g, o + j, none⟩ = some u) ∧ (∀ u ∈ us, u.oneCell' = true) ∧
        ∀ (i : Nat) (r : List AV) (j : Nat) (y : AV) (u : Value), rows[i]? = some r → r[j]? = some y → us[i * ks.length + j]? = some u → V T (cx0 W) y u := by
      intro m
      induction m with
      | zero => intro _; exact ⟨[], [], by simp, rfl, fun r h => by simp at h, fun j u h => by simp at h, fun u h => by simp at h, fun i r j y u h => by simp at h⟩
      | succ m ih =>
        intro hm
        obtain ⟨us, rows, i1, i2, i3, i4, i5, i6⟩ := ih (by omega)
        obtain ⟨vs, avs, e1, e2, e3, e4, e5, e6⟩ := each m (by omega)
        refine ⟨us ++ vs, rows ++ [avs], ?_, by simp [i2], ?_, ?_, ?_, ?_⟩
        · rw [List.length_append, i1, e1, Nat.succ_mul]
        · intro r hr
          rcases List.mem_append.1 hr with hr | hr
          · exact i3 r hr
          · rcases List.mem_singleton.1 hr with rfl
            exact ⟨e3, e6⟩
        · intro j u hj
          by_cases hjl : j < us.length
          · rw [List.getElem?_append_left hjl] at hj; exact i4 j u hj
          · rw [List.getElem?_append_right (by omega)] at hj
            have := e2 _ u hj
            rw [i1] at this
            rwa [show m * ks.length + (j - m * ks.length) = j by omega] at this
        · intro u hu
          rcases List.mem_append.1 hu with hu | hu
          · exact i5 u hu
          · exact e5 u hu
        · intro i r j y u hr hy hu
          by_cases hi : i < rows.length
          · rw [List.getElem?_append_left hi] at hr
            have hrk := (i3 r (List.mem_of_getElem? hr)).1.len
            have hj : j < ks.length := by rw [← hrk]; exact (List.getElem?_eq_some_iff.1 hy).1
            have : i * ks.length + j < us.length := by
              rw [i1]
              calc i * ks.length + j < i * ks.length + ks.length := by omega
                _ = (i + 1) * ks.length := by rw [Nat.succ_mul]
                _ ≤ m * ks.length := Nat.mul_le_mul_right _ (by omega)
            rw [List.getElem?_append_left this] at hu
            exact i6 i r j y u hr hy hu
          · rw [List.getElem?_append_right (by omega)] at hr
            have hi0 : i - rows.length = 0 := by
              have := (List.getElem?_eq_some_iff.1 hr).1
              simp at this; omega
            have him : i = m := by omega
            rw [hi0] at hr
            cases hr
            subst him
            rw [List.getElem?_append_right (by rw [i1]; omega), i1, show i * ks.length + j - i * ks.length = j by omega] at hu
            exact e4.2 j y u hy hu
    obtain ⟨us, rows, b1, b2, b3, b4, b5, b6⟩ := build len (Nat.le_refl _)
    refine ⟨rows, fun r hr => (b3 r hr).1, ?_, fun hw => ?_, .inr ⟨elems.map (·.1), rest.map (·.1), by rw [hx], by rw [List.length_map, b2]; omega⟩⟩
    rotate_left
    · subst hx
      have := hw ((elems.length + rest.length) * P.bytesOf e) (by simp [DataW.weights, hu])
      rw [b2, ← hlen]
      exact Nat.le_trans (Nat.mul_le_mul_right _ (Nat.le_add_right _ _)) this
    have hcell : ∀ r ∈ rows, (wrapT T e r).cells = r := fun r hr => wrap_cells hk (b3 r hr).1 (fun a ha => ((b3 r hr).2 a ha).2.2)
    have hlen' : (rows.map (wrapT T e)).length = len := by simp [b2]
    have key : ∀ (i : Nat) (x : AV), (rows.map (wrapT T e))[i]? = some x → ∃ r, rows[i]? = some r ∧ r ∈ rows ∧ x.cells = r := by
      intro i x hx
      rw [List.getElem?_map] at hx
      cases hr : rows[i]? with
      | none => rw [hr] at hx; cases hx
      | some r => rw [hr] at hx; cases hx; exact ⟨r, rfl, List.mem_of_getElem? hr, hcell r (List.mem_of_getElem? hr)⟩
    have := V.slf (T := T) (c := cx0 W) e (rows.map (wrapT T e)) g o cap us hg (by rw [hlen']; exact hl) hm (by rw [hlen', b1, hkn.2]) (fun j u hj => b4 j u hj) b5
      (fun i x hx => by obtain ⟨r, _, hr, hc⟩ := key i x hx; rw [hc, (b3 r hr).1.len, hkn.2])
      (fun i x hx j y hy => by obtain ⟨r, _, hr, hc⟩ := key i x hx; rw [hc] at hy; exact ((b3 r hr).2 y (List.mem_of_getElem? hy)).1)
      (fun i x j y u hx hy hu => by obtain ⟨r, hri, hr, hc⟩ := key i x hx; rw [hc] at hy; rw [hkn.2] at hu; exact b6 i r j y u hri hy hu)
    rwa [hlen'] at this
theorem slice_cell_in {T : Tab} (hT : TabOk P T) {H : Type} {enc : TypeId × Value → H} {W : World} {t e : TypeId} {n b0 fuel : Nat} {ks : List LK} {v : Value} {x : DataW H × List MemPlace} (hd : T.desc t = .slice e) (hk : kindsA T n e = some ks)
    (hok : Cell.okWide P W .any b0 t v) (hf : DataW.trod enc P W 0 (fun _ => true) true fuel t [v] = some x) : ∃ rows : List (List AV), (∀ r ∈ rows, FitA ks r) ∧ V T (cx0 W) (.sl .fz e (rows.map (wrapT T e))) v ∧ ((∀ m ∈ x.1.weights P t, m ≤ reachBytes) → rows.length * P.bytesOf e ≤ reachBytes) := by
  obtain ⟨rows, h1, h2, h3, _⟩ := slice_cell_in2 hT hd hk hok hf
  exact ⟨rows, h1, h2, h3⟩
end Go.Proofs.YtbpcofnhndgoeaaDoor.A

/- A function that is handed a slice of its caller's own for good. -/
namespace Go.Proofs.YtbpcofnhndgoeaaDoor.A
open Go
variable {P : Program} {E : En}
/-- A contract, wherever own slices come in. -/
def FnOkG (P : Program) (T : Tab) (f : FuncId) (S : List AV → List Box → (AV → List Box → Prop) → Prop) : Prop := Enters P f ∧ ∀ (args : List AV) (bs : List Box) (K : AV → List Box → Prop), S args bs K → ∀ (c : Cx) (vs : List Value), c.Ok → VL T c args vs → BoxesAt T c bs →
  Calls P f vs.toArray c.w fun e w' => ∃ v c' res out, e = .returned v ∧ c'.w = w' ∧ c'.Ok ∧ Step c c' ∧ V T c' res v ∧ BoxesAt T c' out ∧ K res out
/-- It is a contract. -/
theorem FnOkG.fn {T : Tab} {f : FuncId} {S : List AV → List Box → (AV → List Box → Prop) → Prop} (h : FnOkG P T f S) : FnOk P T f S := ⟨h.1, fun args bs K hS c vs hok _ hV hB => h.2 args bs K hS c vs hok hV hB⟩
theorem fn_okG (hT : TabOk P E.T) (hC : CallOk P E.T E.R) (hJ : JOk P E.T E.J) {f : FuncId} {fn : Func} {code : Code} (hf : P.funcs[f]? = some fn) (hname : (fn.name == "runtime.NumGoroutine") = false) (hb : fn.body = some code) (hk : (okD E.pl fn.ntmps code && Nat.ble fn.ntmps 1000000) = true)
    {S : List AV → List Box → (AV → List Box → Prop) → Prop} (h : ∀ args bs K, S args bs K → Nat.ble args.length fn.ntmps = true ∧ wpA E code (bodyA E.T fn bs K) (enterA args bs)) : FnOkG P E.T f S := by
  refine ⟨fun args w => ?_, fun args bs K hS c vs hok hV hB => ?_⟩
  · have hne : ¬ (fn.name = "runtime.NumGoroutine") := by simpa using hname
    simp [callFunc, hf, hne, hb]
  · obtain ⟨hlen, hwp⟩ := h args bs K hS
    have hlen := Nat.le_of_ble_eq_true hlen
    simp only [Bool.and_eq_true] at hk
    refine calls_of_wp hf hb ?_
    have hsz : (vs.toArray ++ Array.replicate (fn.ntmps - vs.toArray.size) undef).size = fn.ntmps := by
      have := hV.1
      simp
      omega
    have hR : Rel E.T (fun _ => undef) c (enterA args bs) { tmps := vs.toArray ++ Array.replicate (fn.ntmps - vs.toArray.size) undef, defers := [] } := by
      refine ⟨hok, fun j => ?_, fun b x hx => ?_, rfl, enterA_hid args bs⟩
      · simp only [enterA]
        cases ha : args[j]? with
        | none => exact .bad _
        | some x =>
          have hj := (List.getElem?_eq_some_iff.1 ha).1
          have hj' : j < vs.length := by rw [← hV.1]; exact hj
          have : vals (fun _ => undef) { tmps := vs.toArray ++ Array.replicate (fn.ntmps - vs.toArray.size) undef, defers := [] } j = vs[j] := by
            have hm := Nat.le_of_ble_eq_true hk.2
            rw [vals, if_pos (by omega), Array.getD_eq_getD_getElem?, Array.getElem?_append_left (by simpa using hj')]
            simp [hj']
          rw [this]
          exact hV.2 j x _ ha (List.getElem?_eq_getElem hj')
      · simp only [enterA] at hx
        split at hx
        · rename_i hb
          rw [Bool.and_eq_true] at hb
          have hb := Nat.le_of_ble_eq_true hb.1
          obtain ⟨g, h1, h2⟩ := hB _ x hx
          rw [show 1000000000 + (b - 1000000000) = b by omega] at h1
          exact ⟨g, h1, h2⟩
        · cases hx
    refine Code.wp_mono (fun e a w q => ?_) (wpA_sound hT hC hJ (Nat.le_of_ble_eq_true hk.2) code _ c _ _ hk.1 (.refl c) hR hsz hwp)
    have fin : ∀ (c' : Cx) (s' : St), c'.w = w → Step c c' → Rel E.T (fun _ => undef) c' s' a → bodyA E.T fn bs K .ret s' → a.defers = [] ∧ ∃ v, (results fn a.tmps).run P w = .ok v w ∧ (∃ v' c'' res out, Ending.returned v = .returned v' ∧ c''.w = w ∧ c''.Ok ∧ Step c c'' ∧ V E.T c'' res v' ∧ BoxesAt E.T c'' out ∧ K res out) := by
      intro c' s' hw h2 h3 h5
      subst hw
      simp only [bodyA] at h5
      split at h5
      · rename_i v out hv ho
        rw [force_iff] at h5
        obtain ⟨u, h6, h7⟩ := ret_sound hT h3 hv
        refine ⟨h3.d, u, h6, u, c', v, out, rfl, rfl, h3.ok, h2, h7, fun i x hx => ?_, h5⟩
        have := out_sound h3 _ _ _ ho i x hx
        rwa [Nat.zero_add] at this
      · exact h5.elim
    cases e with
    | normal => obtain ⟨c', s', h1, h2, h3, h4, h5⟩ := q; exact fin c' s' h1 h2 h3 h5
    | ret => obtain ⟨c', s', h1, h2, h3, h4, h5⟩ := q; exact fin c' s' h1 h2 h3 h5
    | exit i => obtain ⟨c', s', h1, h2, h3, h4, h5⟩ := q; exact h5.elim
    | _ => exact q.elim
/-- Of numbers. -/
def nums (k : IntKind) (e : TypeId) (g : Tag) (l : List Int) : AV := .sl g e (l.map (AV.int k))
def plainL : List AV → Prop
  | [] => True
  | x :: xs => (∃ k n, x = .int k n) ∧ plainL xs
theorem plainL.vl {T : Tab} {c c' : Cx} : ∀ {l : List AV} {us : List Value}, plainL l → VL T c l us → VL T c' l us
  | [], [], _, _ => VL.nil
  | [], _ :: _, _, h => absurd h.1 (by simp)
  | _ :: _, [], _, h => absurd h.1 (by simp)
  | x :: xs, u :: us, hp, h => by
    obtain ⟨⟨k, n, rfl⟩, hp⟩ := hp
    have h0 := (h.2 0 _ u rfl rfl).int_inv
    subst h0
    exact VL.cons (.int k n) (plainL.vl hp ⟨by simpa using h.1, fun i x' u' hx hu => h.2 (i + 1) x' u' (by simpa using hx) (by simpa using hu)⟩)
/-- The first one is handed over: what comes back bears its number (N0, where it was nil). -/
def giveJ (S : List AV → List Box → (AV → List Box → Prop) → Prop) (k : IntKind) (e : TypeId) (N0 : Nat) : StSpec := fun args s K => ∃ (x : AV) (rest : List AV), args = x :: rest ∧ plainL rest ∧
  ((∃ F l, x = nums k e (.own F) l ∧ S (nums k e (.own 0) l :: rest) [] (fun res _ => ∃ G l', res = nums k e (.own G) l' ∧ K (nums k e (.own F) l') (s.mapA (drpF F)))) ∨
   (∃ e0, x = .sl .nl e0 [] ∧ S (x :: rest) [] (fun res _ => ∃ G l', res = nums k e (.own G) l' ∧ K (nums k e (.own N0) l') (s.mapA (drpF N0)))))
theorem nums_move {T : Tab} {c c' : Cx} {k : IntKind} {e : TypeId} {l : List Int} {F G : Nat} {v : Value} (h : V T c (nums k e (.own F) l) v) (hw : c'.w = c.w) (hF : ∀ g, c.fm F = some g → v.ownBlock = some g → c'.fm G = some g) : V T c' (nums k e (.own G) l) v := by
  unfold nums at h ⊢
  generalize hxs : l.map (AV.int k) = xs at h ⊢
  cases h with
  | nilsl => exact .nilsl _ _
  | slo _ _ _ _ g us hF' hv ho h1 hs hf h =>
    refine .slo G e xs v g us (hF g hF' hv) hv (by rw [hw]; exact ho) h1 hs hf fun i x j y u hx hy hu => ?_
    have h0 := h i x j y u hx hy hu
    rw [← hxs, List.getElem?_map] at hx
    cases hl : l[i]? with
    | none => rw [hl] at hx; cases hx
    | some n =>
      rw [hl] at hx
      cases hx
      have hy : [AV.int k n][j]? = some y := hy
      cases j with
      | zero =>
        cases hy
        rw [h0.int_inv]
        exact .int k n
      | succ j => simp at hy
theorem give_ok {T : Tab} {f : FuncId} {S : List AV → List Box → (AV → List Box → Prop) → Prop} (h : FnOkG P T f S) (k : IntKind) (e : TypeId) (N0 : Nat) : SOk P T f (giveJ S k e N0) := by
  refine ⟨h.1, fun args s K hS ρ c a vs hR hV => ?_⟩
  obtain ⟨x, rest, rfl, hp, hS⟩ := hS
  match vs, hV with
  | v0 :: vs, hV =>
    have hv0 := hV.2 0 _ v0 rfl rfl
    have hvr : VL T c rest vs := ⟨by simpa using hV.1, fun i x' u' hx hu => hV.2 (i + 1) x' u' (by simpa using hx) (by simpa using hu)⟩
    -- what the two cases share: F, the number that what comes back bears; og: the block that was handed over
    have key : ∀ (F : Nat) (og : Option Nat) (x0 : AV), (∀ g, og = some g → c.fm F = some g) → V T ⟨c.w, c.Z, fun _ => none, fun G => if G = 0 then og else none⟩ x0 v0 →
        S (x0 :: rest) [] (fun res _ => ∃ G l', res = nums k e (.own G) l' ∧ K (nums k e (.own F) l') (s.mapA (drpF F))) →
        Calls P f (v0 :: vs).toArray c.w fun e w' => ∃ v c' s' res, e = .returned v ∧ c'.w = w' ∧ Step c c' ∧ Rel T ρ c' s' a ∧ V T c' res v ∧ K res s' := by
      intro F og x0 hog hx0 hS0
      have ok0 : Cx.Ok ⟨c.w, c.Z, fun _ => none, fun G => if G = 0 then og else none⟩ := by
        have hcase : ∀ G g, (if G = 0 then og else none) = some g → G = 0 ∧ c.fm F = some g := fun G g hg => by
          split at hg
          · rename_i h0; exact ⟨h0, hog g hg⟩
          · cases hg
        exact ⟨hR.ok.zlt, fun _ _ h => (by cases h), fun G g hg => hR.ok.flt F g (hcase G g hg).2, fun _ _ h => (by cases h), fun G g hG hg => hR.ok.zf F g (hcase G g hG).2 hg, fun _ _ _ h => (by cases h), fun G G' g h1 h2 => (hcase G g h1).1.trans (hcase G' g h2).1.symm, fun _ _ _ h => (by cases h), hR.ok.gl⟩
      refine Calls.mono (h.2 _ _ _ hS0 ⟨c.w, c.Z, fun _ => none, fun G => if G = 0 then og else none⟩ (v0 :: vs) ok0 (VL.cons hx0 (hp.vl hvr)) (fun i x hx => by simp at hx)) ?_
      rintro e' w' ⟨v, c', res, out, rfl, rfl, ok', hS, hres, -, G, l', rfl, hK⟩
      have hwr : ∀ g, Wr ⟨c.w, c.Z, fun _ => none, fun G => if G = 0 then og else none⟩ g → c.fm F = some g := fun g hg => by
        rcases hg with ⟨b, hb⟩ | ⟨G, hG⟩
        · cases hb
        · have hG : (if G = 0 then og else none) = some g := hG
          split at hG
          · exact hog g hG
          · cases hG
      have hopt : ∀ g, (v.ownBlock.bind fun g => if c'.fm G = some g then some g else none) = some g → g < c'.w.heap.size ∧ (c.fm F = some g ∨ c.w.heap.size ≤ g) := fun g hg => by
        obtain ⟨g', _, h2⟩ := Option.bind_eq_some_iff.1 hg
        split at h2
        · rename_i h3
          cases h2
          exact ⟨ok'.flt G g h3, (hS.wr g (.inr ⟨G, h3⟩)).imp (hwr g) id⟩
        · cases h2
      obtain ⟨h1, h2⟩ := hR.fam F c'.w (v.ownBlock.bind fun g => if c'.fm G = some g then some g else none) hS.size hS.os hS.tape hS.output (fun g hg hn => hS.blk g hg (fun hw => hn (hwr g hw))) hopt
      refine ⟨v, ⟨c'.w, c.Z, c.bk, upd c.fm F (v.ownBlock.bind fun g => if c'.fm G = some g then some g else none)⟩, _, _, rfl, rfl, h1, h2, ?_, hK⟩
      refine nums_move (c := c') (F := G) hres rfl fun g hg hv => ?_
      show upd c.fm F _ F = some g
      rw [upd_eq, hv]
      simp [hg]
    rcases hS with ⟨F, l, rfl, hS⟩ | ⟨e0, rfl, hS⟩
    · refine key F (c.fm F) _ (fun g hg => hg) ?_ hS
      exact nums_move hv0 rfl fun g hg _ => hg
    · refine key N0 none _ (fun g hg => by cases hg) ?_ hS
      cases hv0
      exact .nilsl _ _
  | [], hV => exact absurd hV.1 (by simp)
end Go.Proofs.YtbpcofnhndgoeaaDoor.A

/- A method that is handed a pointer to a variable whose cells lead to nothing that is written. -/
namespace Go.Proofs.YtbpcofnhndgoeaaDoor.A
open Go
variable {P : Program}
abbrev flatL (l : List AV) : Prop := all? AV.flat l = true
theorem flat_mem {l : List AV} (h : flatL l) : ∀ x ∈ l, x.flat = true := by
  induction l with
  | nil => intro x hx; simp at hx
  | cons y l ih =>
    have h : (y.flat && all? AV.flat l) = true := h
    rw [Bool.and_eq_true] at h
    intro x hx
    rcases List.mem_cons.1 hx with rfl | hx
    · exact h.1
    · exact ih h.2 x hx
theorem flat_vl {T : Tab} {c c' : Cx} {l : List AV} {us : List Value} (hf : flatL l) (hZ : ∀ g, c.Z g → c'.Z g ∧ c'.w.heap[g]? = c.w.heap[g]?) (h : VL T c l us) : VL T c' l us :=
  ⟨h.1, fun i x u hx hu => (h.2 i x u hx hu).flat_move hZ (flat_mem hf x (List.mem_of_getElem? hx))⟩
theorem flat_leaves {T : Tab} {c c' : Cx} {x : AV} {v : Value} (h : V T c x v) (hf : flatL x.leaves) (hZ : ∀ g, c.Z g → c'.Z g ∧ c'.w.heap[g]? = c.w.heap[g]?) : V T c' x v := by
  have := h.trM (c' := c') (φ := fun y => y) fun y hy _ v hv => hv.flat_move hZ (flat_mem hf y hy)
  rwa [tr_id] at this
abbrev flatC (l : List AV) : Prop := all? (fun x => all? AV.flat x.cells) l = true
theorem flatC_mem : ∀ {l : List AV}, flatC l → ∀ x ∈ l, flatL x.cells
  | [], _, x, hx => by simp at hx
  | y :: l, h, x, hx => by
    have h : (all? AV.flat y.cells && all? (fun x => all? AV.flat x.cells) l) = true := h
    rw [Bool.and_eq_true] at h
    rcases List.mem_cons.1 hx with rfl | hx
    · exact h.1
    · exact flatC_mem h.2 x hx
theorem flatC_move {T : Tab} {c c' : Cx} {x : AV} {v : Value} (h : V T c x v) (hf : flatL x.cells) (hZ : ∀ g, c.Z g → c'.Z g ∧ c'.w.heap[g]? = c.w.heap[g]?) : V T c' x v := by
  cases x with
  | agg cs =>
    obtain ⟨us, rfl, hv⟩ := h.agg_inv
    exact (flat_vl (l := cs) hf hZ hv).agg
  | _ => exact h.flat_move hZ (flat_mem hf _ (List.mem_singleton.2 rfl))
theorem flatC_vl {T : Tab} {c c' : Cx} {l : List AV} {us : List Value} (hf : flatC l) (hZ : ∀ g, c.Z g → c'.Z g ∧ c'.w.heap[g]? = c.w.heap[g]?) (h : VL T c l us) : VL T c' l us :=
  ⟨h.1, fun i x u hx hu => flatC_move (h.2 i x u hx hu) (flatC_mem hf x (List.mem_of_getElem? hx)) hZ⟩
/-- A method: its receiver's cells, and what it leaves there. -/
def ptrJ (S : List AV → List Box → (AV → List Box → Prop) → Prop) : StSpec := fun args s K => ∃ (b : Nat) (e : TypeId) (cs rest : List AV), args = .ptr b 0 :: rest ∧ s.h b = some (.cells e cs) ∧ flatC rest ∧ flatL cs ∧
  S (.ptr 1000000000 0 :: rest) [.cells e cs] (fun res out => ∃ cs', out = [.cells e cs'] ∧ flatL cs' ∧ flatL res.leaves ∧ K res (s.box b (.cells e cs')))
theorem ptr_ok {T : Tab} {f : FuncId} {S : List AV → List Box → (AV → List Box → Prop) → Prop} (h : FnOk P T f S) : SOk P T f (ptrJ S) := by
  refine ⟨h.1, fun args s K hS ρ c a vs hR hV => ?_⟩
  obtain ⟨b, e, cs, rest, rfl, hbox, hrest, hcs, hS⟩ := hS
  match vs, hV with
  | [], hV => exact absurd hV.1 (by simp)
  | v0 :: vs, hV =>
    obtain ⟨g, hg, rfl⟩ := (hV.2 0 _ v0 rfl rfl).ptr_inv
    have hvr : VL T c rest vs := ⟨by simpa using hV.1, fun i x' u' hx hu => hV.2 (i + 1) x' u' (by simpa using hx) (by simpa using hu)⟩
    obtain ⟨g', hg', us, hblk, hcv, h1c⟩ := hR.h b _ hbox
    obtain rfl : g' = g := Option.some.inj (hg'.symm.trans hg)
    let c0 : Cx := ⟨c.w, c.Z, fun n => if n = 1000000000 then some g' else none, fun _ => none⟩
    have hb0 : ∀ n k, c0.bk n = some k → n = 1000000000 ∧ k = g' := fun n k hk => by
      have hk : (if n = 1000000000 then some g' else none) = some k := hk
      split at hk
      · rename_i hn; exact ⟨hn, (Option.some.inj hk).symm⟩
      · cases hk
    have hbk0 : c0.bk 1000000000 = some g' := rfl
    have ok0 : c0.Ok := ⟨hR.ok.zlt, fun n k hk => by rw [(hb0 n k hk).2]; exact hR.ok.blt b g' hg, fun _ _ h => (by cases h), fun n k hk => by rw [(hb0 n k hk).2]; exact hR.ok.zb b g' hg, fun _ _ h => (by cases h), fun n n' k h1 h2 => (hb0 n k h1).1.trans (hb0 n' k h2).1.symm, fun _ _ _ h => (by cases h), fun _ _ _ _ h => (by cases h), hR.ok.gl⟩
    have hZ0 : ∀ k, c.Z k → c0.Z k ∧ c0.w.heap[k]? = c.w.heap[k]? := fun k hk => ⟨hk, rfl⟩
    refine Calls.mono (h.2 _ _ _ hS c0 (.pointer (some ⟨g', 0, none⟩) :: vs) ok0 (fun _ => rfl) (VL.cons (.ptr _ _ g' hbk0) (flatC_vl hrest hZ0 hvr)) ?_) ?_
    · intro i x hx
      cases i with
      | zero => cases hx; exact ⟨g', hbk0, us, hblk, flat_vl hcs hZ0 hcv, h1c⟩
      | succ i => simp at hx
    rintro _ w' ⟨v, c', res, out, rfl, rfl, ok', hS, hres, hout, cs', rfl, hcs', hrl, hK⟩
    obtain ⟨g2, hg2, us', hblk', hcv', h1c'⟩ := hout 0 _ rfl
    have hg2' : c'.bk 1000000000 = some g' := (hS.bk 1000000000 (Nat.le_refl _) (by omega)).trans hbk0
    obtain rfl : g2 = g' := Option.some.inj (hg2.symm.trans hg2')
    have hwr : ∀ k, Wr c0 k → k = g2 := fun k hk => by
      rcases hk with ⟨n, hn⟩ | ⟨F, hF⟩
      · exact (hb0 n k hn).2
      · cases hF
    have hold : ∀ k, k < c.w.heap.size → k ≠ g2 → c'.w.heap[k]? = c.w.heap[k]? := fun k hk hne => hS.blk k hk (fun hw => hne (hwr k hw))
    let c'' : Cx := ⟨c'.w, fun k => c.Z k ∨ (c.w.heap.size ≤ k ∧ c'.Z k), c.bk, c.fm⟩
    have hsz : c.w.heap.size ≤ c'.w.heap.size := hS.size
    have hZ1 : ∀ k, c'.Z k → c''.Z k ∧ c''.w.heap[k]? = c'.w.heap[k]? := fun k hk => ⟨by
      rcases hS.z' k hk with h | h | h
      · exact .inl h
      · have := hwr k h
        subst this
        exact absurd hk (ok'.zb 1000000000 k hg2')
      · exact .inr ⟨h, hk⟩, rfl⟩
    have hne : ∀ k, c.Z k → k ≠ g2 := fun k hk e => hR.ok.zb b g2 hg (e ▸ hk)
    have hSt : Stays c c'' (fun _ => False) (fun _ => False) := ⟨fun k hk => ⟨.inl hk, hold k (hR.ok.zlt k hk) (hne k hk)⟩, fun n k hk _ => hk, fun F k hF _ => ⟨hF, hold k (hR.ok.flt F k hF) (fun e => hR.ok.bf b F g2 hg (e ▸ hF))⟩⟩
    have ok'' : c''.Ok := by
      refine ⟨fun k hk => hk.elim (fun h => Nat.lt_of_lt_of_le (hR.ok.zlt k h) hsz) (fun h => ok'.zlt k h.2), fun n k hk => Nat.lt_of_lt_of_le (hR.ok.blt n k hk) hsz, fun F k hk => Nat.lt_of_lt_of_le (hR.ok.flt F k hk) hsz, fun n k hk hz => ?_, fun F k hk hz => ?_, hR.ok.bb, hR.ok.ff, hR.ok.bf, hR.ok.gl.move hSt.z⟩
      · rcases hz with hz | hz
        · exact hR.ok.zb n k hk hz
        · have := hR.ok.blt n k hk; omega
      · rcases hz with hz | hz
        · exact hR.ok.zf F k hk hz
        · have := hR.ok.flt F k hk; omega
    have hStep : Step c c'' := ⟨hsz, hS.os, hS.tape, hS.output, fun k hk hw => hold k hk (fun e => hw (.inl ⟨b, e ▸ hg⟩)), fun k hk => .inl hk, fun k hk => .inl hk, fun k hk => hk.elim .inl (fun h => .inr (.inr h.1)), fun _ _ _ => rfl⟩
    refine ⟨v, c'', _, res, rfl, rfl, hStep, ?_, flat_leaves hres hrl hZ1, hK⟩
    cases s with
    | mk t hp =>
      refine ⟨ok'', fun j => (hR.t j).move hSt, fun b' x hx => ?_, hR.d, nbox (s := ⟨t, hp⟩) hR.n (hR.lt hbox) _⟩
      by_cases hbb : b' = b
      · subst hbb
        have : x = .cells e cs' := by
          simp only [St.box, upd_eq] at hx
          exact (Option.some.inj hx).symm
        subst this
        exact ⟨g2, hg, us', hblk', flat_vl hcs' hZ1 hcv', h1c'⟩
      · simp only [St.box, upd_ne _ _ hbb] at hx
        obtain ⟨g3, h3, h4⟩ := hR.h b' x hx
        have hne3 : g3 ≠ g2 := fun e => hbb (hR.ok.bb b' b g3 h3 (e ▸ hg))
        have hh := hold g3 (hR.ok.blt b' g3 h3) hne3
        exact ⟨g3, h3, h4.moved hSt hh fun n k hn hk => ⟨hk, hold k (hR.ok.blt n k hk) fun e => absurd (hR.ok.bb n b k hk (e ▸ hg)) (by have := hR.lt hbox; omega)⟩⟩
end Go.Proofs.YtbpcofnhndgoeaaDoor.A

/- What a call is handed is written no more. -/
namespace Go.Proofs.YtbpcofnhndgoeaaDoor.A
open Go
variable {P : Program}
/-- All own slices that are handed over are written no more; then the call. -/
noncomputable def frzJ (j : StSpec) : StSpec := fun args s K => addH (AV.famsL args) [] fun fs => j (mapq (fun x => AV.frzAllq x fs) args) (s.frzAllq fs) K
theorem frz_ok {T : Tab} {f : FuncId} {j : StSpec} (h : SOk P T f j) : SOk P T f (frzJ j) := by
  refine ⟨h.1, fun args s K hS ρ c a vs hR hV => ?_⟩
  unfold frzJ at hS
  rw [addH_iff, List.append_nil, mapq_eq, vfrz_eq, sfrz_eq] at hS
  obtain ⟨c1, h1, h2, h3, h4, h5⟩ := Rel.frzAll (AV.famsL args) hR
  have hV' : VL T c1 (args.map fun x => x.frzAll (AV.famsL args)) vs := ⟨by rw [List.length_map]; exact hV.1, fun i x u hx hu => by
    rw [List.getElem?_map] at hx
    cases hq : args[i]? with
    | none => rw [hq] at hx; cases hx
    | some y => rw [hq] at hx; cases hx; exact h5 _ _ (hV.2 i y u hq hu)⟩
  have := h.2 _ _ _ hS ρ c1 a vs h4 hV'
  rw [h2] at this
  refine this.mono ?_
  rintro e w' ⟨v, c', s', res, rfl, rfl, k1, k2, k3, k4⟩
  exact ⟨v, c', s', res, rfl, rfl, h1.trans k1, k2, k3, k4⟩
def Box.frz (x : Box) : List Nat → Box
  | [] => x
  | F :: Fs => (x.mapA (AV.tr (frzF F))).frz Fs
noncomputable def Box.frzq (x : Box) (l : List Nat) : Box := List.rec (motive := fun _ => Box → Box) (fun x => x) (fun F _ ih x => ih (Box.mapq (frzFq F) x)) l x
theorem bfrz_eq : Box.frzq = Box.frz := by
  funext s l
  induction l generalizing s with
  | nil => rfl
  | cons F l ih =>
    show Box.frzq (Box.mapq (frzFq F) s) l = Box.frz (s.mapA (AV.tr (frzF F))) l
    rw [ih, boxq_eq, frzFq_eq]
theorem frzAll_h : ∀ (fs : List Nat) (s : St) (b : Nat), (s.frzAll fs).h b = (s.h b).map fun x => x.frz fs
  | [], s, b => by cases hq : s.h b <;> simp [St.frzAll, Box.frz, hq]
  | F :: fs, s, b => by
    rw [St.frzAll, frzAll_h fs]
    obtain ⟨t, h⟩ := s
    simp only [St.mapA]
    cases h b <;> rfl
theorem Rel.frzAllB {T : Tab} {ρ : Nat → Value} : ∀ (Fs : List Nat) {c : Cx} {s : St} {a : Act}, Rel T ρ c s a → ∃ c', Step c c' ∧ c'.w = c.w ∧ c'.bk = c.bk ∧ c'.Ok ∧ (∀ x v, V T c x v → V T c' (x.frzAll Fs) v) ∧ ∀ g x, BoxAt T c g x → BoxAt T c' g (x.frz Fs)
  | [], c, s, a, h => ⟨c, .refl c, rfl, rfl, h.ok, fun _ _ h => h, fun _ _ h => h⟩
  | F :: Fs, c, s, a, h => by
    obtain ⟨h1, h2, h3⟩ := h.frz F
    obtain ⟨c', h4, h5, hb, h6, h7, h8⟩ := Rel.frzAllB Fs h2
    exact ⟨c', h1.trans h4, h5, hb, h6, fun x v hx => h7 _ _ (h3 x v hx), fun g x hx => h8 g _ (hx.tr (fun y v hy hl => by have := h3 y v hy; rwa [tr_leaf _ hl] at this) rfl fun b k _ hk => ⟨hk, rfl⟩)⟩
/-- Own slices of a result, and of the boxes behind a call, as slices that nobody writes. -/
theorem FnOk.frzB {T : Tab} {f : FuncId} {S : List AV → List Box → (AV → List Box → Prop) → Prop} (h : FnOk P T f S) : FnOk P T f (fun args bs K => S args bs (fun res out => ∃ fs : List Nat, ∃ res' out', AV.frzAllq res fs = res' ∧ mapq (fun x => Box.frzq x fs) out = out' ∧ K res' out')) := by
  refine ⟨h.1, fun args bs K hS c vs hok hfm hV hB => ?_⟩
  refine Calls.mono (h.2 args bs _ hS c vs hok hfm hV hB) ?_
  rintro e w' ⟨v, c', res, out, rfl, rfl, ok', hst, hres, hout, fs, res', out', rfl, rfl, hK⟩
  rw [vfrz_eq, mapq_eq, bfrz_eq] at hK
  have hR : Rel T (fun _ => undef) c' ⟨fun _ => .bad, fun _ => none⟩ { tmps := #[], defers := [] } := ⟨ok', fun j => .bad _, fun b x hx => (by cases hx), rfl, fun _ _ => rfl⟩
  obtain ⟨c'', h1, h2, hbk, h4, h5, h6⟩ := Rel.frzAllB fs hR
  refine ⟨v, c'', _, _, rfl, h2, h4, hst.trans h1, h5 _ _ hres, fun i x hx => ?_, hK⟩
  rw [List.getElem?_map] at hx
  cases hq : out[i]? with
  | none => rw [hq] at hx; cases hx
  | some y =>
    rw [hq] at hx
    cases hx
    obtain ⟨g, hg, hy⟩ := hout i y hq
    exact ⟨g, by rw [hbk]; exact hg, h6 g y hy⟩
/-- A method whose result bears own slices: they are named from lo on. -/
noncomputable def ptrO (lo : Nat) (S : List AV → List Box → (AV → List Box → Prop) → Prop) : StSpec := fun args s K => ∃ (b : Nat) (e : TypeId) (cs rest : List AV), args = .ptr b 0 :: rest ∧ s.h b = some (.cells e cs) ∧ flatC rest ∧ flatL cs ∧
  S (.ptr 1000000000 0 :: rest) [.cells e cs] (fun res out => ∃ cs', out = [.cells e cs'] ∧ flatL cs' ∧ ((AV.ptrs res).isEmpty && Nat.blt res.fams.length 1000) = true ∧ K (AV.trq (renFq fun F => lo + idx F res.fams) res) ((s.mapQ (drpRq lo (lo + 1000))).box b (.cells e cs')))
theorem ptrO_ok {T : Tab} {f : FuncId} {S : List AV → List Box → (AV → List Box → Prop) → Prop} (lo : Nat) (h : FnOk P T f S) : SOk P T f (ptrO lo S) := by
  refine ⟨h.1, fun args s K hS ρ c a vs hR hV => ?_⟩
  obtain ⟨b, e, cs, rest, rfl, hbox, hrest, hcs, hS⟩ := hS
  match vs, hV with
  | [], hV => exact absurd hV.1 (by simp)
  | v0 :: vs, hV =>
    obtain ⟨g, hg, rfl⟩ := (hV.2 0 _ v0 rfl rfl).ptr_inv
    have hvr : VL T c rest vs := ⟨by simpa using hV.1, fun i x' u' hx hu => hV.2 (i + 1) x' u' (by simpa using hx) (by simpa using hu)⟩
    obtain ⟨g', hg', us, hblk, hcv, h1c⟩ := hR.h b _ hbox
    obtain rfl : g' = g := Option.some.inj (hg'.symm.trans hg)
    let c0 : Cx := ⟨c.w, c.Z, fun n => if n = 1000000000 then some g' else none, fun _ => none⟩
    have hb0 : ∀ n k, c0.bk n = some k → n = 1000000000 ∧ k = g' := fun n k hk => by
      have hk : (if n = 1000000000 then some g' else none) = some k := hk
      split at hk
      · rename_i hn; exact ⟨hn, (Option.some.inj hk).symm⟩
      · cases hk
    have hbk0 : c0.bk 1000000000 = some g' := rfl
    have ok0 : c0.Ok := ⟨hR.ok.zlt, fun n k hk => by rw [(hb0 n k hk).2]; exact hR.ok.blt b g' hg, fun _ _ h => (by cases h), fun n k hk => by rw [(hb0 n k hk).2]; exact hR.ok.zb b g' hg, fun _ _ h => (by cases h), fun n n' k h1 h2 => (hb0 n k h1).1.trans (hb0 n' k h2).1.symm, fun _ _ _ h => (by cases h), fun _ _ _ _ h => (by cases h), hR.ok.gl⟩
    have hZ0 : ∀ k, c.Z k → c0.Z k ∧ c0.w.heap[k]? = c.w.heap[k]? := fun k hk => ⟨hk, rfl⟩
    refine Calls.mono (h.2 _ _ _ hS c0 (.pointer (some ⟨g', 0, none⟩) :: vs) ok0 (fun _ => rfl) (VL.cons (.ptr _ _ g' hbk0) (flatC_vl hrest hZ0 hvr)) ?_) ?_
    · intro i x hx
      cases i with
      | zero => cases hx; exact ⟨g', hbk0, us, hblk, flat_vl hcs hZ0 hcv, h1c⟩
      | succ i => simp at hx
    rintro _ w' ⟨v, c', res, out, rfl, rfl, ok', hS, hres, hout, cs', rfl, hcs', hb, hK⟩
    rw [mapQ_eq, drpRq_eq, trq_eq, renFq_eq] at hK
    rw [Bool.and_eq_true, List.isEmpty_iff] at hb
    obtain ⟨hpr, hlt⟩ := hb
    have hlt' : res.fams.length < 1000 := Nat.le_of_ble_eq_true hlt
    obtain ⟨g2, hg2, us', hblk', hcv', h1c'⟩ := hout 0 _ rfl
    have hg2' : c'.bk 1000000000 = some g' := (hS.bk 1000000000 (Nat.le_refl _) (by omega)).trans hbk0
    obtain rfl : g2 = g' := Option.some.inj (hg2.symm.trans hg2')
    have hwr : ∀ k, Wr c0 k → k = g2 := fun k hk => by
      rcases hk with ⟨n, hn⟩ | ⟨F, hF⟩
      · exact (hb0 n k hn).2
      · cases hF
    have hold : ∀ k, k < c.w.heap.size → k ≠ g2 → c'.w.heap[k]? = c.w.heap[k]? := fun k hk hne => hS.blk k hk (fun hw => hne (hwr k hw))
    have hsz : c.w.heap.size ≤ c'.w.heap.size := hS.size
    have hnew : ∀ F k, c'.fm F = some k → c.w.heap.size ≤ k := fun F k hF => (hS.wr k (.inr ⟨F, hF⟩)).elim (fun hw => by
      have := hwr k hw
      subst this
      exact (ok'.bf 1000000000 F k hg2' hF).elim) id
    obtain ⟨hi, hhi⟩ : ∃ hi, hi = lo + 1000 := ⟨_, rfl⟩
    rw [← hhi] at hK
    let nm : Nat → Option Nat := fun G => if lo ≤ G then (match res.fams[G - lo]? with
      | some F => if idx F res.fams = G - lo then c'.fm F else none
      | none => none) else none
    have hnm : ∀ G k, nm G = some k → ∃ F, lo ≤ G ∧ idx F res.fams = G - lo ∧ c'.fm F = some k := by
      intro G k hk
      simp only [nm] at hk
      split at hk
      · cases hq : res.fams[G - lo]? with
        | none => rw [hq] at hk; cases hk
        | some F =>
          rw [hq] at hk
          simp only at hk
          split at hk
          · exact ⟨F, by assumption, by assumption, hk⟩
          · cases hk
      · cases hk
    let cf : Cx := ⟨c'.w, fun k => c.Z k ∨ (c.w.heap.size ≤ k ∧ c'.Z k), c.bk, fmR lo hi nm c.fm⟩
    have hcase : ∀ G k, cf.fm G = some k → ((lo ≤ G ∧ G < hi) ∧ nm G = some k) ∨ (¬ (lo ≤ G ∧ G < hi) ∧ c.fm G = some k) := by
      intro G k hk
      have hk : fmR lo hi nm c.fm G = some k := hk
      unfold fmR at hk
      split at hk
      · rename_i hh; exact .inl ⟨hh, hk⟩
      · rename_i hh; exact .inr ⟨hh, hk⟩
    have hZ1 : ∀ k, c'.Z k → cf.Z k ∧ cf.w.heap[k]? = c'.w.heap[k]? := fun k hk => ⟨by
      rcases hS.z' k hk with h | h | h
      · exact .inl h
      · have := hwr k h
        subst this
        exact absurd hk (ok'.zb 1000000000 k hg2')
      · exact .inr ⟨h, hk⟩, rfl⟩
    have hne : ∀ k, c.Z k → k ≠ g2 := fun k hk e => hR.ok.zb b g2 hg (e ▸ hk)
    have hnf : ∀ F k, c.fm F = some k → k ≠ g2 := fun F k hk e => hR.ok.bf b F g2 hg (e ▸ hk)
    have hSt : Stays c cf (fun G => lo ≤ G ∧ G < hi) (fun _ => False) := ⟨fun k hk => ⟨.inl hk, hold k (hR.ok.zlt k hk) (hne k hk)⟩, fun n k hk _ => hk, fun F k hF hn => ⟨by show fmR lo hi nm c.fm F = _; unfold fmR; rw [if_neg hn]; exact hF, hold k (hR.ok.flt F k hF) (hnf F k hF)⟩⟩
    have okf : cf.Ok := by
      refine ⟨fun k hk => hk.elim (fun h => Nat.lt_of_lt_of_le (hR.ok.zlt k h) hsz) (fun h => ok'.zlt k h.2), fun n k hk => Nat.lt_of_lt_of_le (hR.ok.blt n k hk) hsz, fun G k hk => ?_, fun n k hk hz => ?_, fun G k hG hz => ?_, hR.ok.bb, fun G G' k hG hG' => ?_, fun n G k hn hG => ?_, hR.ok.gl.move hSt.z⟩
      · rcases hcase G k hk with ⟨_, h⟩ | ⟨_, h⟩
        · obtain ⟨F, _, _, hF⟩ := hnm G k h; exact ok'.flt F k hF
        · exact Nat.lt_of_lt_of_le (hR.ok.flt G k h) hsz
      · rcases hz with hz | hz
        · exact hR.ok.zb n k hk hz
        · have := hR.ok.blt n k hk; omega
      · rcases hcase G k hG with ⟨_, h⟩ | ⟨_, h⟩
        · obtain ⟨F, _, _, hF⟩ := hnm G k h
          rcases hz with hz | hz
          · have := hR.ok.zlt k hz; have := hnew F k hF; omega
          · exact ok'.zf F k hF hz.2
        · rcases hz with hz | hz
          · exact hR.ok.zf G k h hz
          · have := hR.ok.flt G k h; omega
      · rcases hcase G k hG with ⟨q1, h⟩ | ⟨_, h⟩ <;> rcases hcase G' k hG' with ⟨q2, h'⟩ | ⟨_, h'⟩
        · obtain ⟨F, k1, k2, k3⟩ := hnm G k h
          obtain ⟨F', k1', k2', k3'⟩ := hnm G' k h'
          have := ok'.ff F F' k k3 k3'
          subst this
          omega
        · obtain ⟨F, _, _, hF⟩ := hnm G k h; have := hnew F k hF; have := hR.ok.flt G' k h'; omega
        · obtain ⟨F, _, _, hF⟩ := hnm G' k h'; have := hnew F k hF; have := hR.ok.flt G k h; omega
        · exact hR.ok.ff G G' k h h'
      · rcases hcase G k hG with ⟨_, h⟩ | ⟨_, h⟩
        · obtain ⟨F, _, _, hF⟩ := hnm G k h; have := hnew F k hF; have := hR.ok.blt n k hn; omega
        · exact hR.ok.bf n G k hn h
    have key : ∀ G, (Nat.ble lo G && Nat.blt G hi) = false → ¬ (lo ≤ G ∧ G < hi) := fun G hq hh => by
      have b1 : Nat.ble lo G = true := Nat.ble_eq_true_of_le hh.1
      have b2 : Nat.blt G hi = true := Nat.ble_eq_true_of_le hh.2
      rw [b1, b2] at hq
      cases hq
    have hφ : ∀ x v, V T c x v → x.leaf = true → V T cf (drpR lo hi x) v := by
      intro x v hx hl
      have same : (∀ G ∈ x.fams, ¬ (lo ≤ G ∧ G < hi)) → V T cf x v := fun hp => hx.leaf_move hSt hl hp (fun _ _ => not_false)
      cases x <;> first | (simp [AV.leaf] at hl; done) | exact same (by simp [AV.fams]) | skip
      case sl t e xs =>
        cases t <;> first | exact same (by simp [AV.fams]) | skip
        case own G =>
          simp only [drpR]
          cases hq : (Nat.ble lo G && Nat.blt G hi) with
          | true => exact .bad _
          | false => exact same (by intro G' hG'; simp only [AV.fams, List.mem_singleton] at hG'; subst hG'; exact key _ hq)
      case pe t e i o cs =>
        cases t <;> first | exact same (by simp [AV.fams]) | skip
        case own G =>
          simp only [drpR]
          cases hq : (Nat.ble lo G && Nat.blt G hi) with
          | true => exact .bad _
          | false => exact same (by intro G' hG'; simp only [AV.fams, List.mem_singleton] at hG'; subst hG'; exact key _ hq)
    have hStep : Step c cf := ⟨hsz, hS.os, hS.tape, hS.output, fun k hk hw => hold k hk (fun e => hw (.inl ⟨b, e ▸ hg⟩)), fun k hk => by
      rcases hk with ⟨n, hn⟩ | ⟨G, hG⟩
      · exact .inl (.inl ⟨n, hn⟩)
      · rcases hcase G k hG with ⟨_, h⟩ | ⟨_, h⟩
        · obtain ⟨F, _, _, hF⟩ := hnm G k h; exact .inr (hnew F k hF)
        · exact .inl (.inr ⟨G, h⟩), fun k hk => .inl hk, fun k hk => hk.elim .inl (fun h => .inr (.inr h.1)), fun _ _ _ => rfl⟩
    have hVres : V T cf (res.tr (renF fun F => lo + idx F res.fams)) v := by
      have hS1 : Stays c' cf (fun _ => True) (fun _ => True) := ⟨hZ1, fun _ _ _ h => (h trivial).elim, fun _ _ _ h => (h trivial).elim⟩
      refine hres.trM fun y hy hl v hv => ?_
      have hyp : y.ptrs = [] := List.eq_nil_iff_forall_not_mem.2 fun b hb => by have := leaves_ptrs res y hy b hb; rw [hpr] at this; cases this
      have same : y.fams = [] → V T cf y v := fun hf => hv.leaf_move hS1 hl (by simp [hf]) (by simp [hyp])
      have hfm : ∀ F, F ∈ y.fams → ∀ k, c'.fm F = some k → cf.fm (lo + idx F res.fams) = some k := fun F hF k hk => by
        obtain ⟨k1, k2⟩ := idx_get (leaves_fams res y hy F hF)
        show fmR lo hi nm c.fm _ = _
        unfold fmR
        rw [if_pos ⟨by omega, by omega⟩]
        simp only [nm]
        rw [if_pos (by omega), show lo + idx F res.fams - lo = idx F res.fams by omega, k2]
        simp only [if_pos]
        exact hk
      cases y <;> first | (simp [AV.leaf] at hl; done) | exact same rfl | skip
      case sl t e xs =>
        cases t <;> first | exact same rfl | skip
        case own G =>
          cases hv with
          | nilsl => exact .nilsl _ _
          | slo _ _ _ _ k us hF hv ho h1 hs hf h =>
            exact .slo _ e xs v k us (hfm G (by simp [AV.fams]) k hF) hv ho h1 hs hf fun i x j y u a b d => (h i x j y u a b d).flat_move hZ1 (hf i x a j y b)
      case pe t e i o cs =>
        cases t <;> first | exact same rfl | skip
        case own G =>
          cases hv with
          | peo _ _ _ _ _ k us hF hu hl' hn hf h => exact .peo _ e i o cs k us (hfm G (by simp [AV.fams]) k hF) hu hl' hn hf fun j y u a b => (h j y u a b).flat_move hZ1 (hf j y a)
    refine ⟨v, cf, _, _, rfl, rfl, hStep, ?_, hVres, hK⟩
    obtain ⟨h3, h4⟩ := hR.map (c' := cf) hφ (fun n => n = b) (fun n k hn hnb => ⟨hn, hold k (hR.ok.blt n k hn) (fun e => hnb (hR.ok.bb n b k hn (e ▸ hg)))⟩) (fun n hn => by have := hR.lt hbox; omega)
    have hlt := hR.lt hbox
    have hnm := hR.nmap (drpR lo hi)
    obtain ⟨t, hp⟩ := s
    refine ⟨okf, h3, fun n x hx => ?_, hR.d, nbox (s := St.mapA ⟨t, hp⟩ (drpR lo hi)) hnm hlt _⟩
    by_cases hbb : n = b
    · subst hbb
      have : x = .cells e cs' := by
        simp only [St.mapA, St.box, upd_eq] at hx
        exact (Option.some.inj hx).symm
      subst this
      exact ⟨g2, hg, us', hblk', flat_vl hcs' hZ1 hcv', h1c'⟩
    · refine h4 n x ?_ hbb
      simp only [St.mapA, St.box, upd_ne _ _ hbb] at hx ⊢
      exact hx
def NilV (v v' : AV) : Prop := NilA v v' ∨ ∃ cs cs', v = .agg cs ∧ v' = .agg cs' ∧ NilL cs cs'
def NilVL : List AV → List AV → Prop
  | [], [] => True
  | v :: vs, v' :: vs' => NilV v v' ∧ NilVL vs vs'
  | _, _ => False
theorem NilVL.vl {T : Tab} {c : Cx} : ∀ {l l' : List AV} {us : List Value}, NilVL l l' → VL T c l us → VL T c l' us
  | [], [], _, _, h => h
  | [], _ :: _, _, h, _ => h.elim
  | _ :: _, [], _, h, _ => h.elim
  | v :: vs, v' :: vs', [], _, hv => absurd hv.1 (by simp)
  | v :: vs, v' :: vs', u :: us, h, hv => by
    refine VL.cons ?_ (NilVL.vl h.2 ⟨by have := hv.1; simpa using this, fun i x u' hx hu => hv.2 (i + 1) x u' (by simpa using hx) (by simpa using hu)⟩)
    have h0 := hv.2 0 v u rfl rfl
    rcases h.1 with hn | ⟨cs, cs', rfl, rfl, hl⟩
    · have : VL T c [v] [u] := VL.cons h0 VL.nil
      exact (NilL.vl (l := [v]) (l' := [v']) ⟨hn, trivial⟩ this).2 0 _ _ rfl rfl
    · obtain ⟨us', rfl, hvl⟩ := h0.agg_inv
      exact (hl.vl hvl).agg
def nil2C (S : List AV → List Box → (AV → List Box → Prop) → Prop) (args : List AV) (bs : List Box) (K : AV → List Box → Prop) : Prop := ∃ args', NilVL args args' ∧ S args' bs K
theorem FnOk.nil2 {T : Tab} {f : FuncId} {S : List AV → List Box → (AV → List Box → Prop) → Prop} (h : FnOk P T f S) : FnOk P T f (nil2C S) :=
  ⟨h.1, fun _ bs K ⟨args', hN, hS⟩ c vs hok hfm hV hB => h.2 args' bs K hS c vs hok hfm (hN.vl hV) hB⟩
/-- A result's nil slices as empty ones that nobody writes. -/
theorem FnOk.nilR {T : Tab} {f : FuncId} {S : List AV → List Box → (AV → List Box → Prop) → Prop} (h : FnOk P T f S) : FnOk P T f (fun args bs K => S args bs (fun res out => ∃ res', NilV res res' ∧ K res' out)) := by
  refine ⟨h.1, fun args bs K hS c vs hok hfm hV hB => Calls.mono (h.2 args bs _ hS c vs hok hfm hV hB) ?_⟩
  rintro e w' ⟨v, c', res, out, rfl, rfl, ok', hst, hres, hout, res', hN, hK⟩
  refine ⟨v, c', res', out, rfl, rfl, ok', hst, ?_, hout, hK⟩
  have : VL T c' [res'] [v] := NilVL.vl (l := [res]) (l' := [res']) ⟨hN, trivial⟩ (VL.cons hres VL.nil)
  exact this.2 0 _ _ rfl rfl
end Go.Proofs.YtbpcofnhndgoeaaDoor.A

/- A method of a disk: what it leaves there. -/
namespace Go.Proofs.YtbpcofnhndgoeaaDoor.A
open Go
variable {P : Program}
/-- Hidden numbers are forgotten. -/
noncomputable def fgtHq (v : AV) : AV := caseA v .sl .pe (fun c o => bif Nat.ble 2000000000 c then .bad else .ptr c o) (fun c => bif Nat.ble 2000000000 c then .bad else .mp c)
/-- No disk among the boxes. -/
noncomputable def St.noObj (s : St) : St := St.casesOn s fun t h => ⟨t, fun b => Option.rec none (fun x => Box.casesOn x (fun e cs => some (.cells e cs)) (fun es => some (.mapo es)) (fun _ => none) (fun es n => some (.mapt es n)) (fun m a l k => some (.iter m a l k))) (h b)⟩
theorem noObj_h {s : St} {b : Nat} {x : Box} (h : (s.noObj).h b = some x) : s.h b = some x ∧ ∀ d, x ≠ .obj d := by
  obtain ⟨t, hp⟩ := s
  change Option.rec none (fun x => Box.casesOn x (fun e cs => some (.cells e cs)) (fun es => some (.mapo es)) (fun _ => none) (fun es n => some (.mapt es n)) (fun m a l k => some (.iter m a l k))) (hp b) = some x at h
  show hp b = some x ∧ _
  cases hq : hp b with
  | none => rw [hq] at h; cases h
  | some y => rw [hq] at h; cases y <;> cases h <;> exact ⟨rfl, fun d hd => by cases hd⟩
theorem noObj_n {s : St} (h : ∀ b, 2000000000 ≤ b → s.h b = none) : ∀ b, 2000000000 ≤ b → (s.noObj).h b = none := by
  intro b hb
  cases hq : (s.noObj).h b with
  | none => rfl
  | some x => have h1 := (noObj_h hq).1; rw [h b hb] at h1; cases h1
/-- A box that is no disk, wherever hidden numbers went. -/
theorem BoxAt.trN {T : Tab} {c c' : Cx} {φ : AV → AV} (hφ : ∀ x v, V T c x v → x.leaf = true → V T c' (φ x) v) {g : Nat} {x : Box} (h : BoxAt T c g x) (hg : c'.w.heap[g]? = c.w.heap[g]?) (hx : ∀ d, x ≠ .obj d) : BoxAt T c' g (x.mapA (AV.tr φ)) := by
  cases x with
  | obj d => exact absurd rfl (hx d)
  | mapt es clock =>
    obtain ⟨ns, h1, h2, h3⟩ := h
    exact ⟨ns, hg.trans h1, h2.tr hφ, h3⟩
  | iter m since seen last =>
    obtain ⟨gm, h1, h2⟩ := h
    exact ⟨gm, h1.tr hφ, hg.trans h2⟩
  | cells e cs =>
    obtain ⟨us, h1, h2, h3⟩ := h
    exact ⟨us, hg.trans h1, by rw [← trL_map]; exact h2.tr hφ, h3⟩
  | mapo es =>
    obtain ⟨ns, clock, h1, h2, h3⟩ := h
    exact ⟨ns, clock, hg.trans h1, h2.tr hφ, h3⟩

/-- A method: the disk that it is called on, and what it leaves of it. -/
noncomputable def objJ (S : List AV → List Box → (AV → List Box → Prop) → Prop) : StSpec := fun args s K => ∃ (b : Nat) (d : Dsk) (rest : List AV), args = .ptr b 0 :: rest ∧ s.h b = some (.obj d) ∧ flatC rest ∧
  S (.ptr 1000000000 0 :: rest) [.obj d] (fun res out => ∃ d', out = [.obj d'] ∧ d'.nb = d.nb ∧ flatL res.leaves ∧ K res ((s.mapQ fgtHq).noObj.box b (.obj d')))
theorem obj_ok {T : Tab} {f : FuncId} {S : List AV → List Box → (AV → List Box → Prop) → Prop} (h : FnOk P T f S) : SOk P T f (objJ S) := by
  refine ⟨h.1, fun args s K hS ρ c a vs hR hV => ?_⟩
  obtain ⟨b, d, rest, rfl, hbox, hrest, hS⟩ := hS
  match vs, hV with
  | [], hV => exact absurd hV.1 (by simp)
  | v0 :: vs, hV =>
    obtain ⟨g, hg, rfl⟩ := (hV.2 0 _ v0 rfl rfl).ptr_inv
    have hvr : VL T c rest vs := ⟨by simpa using hV.1, fun i x' u' hx hu => hV.2 (i + 1) x' u' (by simpa using hx) (by simpa using hu)⟩
    obtain ⟨g', hg', hnb, ib, hlen, hib, hdk⟩ := hR.h b _ hbox
    obtain rfl : g' = g := Option.some.inj (hg'.symm.trans hg)
    have hlt := hR.lt hbox
    let c0 : Cx := ⟨c.w, c.Z, fun n => if n = 1000000000 then some g' else if d.nb ≤ n ∧ n < d.nb + 1000 then c.bk n else none, fun _ => none⟩
    have hb0 : ∀ n k, c0.bk n = some k → (n = 1000000000 ∧ k = g') ∨ ((d.nb ≤ n ∧ n < d.nb + 1000) ∧ c.bk n = some k) := fun n k hk => by
      have hk : (if n = 1000000000 then some g' else if d.nb ≤ n ∧ n < d.nb + 1000 then c.bk n else none) = some k := hk
      split at hk
      · rename_i hn; exact .inl ⟨hn, (Option.some.inj hk).symm⟩
      · split at hk
        · rename_i hn; exact .inr ⟨hn, hk⟩
        · cases hk
    have hbk0 : c0.bk 1000000000 = some g' := rfl
    have hbh : ∀ n, d.nb ≤ n → n < d.nb + 1000 → c0.bk n = c.bk n := fun n h1 h2 => by
      show (if n = 1000000000 then some g' else if d.nb ≤ n ∧ n < d.nb + 1000 then c.bk n else none) = _
      rw [if_neg (by omega), if_pos ⟨h1, h2⟩]
    have hw0 : ∀ k, Wr c0 k → ∃ n, c.bk n = some k ∧ (n = b ∨ (d.nb ≤ n ∧ n < d.nb + 1000)) := fun k hk => by
      rcases hk with ⟨n, hn⟩ | ⟨F, hF⟩
      · rcases hb0 n k hn with ⟨_, rfl⟩ | ⟨h1, h2⟩
        · exact ⟨b, hg, .inl rfl⟩
        · exact ⟨n, h2, .inr h1⟩
      · cases hF
    have ok0 : c0.Ok := by
      refine ⟨hR.ok.zlt, fun n k hk => ?_, fun _ _ h => (by cases h), fun n k hk => ?_, fun _ _ h => (by cases h), fun n n' k h1 h2 => ?_, fun _ _ _ h => (by cases h), fun _ _ _ _ h => (by cases h), hR.ok.gl⟩
      · rcases hb0 n k hk with ⟨_, rfl⟩ | ⟨_, h2⟩
        · exact hR.ok.blt b _ hg
        · exact hR.ok.blt n k h2
      · rcases hb0 n k hk with ⟨_, rfl⟩ | ⟨_, h2⟩
        · exact hR.ok.zb b _ hg
        · exact hR.ok.zb n k h2
      · rcases hb0 n k h1 with ⟨e1, rfl⟩ | ⟨q1, r1⟩ <;> rcases hb0 n' _ h2 with ⟨e2, e3⟩ | ⟨q2, r2⟩
        · rw [e1, e2]
        · have := hR.ok.bb b n' _ hg r2; omega
        · subst e3; have := hR.ok.bb b n _ hg r1; omega
        · exact hR.ok.bb n n' k r1 r2
    have hZ0 : ∀ k, c.Z k → c0.Z k ∧ c0.w.heap[k]? = c.w.heap[k]? := fun k hk => ⟨hk, rfl⟩
    refine Calls.mono (h.2 _ _ _ hS c0 (.pointer (some ⟨g', 0, none⟩) :: vs) ok0 (fun _ => rfl) (VL.cons (.ptr _ _ g' hbk0) (flatC_vl hrest hZ0 hvr)) ?_) ?_
    · intro i x hx
      cases i with
      | zero =>
        cases hx
        refine ⟨g', hbk0, hnb, ib, hlen, fun i k hi => ?_, hdk⟩
        have := (List.getElem?_eq_some_iff.1 hi).1
        rw [hbh _ (by omega) (by omega)]
        exact hib i k hi
      | succ i => simp at hx
    rintro _ w' ⟨v, c', res, out, rfl, rfl, ok', hS, hres, hout, d', rfl, hnb', hrl, hK⟩
    rw [mapQ_eq] at hK
    obtain ⟨g2, hg2, _, ib', hlen', hib', hdk'⟩ := hout 0 _ rfl
    have hg2' : c'.bk 1000000000 = some g' := (hS.bk 1000000000 (Nat.le_refl _) (by omega)).trans hbk0
    obtain rfl : g2 = g' := Option.some.inj (hg2.symm.trans hg2')
    have hsz : c.w.heap.size ≤ c'.w.heap.size := hS.size
    have hold : ∀ k, k < c.w.heap.size → (∀ n, c.bk n = some k → ¬ (n = b ∨ (d.nb ≤ n ∧ n < d.nb + 1000))) → c'.w.heap[k]? = c.w.heap[k]? := fun k hk hn => hS.blk k hk fun hw => by
      obtain ⟨n, h1, h2⟩ := hw0 k hw
      exact hn n h1 h2
    let cf : Cx := ⟨c'.w, c'.Z, fun n => if d.nb ≤ n ∧ n < d.nb + 1000 then c'.bk n else c.bk n, c.fm⟩
    have hin : ∀ n, d.nb ≤ n → n < d.nb + 1000 → cf.bk n = c'.bk n := fun n h1 h2 => if_pos ⟨h1, h2⟩
    have hout' : ∀ n, ¬ (d.nb ≤ n ∧ n < d.nb + 1000) → cf.bk n = c.bk n := fun n h1 => if_neg h1
    have hcase : ∀ n k, cf.bk n = some k → ((d.nb ≤ n ∧ n < d.nb + 1000) ∧ c'.bk n = some k) ∨ (¬ (d.nb ≤ n ∧ n < d.nb + 1000) ∧ c.bk n = some k) := fun n k hk => by
      by_cases hn : d.nb ≤ n ∧ n < d.nb + 1000
      · rw [hin n hn.1 hn.2] at hk; exact .inl ⟨hn, hk⟩
      · rw [hout' n hn] at hk; exact .inr ⟨hn, hk⟩
    have hnew : ∀ n k, (d.nb ≤ n ∧ n < d.nb + 1000) → c'.bk n = some k → (∃ m, c.bk m = some k ∧ d.nb ≤ m ∧ m < d.nb + 1000) ∨ c.w.heap.size ≤ k := fun n k hn hk => (hS.wr k (.inl ⟨n, hk⟩)).imp (fun hw => by
      obtain ⟨m, h1, rfl | h2⟩ := hw0 k hw
      · obtain rfl : g2 = k := Option.some.inj (hg.symm.trans h1)
        have := ok'.bb n 1000000000 g2 hk hg2
        omega
      · exact ⟨m, h1, h2⟩) id
    have hznew : ∀ k, c'.Z k → c.Z k ∨ (∃ m, c.bk m = some k ∧ d.nb ≤ m ∧ m < d.nb + 1000) ∨ c.w.heap.size ≤ k := fun k hk => (hS.z' k hk).imp id (Or.imp (fun hw => by
      obtain ⟨m, h1, rfl | h2⟩ := hw0 k hw
      · obtain rfl : g2 = k := Option.some.inj (hg.symm.trans h1)
        exact absurd hk (ok'.zb 1000000000 g2 hg2)
      · exact ⟨m, h1, h2⟩) id)
    have hSt : Stays c cf (fun _ => False) (fun n => d.nb ≤ n ∧ n < d.nb + 1000) := ⟨fun k hk => ⟨hS.z k hk, hold k (hR.ok.zlt k hk) fun n hn _ => hR.ok.zb n k hn hk⟩, fun n k hk hn => (hout' n hn).trans hk, fun F k hF _ => ⟨hF, hold k (hR.ok.flt F k hF) fun n hn _ => hR.ok.bf n F k hn hF⟩⟩
    have okf : cf.Ok := by
      refine ⟨ok'.zlt, fun n k hk => ?_, fun F k hk => Nat.lt_of_lt_of_le (hR.ok.flt F k hk) hsz, fun n k hk hz => ?_, fun F k hk hz => ?_, fun n n' k h1 h2 => ?_, hR.ok.ff, fun n F k hn hF => ?_, hR.ok.gl.move hSt.z⟩
      · rcases hcase n k hk with ⟨_, h2⟩ | ⟨_, h2⟩
        · exact ok'.blt n k h2
        · exact Nat.lt_of_lt_of_le (hR.ok.blt n k h2) hsz
      · rcases hcase n k hk with ⟨_, h2⟩ | ⟨h1, h2⟩
        · exact ok'.zb n k h2 hz
        · rcases hznew k hz with h3 | ⟨m, h3, h4⟩ | h3
          · exact hR.ok.zb n k h2 h3
          · have := hR.ok.bb n m k h2 h3; subst this; exact h1 h4
          · have := hR.ok.blt n k h2; omega
      · rcases hznew k hz with h3 | ⟨m, h3, h4⟩ | h3
        · exact hR.ok.zf F k hk h3
        · exact hR.ok.bf m F k h3 hk
        · have := hR.ok.flt F k hk; omega
      · have key : ∀ n n' k, (d.nb ≤ n ∧ n < d.nb + 1000) → c'.bk n = some k → ¬ (d.nb ≤ n' ∧ n' < d.nb + 1000) → c.bk n' = some k → False := fun n n' k q1 r1 q2 r2 => by
          rcases hnew n k q1 r1 with ⟨m, h3, h4⟩ | h3
          · have := hR.ok.bb n' m k r2 h3; subst this; exact q2 h4
          · have := hR.ok.blt n' k r2; omega
        rcases hcase n k h1 with ⟨q1, r1⟩ | ⟨q1, r1⟩ <;> rcases hcase n' k h2 with ⟨q2, r2⟩ | ⟨q2, r2⟩
        · exact ok'.bb n n' k r1 r2
        · exact (key n n' k q1 r1 q2 r2).elim
        · exact (key n' n k q2 r2 q1 r1).elim
        · exact hR.ok.bb n n' k r1 r2
      · rcases hcase n k hn with ⟨q1, r1⟩ | ⟨q1, r1⟩
        · rcases hnew n k q1 r1 with ⟨m, h3, h4⟩ | h3
          · exact hR.ok.bf m F k h3 hF
          · have := hR.ok.flt F k hF; omega
        · exact hR.ok.bf n F k r1 hF
    have hφ : ∀ x v, V T c x v → x.leaf = true → V T cf (fgtHq x) v := by
      intro x v hx hl
      have same : (∀ n ∈ x.ptrs, ¬ (d.nb ≤ n ∧ n < d.nb + 1000)) → V T cf x v := fun hp => hx.leaf_move hSt hl (fun _ _ => not_false) hp
      have small : ∀ n, Nat.ble 2000000000 n = false → ¬ (d.nb ≤ n ∧ n < d.nb + 1000) := fun n hq hh => by
        rw [Nat.ble_eq_true_of_le (show 2000000000 ≤ n by omega)] at hq
        cases hq
      cases x <;> first | (simp [AV.leaf] at hl; done) | exact same (by simp [AV.ptrs]) | skip
      case ptr n o =>
        show V T cf (bif Nat.ble 2000000000 n then .bad else .ptr n o) v
        cases hq : Nat.ble 2000000000 n with
        | true => exact .bad _
        | false => exact same (by intro m hm; simp only [AV.ptrs, List.mem_singleton] at hm; subst hm; exact small _ hq)
      case mp n =>
        show V T cf (bif Nat.ble 2000000000 n then .bad else .mp n) v
        cases hq : Nat.ble 2000000000 n with
        | true => exact .bad _
        | false => exact same (by intro m hm; simp only [AV.ptrs, List.mem_singleton] at hm; subst hm; exact small _ hq)
    have hStep : Step c cf := ⟨hsz, hS.os, hS.tape, hS.output, fun k hk hw => hold k hk fun n hn _ => hw (.inl ⟨n, hn⟩), fun k hk => by
      rcases hk with ⟨n, hn⟩ | ⟨F, hF⟩
      · rcases hcase n k hn with ⟨q1, r1⟩ | ⟨_, r1⟩
        · exact (hnew n k q1 r1).imp (fun ⟨m, h3, _⟩ => .inl ⟨m, h3⟩) id
        · exact .inl (.inl ⟨n, r1⟩)
      · exact .inl (.inr ⟨F, hF⟩), hS.z, fun k hk => (hznew k hk).imp id (Or.imp (fun ⟨m, h3, _⟩ => .inl ⟨m, h3⟩) id), fun n h1 h2 => hout' n (by omega)⟩
    have hZ1 : ∀ k, c'.Z k → cf.Z k ∧ cf.w.heap[k]? = c'.w.heap[k]? := fun k hk => ⟨hk, rfl⟩
    refine ⟨v, cf, _, res, rfl, rfl, hStep, ?_, flat_leaves hres hrl hZ1, hK⟩
    have hnh := nbox (noObj_n (hR.nmap fgtHq)) hlt (.obj d')
    refine ⟨okf, fun j => ?_, fun n x hx => ?_, hR.d, hnh⟩
    · obtain ⟨t, hp⟩ := s
      exact (hR.t j).tr hφ
    · by_cases hnb2 : n = b
      · subst hnb2
        have : x = .obj d' := by
          obtain ⟨t, hp⟩ := s
          simp only [St.noObj, St.box, upd_eq] at hx
          exact (Option.some.inj hx).symm
        subst this
        refine ⟨g2, (hout' n (by omega)).trans hg, by omega, ib', hlen', fun i k hi => ?_, hdk'⟩
        have := (List.getElem?_eq_some_iff.1 hi).1
        rw [hnb', hin _ (by omega) (by omega), ← hnb']
        exact hib' i k hi
      · have hx' : ((s.mapA fgtHq).noObj).h n = some x := by
          obtain ⟨t, hp⟩ := s
          have hx : upd (St.noObj (St.mapA ⟨t, hp⟩ fgtHq)).h b (some (.obj d')) n = some x := hx
          rwa [upd_ne _ _ hnb2] at hx
        obtain ⟨h1, h2⟩ := noObj_h hx'
        obtain ⟨t, hp⟩ := s
        simp only [St.mapA] at h1
        cases hh : hp n with
        | none => rw [hh] at h1; cases h1
        | some y =>
          rw [hh] at h1
          cases h1
          obtain ⟨g3, h3, h4⟩ := hR.h n y hh
          have hlt3 := hR.lt (b := n) (x := y) hh
          refine ⟨g3, (hout' n (by omega)).trans h3, h4.trN hφ (hold g3 (hR.ok.blt n g3 h3) fun m hm hh2 => ?_) fun d2 e => h2 d2 (by rw [e]; rfl)⟩
          have := hR.ok.bb m n g3 hm h3
          omega
end Go.Proofs.YtbpcofnhndgoeaaDoor.A
