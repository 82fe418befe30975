/- A program's types as a tree; one closed check. -/
import Derived.Test.YtmlgkojmbnjfbaaDoorA11
namespace Go.Proofs.YtmlgkojmbnjfbaaDoor.A
open Go

inductive Bt (α : Type) where
  | nil
  | node (v : Option α) (l r : Bt α)
def Bt.get {α : Type} : Bt α → Nat → Option α
  | .nil, _ => none
  | .node v l r, n => bif Nat.beq n 0 then v else bif Nat.beq (n % 2) 1 then l.get (n / 2) else r.get (n / 2 - 1)
def Bt.allK {α : Type} (f : Nat → α → Bool) : Bt α → Nat → Nat → Bool
  | .nil, _, _ => true
  | .node v l r, a, b => (match v with
    | some e => f b e
    | none => true) && l.allK f (2 * a) (a + b) && r.allK f (2 * a) (2 * a + b)
/-- Keys of a part: a * n + b. -/
theorem Bt.allK_get {α : Type} {f : Nat → α → Bool} : ∀ {t : Bt α} {a b n : Nat} {e : α}, t.allK f a b = true → t.get n = some e → f (a * n + b) e = true
  | .nil, a, b, n, e, _, h => by simp [Bt.get] at h
  | .node v l r, a, b, n, e, hk, h => by
    simp only [Bt.allK, Bool.and_eq_true] at hk
    obtain ⟨⟨h1, h2⟩, h3⟩ := hk
    simp only [Bt.get] at h
    cases hq : Nat.beq n 0 with
    | true =>
      rw [hq, cond_true] at h
      have := Nat.eq_of_beq_eq_true hq
      subst this
      rw [h] at h1
      simpa using h1
    | false =>
      rw [hq, cond_false] at h
      have hn := beq_false hq
      cases hq2 : Nat.beq (n % 2) 1 with
      | true =>
        rw [hq2, cond_true] at h
        have h4 := Nat.eq_of_beq_eq_true hq2
        have := Bt.allK_get h2 h
        rw [show a * n + b = 2 * a * (n / 2) + (a + b) by
          have : n = 2 * (n / 2) + 1 := by omega
          conv => lhs; rw [this]
          rw [Nat.mul_add, Nat.mul_one, ← Nat.mul_assoc, Nat.mul_comm a 2]
          omega]
        exact this
      | false =>
        rw [hq2, cond_false] at h
        have h4 := beq_false hq2
        have := Bt.allK_get h3 h
        rw [show a * n + b = 2 * a * (n / 2 - 1) + (2 * a + b) by
          have : n = 2 * (n / 2 - 1) + 2 := by omega
          conv => lhs; rw [this]
          rw [Nat.mul_add, ← Nat.mul_assoc, Nat.mul_comm a 2]
          omega]
        exact this

inductive ZC where
  | ki (k : IntKind) | kb | ks | kp | kl | kf | kn | km
inductive ZV where
  | one (c : ZC)
  | agg (cs : List ZC)
def ZC.val : ZC → Value
  | .ki k => .int k 0 | .kb => .bool false | .ks => .string ByteArray.empty | .kp => .pointer none | .kl => .slice none 0 0 | .kf => .nilFunc | .kn => .nilIface | .km => .map none
def ZC.av : ZC → AV
  | .ki k => .int k 0 | .kb => .bool false | .ks => .str ByteArray.empty | .kp => .nilptr | .kl => .sl .nl 0 [] | .kf => .nilfn | .kn => .nilifc | .km => .nilmp
def ZC.is : ZC → Value → Bool
  | .ki k, .int k' n => kindA k k' && n == 0
  | .kb, .bool b => !b
  | .ks, .string s => Nat.beq s.data.size 0
  | .kp, .pointer none => true
  | .kl, .slice none a b => Nat.beq a 0 && Nat.beq b 0
  | .kf, .nilFunc => true
  | .kn, .nilIface => true
  | .km, .map none => true
  | _, _ => false
theorem ZC.is_val {c : ZC} {v : Value} (h : c.is v = true) : v = c.val := by
  cases c <;> cases v <;> first | (simp [ZC.is] at h; done) | skip
  case ki.int k k' n =>
    simp only [ZC.is, Bool.and_eq_true] at h
    rw [ZC.val, kind_eq h.1]
    simpa using h.2
  case kb.bool b => cases b <;> simp [ZC.is] at h; rfl
  case ks.string s =>
    have h1 := Nat.eq_of_beq_eq_true h
    cases s with
    | mk d =>
      have : d = #[] := Array.eq_empty_of_size_eq_zero h1
      subst this
      rfl
  case kp.pointer a => cases a <;> first | rfl | (simp [ZC.is] at h; done)
  case kl.slice a x y =>
    cases a
    · simp only [ZC.is, Bool.and_eq_true] at h
      rw [Nat.eq_of_beq_eq_true h.1, Nat.eq_of_beq_eq_true h.2]; rfl
    · simp [ZC.is] at h
  case kf.nilFunc => rfl
  case kn.nilIface => rfl
  case km.map a => cases a <;> first | rfl | (simp [ZC.is] at h; done)
theorem ZC.v (T : Tab) (c : Cx) (z : ZC) : V T c z.av z.val := by
  cases z
  · exact .int _ _
  · exact .bool _
  · exact .str _
  · exact .nilptr
  · exact .nilsl _ _
  · exact .nilfn
  · exact .nilifc
  · exact .nilmp
theorem ZC.one (z : ZC) : z.val.oneCell' = true := by cases z <;> rfl
theorem ZC.cells (z : ZC) : z.val.cells = #[z.val] ∧ z.av.cells = [z.av] := by cases z <;> exact ⟨rfl, rfl⟩
def ZC.isL : List ZC → List Value → Bool
  | [], [] => true
  | c :: cs, v :: vs => c.is v && ZC.isL cs vs
  | _, _ => false
theorem ZC.isL_val : ∀ {cs : List ZC} {vs : List Value}, ZC.isL cs vs = true → vs = cs.map ZC.val
  | [], [], _ => rfl
  | [], _ :: _, h => by simp [ZC.isL] at h
  | _ :: _, [], h => by simp [ZC.isL] at h
  | c :: cs, v :: vs, h => by
    simp only [ZC.isL, Bool.and_eq_true] at h
    rw [List.map_cons, ← ZC.is_val h.1, ← ZC.isL_val h.2]
def ZV.av : ZV → AV
  | .one c => c.av
  | .agg cs => .agg (cs.map ZC.av)
def ZV.is : ZV → Value → Bool
  | .one c, v => c.is v
  | .agg cs, .agg vs => ZC.isL cs vs.toList
  | _, _ => false
theorem ZV.ok {z : ZV} {v : Value} (h : z.is v = true) : (∀ T c, V T c z.av v ∧ VL T c z.av.cells v.cells.toList) ∧ ∀ u ∈ v.cells, u.oneCell' = true := by
  cases z with
  | one k =>
    have := ZC.is_val h
    subst this
    obtain ⟨h1, h2⟩ := k.cells
    refine ⟨fun T c => ⟨k.v T c, ?_⟩, fun u hu => ?_⟩
    · show VL T c k.av.cells k.val.cells.toList
      rw [h1, h2]
      exact VL.cons (k.v T c) VL.nil
    · rw [h1] at hu
      simp at hu
      subst hu
      exact k.one
  | agg cs =>
    cases v <;> first | (simp [ZV.is] at h; done) | skip
    case agg vs =>
      have hl := ZC.isL_val h
      have hv : vs = (cs.map ZC.val).toArray := by rw [← hl]
      subst hv
      have hVL : ∀ T c, VL T c (cs.map ZC.av) (cs.map ZC.val) := fun T c => by
        refine ⟨by simp, fun i x u hx hu => ?_⟩
        rw [List.getElem?_map] at hx hu
        cases hc : cs[i]? with
        | none => rw [hc] at hx; cases hx
        | some k => rw [hc] at hx hu; cases hx; cases hu; exact k.v T c
      refine ⟨fun T c => ⟨(hVL T c).agg, hVL T c⟩, fun u hu => ?_⟩
      have hu' : u ∈ (cs.map ZC.val).toArray := hu
      simp only [List.mem_toArray] at hu'
      obtain ⟨k, _, rfl⟩ := List.mem_map.1 hu'
      exact k.one

structure TE where
  d : TD
  s : Nat
  b : Nat
  z : ZV
def tabOf (tr : Bt TE) (meth : TypeId → String → Option (FuncId × Option TypeId)) : Tab where
  desc := fun t => match tr.get t with
    | some e => e.d
    | none => .other
  size := fun t => match tr.get t with
    | some e => e.s
    | none => 0
  bytes := fun t => match tr.get t with
    | some e => e.b
    | none => 0
  zero := fun t => match tr.get t with
    | some e => e.z.av
    | none => .bad
  eqT := fun _ => none
  meth := meth
def isKnown (tr : Bt TE) (t : TypeId) : Bool := match tr.get t with
  | some e => (match e.d with
    | .other => false
    | _ => true)
  | none => false
def eqFs : List (Nat × TypeId) → List Field → Bool
  | [], [] => true
  | (o, t) :: fs, f :: gs => Nat.beq o f.offset && Nat.beq t f.type && eqFs fs gs
  | _, _ => false
def descOk (tr : Bt TE) : TD → Option TypeDesc → Bool
  | .int k, some (.int k') => kindA k k'
  | .bool, some .bool => true
  | .str, some .string => true
  | .slice e, some (.slice e') => Nat.beq e e' && isKnown tr e
  | .struct fs, some (.struct gs) => eqFs fs gs.toList && all? (fun p => isKnown tr p.2) fs
  | .arr n e, some (.array n' e') => Nat.beq n n' && Nat.beq e e' && isKnown tr e
  | .ptr e, some (.pointer e') => Nat.beq e e'
  | .mp k e, some (.map k' e') => Nat.beq k k' && Nat.beq e e'
  | .func, some (.func _ _ _) => true
  | .iface, some (.interface _) => true
  | _, _ => false
def TE.ok (P : Program) (tr : Bt TE) (t : Nat) (e : TE) : Bool := match e.d with
  | .other => true
  | d => match P.info? t with
    | some i => match i.zero with
      | some z => e.z.is z && Nat.beq i.size e.s && Nat.beq i.bytes e.b && Nat.beq z.cells.size e.s && descOk tr d (P.underlying t)
      | none => false
    | none => false
def treeOk (P : Program) (tr : Bt TE) : Bool := tr.allK (TE.ok P tr) 1 0

theorem isKnown_spec {tr : Bt TE} {m : TypeId → String → Option (FuncId × Option TypeId)} {t : TypeId} (h : isKnown tr t = true) : (tabOf tr m).desc t ≠ .other := by
  unfold isKnown at h
  simp only [tabOf]
  intro e
  split at h
  · rename_i x hx
    rw [hx] at e
    simp only [] at e
    rw [e] at h
    cases h
  · cases h
theorem eqFs_spec : ∀ {fs : List (Nat × TypeId)} {gs : List Field}, eqFs fs gs = true → (gs.map fun f => (f.offset, f.type)) = fs
  | [], [], _ => rfl
  | [], _ :: _, h => by simp [eqFs] at h
  | _ :: _, [], h => by simp [eqFs] at h
  | (o, t) :: fs, f :: gs, h => by
    simp only [eqFs, Bool.and_eq_true] at h
    rw [List.map_cons, eqFs_spec h.2, Nat.eq_of_beq_eq_true h.1.1, Nat.eq_of_beq_eq_true h.1.2]

theorem tab_ok {P : Program} {tr : Bt TE} {m : TypeId → String → Option (FuncId × Option TypeId)} (h : treeOk P tr = true) (hm : ∀ t n f d, m t n = some (f, d) → match d with
    | none => ∀ v w, (method (P.types.size + Made.depth) t v n).run P w = .ok (f, v) w
    | some e => ∀ a v w, (loadVar e a).run P w = .ok v w → (method (P.types.size + Made.depth) t (.pointer (some a)) n).run P w = .ok (f, v) w) (hw : P.follows .mixedOrders = true) : TabOk P (tabOf tr m) := by
  have key : ∀ t d, (tabOf tr m).desc t = d → d ≠ .other → ∃ e i z, tr.get t = some e ∧ e.d = d ∧ P.info? t = some i ∧ i.zero = some z ∧ e.z.is z = true ∧ i.size = e.s ∧ i.bytes = e.b ∧ z.cells.size = e.s ∧ descOk tr d (P.underlying t) = true := by
    intro t d hd hne
    simp only [tabOf] at hd
    split at hd
    · rename_i e he
      have := Bt.allK_get h he
      rw [Nat.one_mul, Nat.add_zero] at this
      unfold TE.ok at this
      rw [hd] at this
      cases d with
      | other => exact (hne rfl).elim
      | _ =>
        simp only [] at this
        split at this
        · rename_i i hi
          split at this
          · rename_i z hz
            simp only [Bool.and_eq_true] at this
            exact ⟨e, i, z, he, hd, hi, hz, this.1.1.1.1, Nat.eq_of_beq_eq_true this.1.1.1.2, Nat.eq_of_beq_eq_true this.1.1.2, Nat.eq_of_beq_eq_true this.1.2, this.2⟩
          · cases this
        · cases this
    · exact (hne hd.symm).elim
  refine { int := ?_, bool := ?_, str := ?_, slice := ?_, struct := ?_, arr := ?_, ptr := ?_, func := ?_, iface := ?_, mp := ?_, info := ?_, eqs := ?_, meth := hm, wide := hw }
  · intro t k hd
    obtain ⟨_, _, _, _, _, _, _, _, _, _, _, hk⟩ := key t _ hd (by simp)
    generalize P.underlying t = u at hk ⊢
    cases u with
    | none => simp [descOk] at hk
    | some u => cases u <;> first | (simp [descOk] at hk; done) | (rw [kind_eq hk])
  · intro t hd
    obtain ⟨_, _, _, _, _, _, _, _, _, _, _, hk⟩ := key t _ hd (by simp)
    generalize P.underlying t = u at hk ⊢
    cases u with
    | none => simp [descOk] at hk
    | some u => cases u <;> first | (simp [descOk] at hk; done) | rfl
  · intro t hd
    obtain ⟨_, _, _, _, _, _, _, _, _, _, _, hk⟩ := key t _ hd (by simp)
    generalize P.underlying t = u at hk ⊢
    cases u with
    | none => simp [descOk] at hk
    | some u => cases u <;> first | (simp [descOk] at hk; done) | rfl
  · intro t e hd
    obtain ⟨_, _, _, _, _, _, _, _, _, _, _, hk⟩ := key t _ hd (by simp)
    generalize P.underlying t = u at hk ⊢
    cases u with
    | none => simp [descOk] at hk
    | some u =>
      cases u <;> first | (simp [descOk] at hk; done) | skip
      simp only [descOk, Bool.and_eq_true] at hk
      exact ⟨by rw [Nat.eq_of_beq_eq_true hk.1], isKnown_spec hk.2⟩
  · intro t fs hd
    obtain ⟨_, _, _, _, _, _, _, _, _, _, _, hk⟩ := key t _ hd (by simp)
    generalize P.underlying t = u at hk ⊢
    cases u with
    | none => simp [descOk] at hk
    | some u =>
      cases u <;> first | (simp [descOk] at hk; done) | skip
      simp only [descOk, Bool.and_eq_true] at hk
      refine ⟨_, rfl, eqFs_spec hk.1, fun p hp => ?_⟩
      obtain ⟨i, hi⟩ := List.getElem?_of_mem hp
      exact isKnown_spec (all_spec hk.2 i p hi)
  · intro t n e hd
    obtain ⟨_, _, _, _, _, _, _, _, _, _, _, hk⟩ := key t _ hd (by simp)
    generalize P.underlying t = u at hk ⊢
    cases u with
    | none => simp [descOk] at hk
    | some u =>
      cases u <;> first | (simp [descOk] at hk; done) | skip
      simp only [descOk, Bool.and_eq_true] at hk
      exact ⟨by rw [Nat.eq_of_beq_eq_true hk.1.1, Nat.eq_of_beq_eq_true hk.1.2], isKnown_spec hk.2⟩
  · intro t e hd
    obtain ⟨_, _, _, _, _, _, _, _, _, _, _, hk⟩ := key t _ hd (by simp)
    generalize P.underlying t = u at hk ⊢
    cases u with
    | none => simp [descOk] at hk
    | some u => cases u <;> first | (simp [descOk] at hk; done) | (rw [Nat.eq_of_beq_eq_true hk])
  · intro t hd
    obtain ⟨_, _, _, _, _, _, _, _, _, _, _, hk⟩ := key t _ hd (by simp)
    generalize P.underlying t = u at hk ⊢
    cases u with
    | none => simp [descOk] at hk
    | some u => cases u <;> first | (simp [descOk] at hk; done) | exact ⟨_, _, _, rfl⟩
  · intro t hd
    obtain ⟨_, _, _, _, _, _, _, _, _, _, _, hk⟩ := key t _ hd (by simp)
    generalize P.underlying t = u at hk ⊢
    cases u with
    | none => simp [descOk] at hk
    | some u => cases u <;> first | (simp [descOk] at hk; done) | exact ⟨_, rfl⟩
  · intro t k e hd
    obtain ⟨_, _, _, _, _, _, _, _, _, _, _, hk⟩ := key t _ hd (by simp)
    generalize P.underlying t = u at hk ⊢
    cases u with
    | none => simp [descOk] at hk
    | some u =>
      cases u <;> first | (simp [descOk] at hk; done) | skip
      simp only [descOk, Bool.and_eq_true] at hk
      rw [Nat.eq_of_beq_eq_true hk.1, Nat.eq_of_beq_eq_true hk.2]
  · intro t hd
    obtain ⟨e, i, z, he, _, hi, hz, hzz, hs, hb, hzs, _⟩ := key t _ rfl hd
    obtain ⟨h1, h2⟩ := ZV.ok hzz
    refine ⟨i, z, hi, ?_, ?_, hz, ?_, ?_, h2⟩ <;> simp only [tabOf, he]
    · exact hs
    · exact hb
    · exact hzs
    · exact h1
  · intro t ks ht
    simp [tabOf] at ht
end Go.Proofs.YtmlgkojmbnjfbaaDoor.A
