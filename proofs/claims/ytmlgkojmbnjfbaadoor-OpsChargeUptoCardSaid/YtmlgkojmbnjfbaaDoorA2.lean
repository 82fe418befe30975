/- Operations that only look: what the abstract step says, the machine's does. -/
import Derived.Test.YtmlgkojmbnjfbaaDoorA1
import Derived.Deep.MidRow
namespace Go.Proofs.YtmlgkojmbnjfbaaDoor.A
open Go

/-- What a table says of a type is so in the program. -/
structure TabOk (P : Program) (T : Tab) : Prop where
  int : ∀ t k, T.desc t = .int k → P.underlying t = some (.int k)
  bool : ∀ t, T.desc t = .bool → P.underlying t = some .bool
  str : ∀ t, T.desc t = .str → P.underlying t = some .string
  slice : ∀ t e, T.desc t = .slice e → P.underlying t = some (.slice e) ∧ T.desc e ≠ .other
  struct : ∀ t fs, T.desc t = .struct fs → ∃ fields : Array Field, P.underlying t = some (.struct fields) ∧ (fields.toList.map fun f => (f.offset, f.type)) = fs ∧ ∀ p ∈ fs, T.desc p.2 ≠ .other
  arr : ∀ t n e, T.desc t = .arr n e → P.underlying t = some (.array n e) ∧ T.desc e ≠ .other
  ptr : ∀ t e, T.desc t = .ptr e → P.underlying t = some (.pointer e)
  func : ∀ t, T.desc t = .func → ∃ a b c, P.underlying t = some (.func a b c)
  iface : ∀ t, T.desc t = .iface → ∃ ms, P.underlying t = some (.interface ms)
  mp : ∀ t k e, T.desc t = .mp k e → P.underlying t = some (.map k e)
  info : ∀ t, T.desc t ≠ .other → ∃ i z, P.info? t = some i ∧ i.size = T.size t ∧ i.bytes = T.bytes t ∧ i.zero = some z ∧ z.cells.size = T.size t ∧ (∀ T' c, V T' c (T.zero t) z ∧ VL T' c (T.zero t).cells z.cells.toList) ∧ ∀ u ∈ z.cells, u.oneCell' = true
  eqs : ∀ t ks, T.eqT t = some ks → ∀ (c : Cx) (xs ys : List AV) (us vs : List Value) (b : Bool), fitB ks xs = true → fitB ks ys = true → VL T c xs us → VL T c ys vs → AV.eqvL xs ys = some b → ∀ w, (Op.equal t (.agg us.toArray) (.agg vs.toArray)).run P w = .ok b w ∧ ∀ op px py, (eqGuard op t px py (.agg us.toArray) (.agg vs.toArray)).run P w = .ok () w
  meth : ∀ t m f d, T.meth t m = some (f, d) → match d with
    | none => ∀ v w, (method (P.types.size + Made.depth) t v m).run P w = .ok (f, v) w
    | some e => ∀ a v w, (loadVar e a).run P w = .ok v w → (method (P.types.size + Made.depth) t (.pointer (some a)) m).run P w = .ok (f, v) w
  wide : P.follows .mixedOrders = true

theorem TabOk.field {P : Program} {T : Tab} (hT : TabOk P T) {t : TypeId} {fs : List (Nat × TypeId)} (h : T.desc t = .struct fs) : ∃ fields : Array Field, P.underlying t = some (.struct fields) ∧
    (∀ (i : Nat) (o u : Nat), fs[i]? = some (o, u) → ∃ f, fields[i]? = some f ∧ f.offset = o ∧ f.type = u ∧ T.desc u ≠ .other) := by
  obtain ⟨fields, h1, h2, h3⟩ := hT.struct t fs h
  refine ⟨fields, h1, fun i o u hi => ?_⟩
  have hm := hi
  rw [← h2, List.getElem?_map, Array.getElem?_toList] at hm
  cases hf : fields[i]? with
  | none => rw [hf] at hm; cases hm
  | some f =>
    rw [hf] at hm
    simp only [Option.map_some, Option.some.injEq, Prod.mk.injEq] at hm
    exact ⟨f, rfl, hm.1, hm.2, h3 (o, u) (List.mem_of_getElem? hi)⟩

theorem info_some {P : Program} {T : Tab} (hT : TabOk P T) {t : TypeId} (h : T.desc t ≠ .other) (w : World) : ∃ i, (typeInfo t).run P w = .ok i w ∧ i.size = T.size t ∧ i.bytes = T.bytes t := by
  obtain ⟨i, z, h1, h2, h3, _⟩ := hT.info t h
  exact ⟨i, by simp [typeInfo, h1], h2, h3⟩
theorem run_size {P : Program} {T : Tab} (hT : TabOk P T) {t : TypeId} (h : T.desc t ≠ .other) (w : World) : (sizeOf t).run P w = .ok (T.size t) w := by
  obtain ⟨i, h1, h2, _⟩ := info_some hT h w
  simp [sizeOf, h1, h2]
theorem und_known {P : Program} {T : Tab} (hT : TabOk P T) {t : TypeId} {b : Bool} (h : (T.desc t).isAgg = some b) : ∃ d, P.underlying t = some d ∧ d.isRow = b := by
  cases hd : T.desc t with
  | int k => rw [hd] at h; exact ⟨_, hT.int t k hd, by simp [TD.isAgg] at h; subst h; rfl⟩
  | bool => rw [hd] at h; exact ⟨_, hT.bool t hd, by simp [TD.isAgg] at h; subst h; rfl⟩
  | str => rw [hd] at h; exact ⟨_, hT.str t hd, by simp [TD.isAgg] at h; subst h; rfl⟩
  | slice e => rw [hd] at h; exact ⟨_, (hT.slice t e hd).1, by simp [TD.isAgg] at h; subst h; rfl⟩
  | struct fs => rw [hd] at h; obtain ⟨f, hf, _⟩ := hT.struct t fs hd; exact ⟨_, hf, by simp [TD.isAgg] at h; subst h; rfl⟩
  | arr n e => rw [hd] at h; exact ⟨_, (hT.arr t n e hd).1, by simp [TD.isAgg] at h; subst h; rfl⟩
  | ptr e => rw [hd] at h; exact ⟨_, hT.ptr t e hd, by simp [TD.isAgg] at h; subst h; rfl⟩
  | mp k e => rw [hd] at h; exact ⟨_, hT.mp t k e hd, by simp [TD.isAgg] at h; subst h; rfl⟩
  | func => rw [hd] at h; obtain ⟨a, b', c, hf⟩ := hT.func t hd; exact ⟨_, hf, by simp [TD.isAgg] at h; subst h; rfl⟩
  | iface => rw [hd] at h; obtain ⟨ms, hf⟩ := hT.iface t hd; exact ⟨_, hf, by simp [TD.isAgg] at h; subst h; rfl⟩
  | other => rw [hd] at h; simp [TD.isAgg] at h
theorem known_of {T : Tab} {t : TypeId} {b : Bool} (h : (T.desc t).isAgg = some b) : T.desc t ≠ .other := by
  intro e
  rw [e] at h
  simp [TD.isAgg] at h
theorem run_isAgg {P : Program} {T : Tab} (hT : TabOk P T) {t : TypeId} {b : Bool} (h : (T.desc t).isAgg = some b) (w : World) : (isAgg t).run P w = .ok b w := by
  obtain ⟨d, hd, hb⟩ := und_known hT h
  unfold isAgg
  rw [Sem.run_bind, run_underlying hd w]
  cases d <;> simp_all [TypeDesc.isRow]

/-- What stands in the places of a frame, and of those below it. -/
def vals (ρ : Nat → Value) (a : Act) (j : Nat) : Value := if j < 1000000 then a.tmps.getD j undef else ρ (j - 1000000)
/-- A state of the machine and an abstract one. -/
structure Rel (T : Tab) (ρ : Nat → Value) (c : Cx) (s : St) (a : Act) : Prop where
  ok : c.Ok
  t : ∀ j, V T c (s.t j) (vals ρ a j)
  h : ∀ b x, s.h b = some x → ∃ g, c.bk b = some g ∧ BoxAt T c g x
  d : a.defers = []

theorem ofVal_v {T : Tab} {c : Cx} (v : Value) : V T c (ofVal v) v := by
  unfold ofVal
  split <;> first | exact .int _ _ | exact .bool _ | exact .str _ | exact .nilifc | exact .nilfn | exact .nilptr | exact .nilsl _ _ | exact .nilmp | exact .bad _

theorem Rel.ev {T : Tab} {ρ : Nat → Value} {c : Cx} {s : St} {a : Act} (h : Rel T ρ c s a) (x : Operand) : V T c (s.ev x) (a.eval x) := by
  cases x with
  | tmp t =>
    show V T c (bif Nat.blt t 1000000 then s.t t else .bad) (a.tmps.getD t undef)
    cases hq : Nat.blt t 1000000 with
    | false => exact .bad _
    | true =>
      have h1 : t < 1000000 := Nat.le_of_ble_eq_true hq
      have := h.t t
      rw [vals, if_pos h1] at this
      exact this
  | const v => exact ofVal_v v
  | global g => exact .bad _
  | func f => exact .fn (.func f) [] [] [] [] rfl rfl (fun i x u hx => by simp at hx) (fun i x u hx => by simp at hx)

/-- In a world that agrees with c's on what the operation reads. -/
def SeesO (c : Cx) (s : St) (o : Oper) (w : World) : Prop := match o.op with
  | .load _ x => match s.ev x with
    | .ptr b _ => ∀ g, c.bk b = some g → w.heap[g]? = c.w.heap[g]?
    | .pe t _ _ _ _ => (∀ g, c.Z g → w.heap[g]? = c.w.heap[g]?) ∧ (∀ F, t = .own F → ∀ g, c.fm F = some g → w.heap[g]? = c.w.heap[g]?)
    | _ => True
  | _ => True
theorem SeesO.self (c : Cx) (s : St) (o : Oper) : SeesO c s o c.w := by
  unfold SeesO
  split
  · split
    · exact fun _ _ => rfl
    · exact ⟨fun _ _ => rfl, fun _ _ _ _ => rfl⟩
    · trivial
  · trivial

/-- The operation hands back x's like, and does nothing else, in every world that agrees. -/
def Looks (P : Program) (T : Tab) (c : Cx) (s : St) (a : Act) (o : Oper) (x : AV) : Prop := ∃ v, V T c x v ∧ ∀ w, SeesO c s o w → (execOp a.eval o).run P w = .ok (.value v) w

theorem kind_eq {k k' : IntKind} (h : kindA k k' = true) : k = k' := by
  cases k <;> cases k' <;> simp [kindA] at h <;> rfl
end Go.Proofs.YtmlgkojmbnjfbaaDoor.A
