/- What an abstract value says of a value in a world; what keeps it. -/
import Derived.Test.YtmlgkojmbnjfbaaDoorA0
import Derived.WalkKit
namespace Go.Proofs.YtmlgkojmbnjfbaaDoor.A
open Go

/-- A world, the blocks that nobody writes, the boxes' blocks, the own slices' blocks. -/
structure Cx where
  w : World
  Z : Nat → Prop
  bk : Nat → Option Nat
  fm : Nat → Option Nat

/-- What the one cell of the first package-level variable holds, if that is asked. -/
def GL : Option Value := (some (.iface 158 (.agg #[.pointer (some ⟨1, 74, Option.none⟩)])))
def Cx.Gl (c : Cx) : Prop := ∀ v, GL = some v → c.Z 0 ∧ c.w.cell? ⟨0, 0, none⟩ = some v
theorem Cx.Gl.move {c c' : Cx} (h : c.Gl) (hZ : ∀ g, c.Z g → c'.Z g ∧ c'.w.heap[g]? = c.w.heap[g]?) : c'.Gl := fun v hv => ⟨(hZ 0 (h v hv).1).1, (World.cell?_of_block (a := ⟨0, 0, none⟩) (hZ 0 (h v hv).1).2).trans (h v hv).2⟩
structure Cx.Ok (c : Cx) : Prop where
  zlt : ∀ g, c.Z g → g < c.w.heap.size
  blt : ∀ b g, c.bk b = some g → g < c.w.heap.size
  flt : ∀ F g, c.fm F = some g → g < c.w.heap.size
  zb : ∀ b g, c.bk b = some g → ¬ c.Z g
  zf : ∀ F g, c.fm F = some g → ¬ c.Z g
  bb : ∀ b b' g, c.bk b = some g → c.bk b' = some g → b = b'
  ff : ∀ F F' g, c.fm F = some g → c.fm F' = some g → F = F'
  bf : ∀ b F g, c.bk b = some g → c.fm F = some g → False
  gl : c.Gl

/-- What stands at a place: cell after cell. -/
def Reads (w : World) (g o : Nat) (us : List Value) : Prop := ∀ j u, us[j]? = some u → w.cell? ⟨g, o + j, none⟩ = some u

theorem reads_of_seg {w : World} {g k n : Nat} {e : TypeId} {cur : Array Value} {us : List Value} (h : w.heap[g]? = some (.cells cur e (0, 0))) (hs : (cur.toList.drop k).take n = us) : Reads w g k us := by
  intro j u hu
  subst hs
  rw [List.getElem?_take] at hu
  split at hu
  · rw [List.getElem?_drop, Array.getElem?_toList] at hu
    simp only [World.cell?, h]
    exact hu
  · cases hu

inductive V (T : Tab) (c : Cx) : AV → Value → Prop where
  | int (k : IntKind) (n : Int) : V T c (.int k n) (.int k n)
  | bool (b : Bool) : V T c (.bool b) (.bool b)
  | str (s : ByteArray) : V T c (.str s) (.string s)
  | agg (cs : List AV) (us : List Value) (hl : cs.length = us.length) (h : ∀ (i : Nat) (x : AV) (u : Value), cs[i]? = some x → us[i]? = some u → V T c x u) : V T c (.agg cs) (.agg us.toArray)
  | tup (cs : List AV) (us : List Value) (hl : cs.length = us.length) (h : ∀ (i : Nat) (x : AV) (u : Value), cs[i]? = some x → us[i]? = some u → V T c x u) : V T c (.tup cs) (.tuple us.toArray)
  | ptr (b off g : Nat) (hb : c.bk b = some g) : V T c (.ptr b off) (.pointer (some ⟨g, off, none⟩))
  | nilptr : V T c .nilptr (.pointer none)
  | nilsl (t : Tag) (e : TypeId) : V T c (.sl t e []) (.slice none 0 0)
  | slf (e : TypeId) (xs : List AV) (g o cap : Nat) (us : List Value) (hz : c.Z g) (hc : xs.length ≤ cap) (hm : cap ≤ maxLen) (hu : us.length = xs.length * T.size e) (hr : Reads c.w g o us) (h1 : ∀ u ∈ us, u.oneCell' = true)
      (hs : ∀ (i : Nat) (x : AV), xs[i]? = some x → x.cells.length = T.size e) (hf : ∀ (i : Nat) (x : AV), xs[i]? = some x → ∀ (j : Nat) (y : AV), x.cells[j]? = some y → y.flat = true)
      (h : ∀ (i : Nat) (x : AV) (j : Nat) (y : AV) (u : Value), xs[i]? = some x → x.cells[j]? = some y → us[i * T.size e + j]? = some u → V T c y u) : V T c (.sl .fz e xs) (.slice (some ⟨g, o, none⟩) xs.length cap)
  | slo (F : Nat) (e : TypeId) (xs : List AV) (v : Value) (g : Nat) (us : List Value) (hF : c.fm F = some g) (hv : v.ownBlock = some g) (ho : c.w.ownsRow 0 e (T.size e) v xs.length us) (h1 : ∀ u ∈ us, u.oneCell' = true)
      (hs : ∀ (i : Nat) (x : AV), xs[i]? = some x → x.cells.length = T.size e) (hf : ∀ (i : Nat) (x : AV), xs[i]? = some x → ∀ (j : Nat) (y : AV), x.cells[j]? = some y → y.flat = true)
      (h : ∀ (i : Nat) (x : AV) (j : Nat) (y : AV) (u : Value), xs[i]? = some x → x.cells[j]? = some y → us[i * T.size e + j]? = some u → V T c y u) : V T c (.sl (.own F) e xs) v
  | pef (e : TypeId) (idx off : Nat) (cs : List AV) (g o : Nat) (us : List Value) (hz : c.Z g) (hu : us.length = cs.length) (hr : Reads c.w g o us)
      (hf : ∀ (j : Nat) (y : AV), cs[j]? = some y → y.flat = true) (h : ∀ (j : Nat) (y : AV) (u : Value), cs[j]? = some y → us[j]? = some u → V T c y u) : V T c (.pe .fz e idx off cs) (.pointer (some ⟨g, o + off, none⟩))
  | peo (F : Nat) (e : TypeId) (idx off : Nat) (cs : List AV) (g : Nat) (us : List Value) (hF : c.fm F = some g) (hu : us.length = cs.length) (hl : cs.length = T.size e) (hn : ∃ cur : Array Value, c.w.heap[g]? = some (.cells cur e (0, 0)) ∧ (cur.toList.drop (idx * T.size e)).take (T.size e) = us)
      (hf : ∀ (j : Nat) (y : AV), cs[j]? = some y → y.flat = true) (h : ∀ (j : Nat) (y : AV) (u : Value), cs[j]? = some y → us[j]? = some u → V T c y u) : V T c (.pe (.own F) e idx off cs) (.pointer (some ⟨g, idx * T.size e + off, none⟩))
  | fn (f : Fn) (a d : List AV) (us vs : List Value) (hl : a.length = us.length) (hm : d.length = vs.length) (h : ∀ (i : Nat) (x : AV) (u : Value), a[i]? = some x → us[i]? = some u → V T c x u)
      (h' : ∀ (i : Nat) (x : AV) (u : Value), d[i]? = some x → vs[i]? = some u → V T c x u) : V T c (.fn f a d) (.func f us.toArray vs.toArray)
  | nilfn : V T c .nilfn .nilFunc
  | ifc (t : TypeId) (x : AV) (u : Value) (h : V T c x u) : V T c (.ifc t x) (.iface t u)
  | nilifc : V T c .nilifc .nilIface
  | mp (b g : Nat) (hb : c.bk b = some g) : V T c (.mp b) (.map (some g))
  | nilmp : V T c .nilmp (.map none)
  | bad (u : Value) : V T c .bad u

/-- Lists of values, one by one. -/
def VL (T : Tab) (c : Cx) (xs : List AV) (us : List Value) : Prop := xs.length = us.length ∧ ∀ (i : Nat) (x : AV) (u : Value), xs[i]? = some x → us[i]? = some u → V T c x u

/-- A map's key, as it stands there. -/
def KeyV : AV → Value → Prop
  | .int k n, u => u = .int k n
  | .bool b, u => u = .bool b
  | .str s, u => u = .string s
  | _, _ => False
def MapV (T : Tab) (c : Cx) : List (AV × AV) → List MapEntry → Prop
  | [], [] => True
  | (k, v) :: es, n :: ns => KeyV k n.key ∧ V T c v n.val ∧ MapV T c es ns
  | _, _ => False
/-- What a box's block holds. -/
def BoxAt (T : Tab) (c : Cx) (g : Nat) : Box → Prop
  | .cells e cs => ∃ us : List Value, c.w.heap[g]? = some (.cells us.toArray e (0, 0)) ∧ VL T c cs us ∧ ∀ u ∈ us, u.oneCell' = true
  | .mapo es => ∃ (ns : Array MapEntry) (clock : Nat), c.w.heap[g]? = some (.map ns clock) ∧ MapV T c es ns.toList

/-! ### moving to another world -/
theorem Reads.move {w w' : World} {g o : Nat} {us : List Value} (h : Reads w g o us) (hg : w'.heap[g]? = w.heap[g]?) : Reads w' g o us :=
  fun j u hu => (World.cell?_of_block (a := ⟨g, o + j, none⟩) hg).trans (h j u hu)
theorem own_move {w w' : World} {e : TypeId} {size n g : Nat} {v : Value} {us : List Value} (h : w.ownsRow 0 e size v n us) (hv : v.ownBlock = some g) (hg : w'.heap[g]? = w.heap[g]?) : w'.ownsRow 0 e size v n us := by
  refine ⟨h.1, ?_⟩
  rcases h.2 with h2 | ⟨g', cap, cur, rfl, hb, hh, r⟩
  · exact .inl h2
  · obtain rfl : g' = g := by simpa [Value.ownBlock] using hv
    exact .inr ⟨g', cap, cur, rfl, hb, hg.trans hh, r⟩

/-- A flat value says the same wherever the blocks that nobody writes are kept. -/
theorem V.flat_move {T : Tab} {c c' : Cx} (hZ : ∀ g, c.Z g → c'.Z g ∧ c'.w.heap[g]? = c.w.heap[g]?) {x : AV} {v : Value} (h : V T c x v) (hf : x.flat = true) : V T c' x v := by
  induction h with
  | int k n => exact .int k n
  | bool b => exact .bool b
  | str s => exact .str s
  | agg => simp [AV.flat] at hf
  | tup => simp [AV.flat] at hf
  | ptr => simp [AV.flat] at hf
  | nilptr => exact .nilptr
  | nilsl t e => exact .nilsl t e
  | slf e xs g o cap us hz hc hm hu hr h1 hs hfl _ ih =>
    exact .slf e xs g o cap us (hZ g hz).1 hc hm hu (hr.move (hZ g hz).2) h1 hs hfl fun i x j y u hx hy hu' => ih i x j y u hx hy hu' (hfl i x hx j y hy)
  | slo => simp [AV.flat] at hf
  | pef => simp [AV.flat] at hf
  | peo => simp [AV.flat] at hf
  | fn f a d us vs hl hm _ _ _ _ =>
    match a, d with
    | [], [] => exact .fn f [] [] us vs hl hm (fun i x u hx => by simp at hx) (fun i x u hx => by simp at hx)
    | _ :: _, _ => simp [AV.flat] at hf
    | [], _ :: _ => simp [AV.flat] at hf
  | nilfn => exact .nilfn
  | ifc t x u _ ih => exact .ifc t x u (ih (by simpa [AV.flat] using hf))
  | nilifc => exact .nilifc
  | mp => simp [AV.flat] at hf
  | nilmp => exact .nilmp
  | bad => simp [AV.flat] at hf

/-- A leaf: neither an aggregate nor an interface value nor a function. -/
def AV.leaf : AV → Bool
  | .agg _ | .tup _ | .ifc _ _ | .fn _ _ _ => false
  | _ => true

theorem trL_get (φ : AV → AV) : ∀ (l : List AV) (i : Nat), (AV.trL φ l)[i]? = (l[i]?).map (AV.tr φ)
  | [], i => by simp [AV.trL]
  | v :: l, 0 => by simp [AV.trL]
  | v :: l, i + 1 => by simpa [AV.trL] using trL_get φ l i
theorem trL_length (φ : AV → AV) : ∀ l : List AV, (AV.trL φ l).length = l.length
  | [] => rfl
  | _ :: l => by simp [AV.trL, trL_length φ l]

theorem tr_leaf (φ : AV → AV) {x : AV} (h : x.leaf = true) : x.tr φ = φ x := by
  cases x <;> simp [AV.leaf] at h <;> simp [AV.tr]

/-- Leaf by leaf. -/
theorem V.tr {T : Tab} {c c' : Cx} {φ : AV → AV} (hφ : ∀ x v, V T c x v → x.leaf = true → V T c' (φ x) v) {x : AV} {v : Value} (h : V T c x v) : V T c' (x.tr φ) v := by
  induction h with
  | agg cs us hl _ ih =>
    rw [AV.tr]
    refine .agg _ us (by rw [trL_length]; exact hl) fun i x u hx hu => ?_
    rw [trL_get] at hx
    cases hc : cs[i]? with
    | none => simp [hc] at hx
    | some y => rw [hc] at hx; cases hx; exact ih i y u hc hu
  | tup cs us hl _ ih =>
    rw [AV.tr]
    refine .tup _ us (by rw [trL_length]; exact hl) fun i x u hx hu => ?_
    rw [trL_get] at hx
    cases hc : cs[i]? with
    | none => simp [hc] at hx
    | some y => rw [hc] at hx; cases hx; exact ih i y u hc hu
  | fn f a d us vs hl hm _ _ ih ih' =>
    rw [AV.tr]
    refine .fn f _ _ us vs (by rw [trL_length]; exact hl) (by rw [trL_length]; exact hm) (fun i x u hx hu => ?_) (fun i x u hx hu => ?_)
    · rw [trL_get] at hx
      cases hc : a[i]? with
      | none => simp [hc] at hx
      | some y => rw [hc] at hx; cases hx; exact ih i y u hc hu
    · rw [trL_get] at hx
      cases hc : d[i]? with
      | none => simp [hc] at hx
      | some y => rw [hc] at hx; cases hx; exact ih' i y u hc hu
  | ifc t x u _ ih => rw [AV.tr]; exact .ifc t _ u ih
  | int k n => rw [tr_leaf φ rfl]; exact hφ _ _ (.int k n) rfl
  | bool b => rw [tr_leaf φ rfl]; exact hφ _ _ (.bool b) rfl
  | str s => rw [tr_leaf φ rfl]; exact hφ _ _ (.str s) rfl
  | ptr b off g hb => rw [tr_leaf φ rfl]; exact hφ _ _ (.ptr b off g hb) rfl
  | nilptr => rw [tr_leaf φ rfl]; exact hφ _ _ .nilptr rfl
  | nilsl t e => rw [tr_leaf φ rfl]; exact hφ _ _ (.nilsl t e) rfl
  | slf e xs g o cap us hz hc hm hu hr h1 hs hf h _ => rw [tr_leaf φ rfl]; exact hφ _ _ (.slf e xs g o cap us hz hc hm hu hr h1 hs hf h) rfl
  | slo F e xs v g us hF hv ho h1 hs hf h _ => rw [tr_leaf φ rfl]; exact hφ _ _ (.slo F e xs v g us hF hv ho h1 hs hf h) rfl
  | pef e idx off cs g o us hz hu hr hf h _ => rw [tr_leaf φ rfl]; exact hφ _ _ (.pef e idx off cs g o us hz hu hr hf h) rfl
  | peo F e idx off cs g us hF hu hl hn hf h _ => rw [tr_leaf φ rfl]; exact hφ _ _ (.peo F e idx off cs g us hF hu hl hn hf h) rfl
  | nilfn => rw [tr_leaf φ rfl]; exact hφ _ _ .nilfn rfl
  | nilifc => rw [tr_leaf φ rfl]; exact hφ _ _ .nilifc rfl
  | mp b g hb => rw [tr_leaf φ rfl]; exact hφ _ _ (.mp b g hb) rfl
  | nilmp => rw [tr_leaf φ rfl]; exact hφ _ _ .nilmp rfl
  | bad u => rw [tr_leaf φ rfl]; exact hφ _ _ (.bad u) rfl

mutual
theorem tr_id : ∀ x : AV, x.tr (fun y => y) = x
  | .agg cs => by simp [AV.tr, trL_id cs]
  | .tup cs => by simp [AV.tr, trL_id cs]
  | .ifc t v => by simp [AV.tr, tr_id v]
  | .fn f a c => by simp [AV.tr, trL_id a, trL_id c]
  | .int _ _ | .bool _ | .str _ | .ptr _ _ | .nilptr | .sl _ _ _ | .pe _ _ _ _ _ | .nilfn | .nilifc | .mp _ | .nilmp | .bad => rfl
theorem trL_id : ∀ l : List AV, AV.trL (fun y => y) l = l
  | [] => rfl
  | v :: l => by simp [AV.trL, tr_id v, trL_id l]
end

/-- What a step keeps: the blocks that nobody writes, the boxes' numbers, the own slices' blocks but those of 'but'. -/
structure Stays (c c' : Cx) (but : Nat → Prop) (gone : Nat → Prop) : Prop where
  z : ∀ g, c.Z g → c'.Z g ∧ c'.w.heap[g]? = c.w.heap[g]?
  b : ∀ b g, c.bk b = some g → ¬ gone b → c'.bk b = some g
  f : ∀ F g, c.fm F = some g → ¬ but F → c'.fm F = some g ∧ c'.w.heap[g]? = c.w.heap[g]?

/-- A leaf that bears none of what goes away. -/
theorem V.leaf_move {T : Tab} {c c' : Cx} {but gone : Nat → Prop} (hS : Stays c c' but gone) {x : AV} {v : Value} (h : V T c x v) (hx : x.leaf = true) (hf : ∀ F ∈ x.fams, ¬ but F) (hb : ∀ b ∈ x.ptrs, ¬ gone b) : V T c' x v := by
  cases h with
  | int k n => exact .int k n
  | bool b => exact .bool b
  | str s => exact .str s
  | agg => simp [AV.leaf] at hx
  | tup => simp [AV.leaf] at hx
  | ptr b off g hb' => exact .ptr b off g (hS.b b g hb' (hb b (by simp [AV.ptrs])))
  | nilptr => exact .nilptr
  | nilsl t e => exact .nilsl t e
  | slf e xs g o cap us hz hc hm hu hr h1 hs hfl h => exact .slf e xs g o cap us (hS.z g hz).1 hc hm hu (hr.move (hS.z g hz).2) h1 hs hfl fun i x j y u a b d => (h i x j y u a b d).flat_move hS.z (hfl i x a j y b)
  | slo F e xs v g us hF hv ho h1 hs hfl h =>
    obtain ⟨h2, h3⟩ := hS.f F g hF (hf F (by simp [AV.fams]))
    exact .slo F e xs v g us h2 hv (A.own_move ho hv h3) h1 hs hfl fun i x j y u a b d => (h i x j y u a b d).flat_move hS.z (hfl i x a j y b)
  | pef e idx off cs g o us hz hu hr hfl h => exact .pef e idx off cs g o us (hS.z g hz).1 hu (hr.move (hS.z g hz).2) hfl fun j y u a b => (h j y u a b).flat_move hS.z (hfl j y a)
  | peo F e idx off cs g us hF hu hl hn hfl h =>
    obtain ⟨h2, h3⟩ := hS.f F g hF (hf F (by simp [AV.fams]))
    exact .peo F e idx off cs g us h2 hu hl (by rw [h3]; exact hn) hfl fun j y u a b => (h j y u a b).flat_move hS.z (hfl j y a)
  | fn => simp [AV.leaf] at hx
  | nilfn => exact .nilfn
  | ifc => simp [AV.leaf] at hx
  | nilifc => exact .nilifc
  | mp b g hb' => exact .mp b g (hS.b b g hb' (hb b (by simp [AV.ptrs])))
  | nilmp => exact .nilmp
  | bad => exact .bad _

/-- Nothing goes away. -/
theorem V.move {T : Tab} {c c' : Cx} (hS : Stays c c' (fun _ => False) (fun _ => False)) {x : AV} {v : Value} (h : V T c x v) : V T c' x v := by
  have := V.tr (φ := fun y => y) (fun x v hx hl => hx.leaf_move hS hl (fun _ _ => not_false) (fun _ _ => not_false)) h
  rwa [tr_id] at this
end Go.Proofs.YtmlgkojmbnjfbaaDoor.A
