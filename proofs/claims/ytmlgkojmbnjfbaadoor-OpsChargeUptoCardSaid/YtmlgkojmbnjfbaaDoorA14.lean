/- What an argument of a call reads as, as an abstract value; a law's call. -/
import Derived.Test.YtmlgkojmbnjfbaaDoorA13
import Derived.Below
import Derived.ChangeArms
import Derived.DataReads
import Derived.ChangeShapes
import Derived.WideShapes
import Derived.ChangeSlices
import Derived.OpenShut
namespace Go.Proofs.YtmlgkojmbnjfbaaDoor.A
open Go
variable {P : Program}
def kindsL (f : TypeId → Option (List LK)) : Nat → List (Nat × TypeId) → Option (List LK)
  | _, [] => some []
  | o, (p, u) :: fs => match Nat.beq p o, f u with
    | true, some ks => match kindsL f (o + ks.length) fs with
      | some r => some (ks ++ r)
      | none => none
    | _, _ => none
/-- The kinds of a plain type's cells. -/
def kinds0 (T : Tab) (f : TypeId → Option (List LK)) (t : TypeId) : Option (List LK) := match T.desc t with
  | .int k => some [.int k]
  | .bool => some [.bool]
  | .str => some [.str]
  | .struct fs => kindsL f 0 fs
  | .arr n e => match f e with
    | some ks => some (List.replicate n ks).flatten
    | none => none
  | _ => none
def kindsA (T : Tab) : Nat → TypeId → Option (List LK)
  | 0, _ => none
  | n + 1, t => match kinds0 T (kindsA T n) t with
    | some ks => match Nat.beq (T.size t) ks.length with
      | true => some ks
      | false => none
    | none => none
def FitV1 : LK → Value → Prop
  | .int k, v => ∃ n, v = .int k n ∧ (Lit.int k n).wf = true
  | .bool, v => ∃ b, v = .bool b
  | .str, v => ∃ s, v = .string s ∧ s.size ≤ maxLen
def FitV : List LK → List Value → Prop
  | [], [] => True
  | k :: ks, v :: vs => FitV1 k v ∧ FitV ks vs
  | _, _ => False
def FitA1 : LK → AV → Prop
  | .int k, v => ∃ n, v = .int k n ∧ (Lit.int k n).wf = true
  | .bool, v => ∃ b, v = .bool b
  | .str, v => ∃ s, v = .str s ∧ s.size ≤ maxLen
def FitA : List LK → List AV → Prop
  | [], [] => True
  | k :: ks, v :: vs => FitA1 k v ∧ FitA ks vs
  | _, _ => False
theorem FitV.len : ∀ {ks : List LK} {vs : List Value}, FitV ks vs → vs.length = ks.length
  | [], [], _ => rfl
  | [], _ :: _, h => h.elim
  | _ :: _, [], h => h.elim
  | _ :: _, _ :: _, h => by simp [FitV.len h.2]
theorem FitA.len : ∀ {ks : List LK} {vs : List AV}, FitA ks vs → vs.length = ks.length
  | [], [], _ => rfl
  | [], _ :: _, h => h.elim
  | _ :: _, [], h => h.elim
  | _ :: _, _ :: _, h => by simp [FitA.len h.2]
theorem FitV.append : ∀ {ks ks' : List LK} {vs vs' : List Value}, FitV ks vs → FitV ks' vs' → FitV (ks ++ ks') (vs ++ vs')
  | [], _, [], _, _, h => h
  | [], _, _ :: _, _, h, _ => h.elim
  | _ :: _, _, [], _, h, _ => h.elim
  | _ :: _, _, _ :: _, _, h, h' => ⟨h.1, FitV.append h.2 h'⟩
theorem fitL {f : TypeId → Option (List LK)} {cs : List Value} : ∀ {fs : List (Nat × TypeId)} {o : Nat} {r : List LK}, kindsL f o fs = some r → (∀ p u ks, (p, u) ∈ fs → f u = some ks → FitV ks ((cs.drop p).take ks.length)) → FitV r ((cs.drop o).take r.length)
  | [], o, r, h, _ => by cases h; simp [FitV]
  | (p, u) :: fs, o, r, h, hf => by
    unfold kindsL at h
    split at h
    · rename_i ks hb hk
      obtain rfl := Nat.eq_of_beq_eq_true hb
      split at h
      · rename_i r' hr
        cases h
        have h1 := hf p u ks (List.mem_cons_self ..) hk
        have h2 := fitL hr (fun p' u' ks' hm => hf p' u' ks' (List.mem_cons_of_mem _ hm))
        have e : (cs.drop p).take (ks ++ r').length = (cs.drop p).take ks.length ++ (cs.drop (p + ks.length)).take r'.length := by
          rw [List.length_append, List.take_add, List.drop_drop]
        rw [e]
        exact h1.append h2
      · cases h
    · cases h
theorem cells_size {T : Tab} (hT : TabOk P T) {t : TypeId} (h : T.desc t ≠ .other) : P.cellsOf t = T.size t := by
  obtain ⟨i, z, h1, h2, _⟩ := hT.info t h
  simp [Program.cellsOf, h1, h2]
theorem kinds_known {T : Tab} : ∀ {n : Nat} {t : TypeId} {ks : List LK}, kindsA T n t = some ks → T.desc t ≠ .other ∧ T.size t = ks.length
  | 0, _, _, h => by cases h
  | n + 1, t, ks, h => by
    unfold kindsA at h
    split at h
    · rename_i ks' hk
      split at h
      · rename_i hb
        cases h
        refine ⟨fun e => ?_, Nat.eq_of_beq_eq_true hb⟩
        unfold kinds0 at hk
        rw [e] at hk
        cases hk
      · cases h
    · cases h
theorem fit_trod {T : Tab} (hT : TabOk P T) {H : Type} {enc : TypeId × Value → H} {w : World} {base : Nat} {sp : Nat → Bool} {held : Bool} : ∀ {n : Nat} {t : TypeId} {ks : List LK} {fuel : Nat} {cs : List Value} {x : DataW H × List MemPlace},
    kindsA T n t = some ks → DataW.trod enc P w base sp held fuel t cs = some x → FitV ks cs
  | 0, _, _, _, _, _, h, _ => by cases h
  | n + 1, t, ks, fuel, cs, x, h, hx => by
    have hk0 := kinds_known h
    have hsz := cells_size hT hk0.1
    unfold kindsA at h
    split at h
    · rename_i ks' hk
      split at h
      · cases h
        unfold kinds0 at hk
        split at hk
        · rename_i k hd
          cases hk
          obtain ⟨m, rfl, _, hw⟩ := DataW.trod_int (hT.int t k hd) hx
          exact ⟨⟨m, rfl, hw⟩, trivial⟩
        · rename_i hd
          cases hk
          obtain ⟨b, rfl, _⟩ := DataW.trod_bool (hT.bool t hd) hx
          exact ⟨⟨b, rfl⟩, trivial⟩
        · rename_i hd
          cases hk
          obtain ⟨s, rfl, _, hs⟩ := DataW.trod_string (hT.str t hd) hx
          exact ⟨⟨s, rfl, hs⟩, trivial⟩
        · rename_i fs hd
          obtain ⟨fields, hu, hfs, hkn⟩ := hT.struct t fs hd
          obtain ⟨xs, m, _, _, hl, _, hall⟩ := DataW.trod_struct hu hx
          have := fitL (cs := cs) hk (fun p u ku hm hku => by
            rw [← hfs] at hm
            obtain ⟨f, hf, e⟩ := List.mem_map.1 hm
            cases e
            obtain ⟨i, hi⟩ := List.getElem?_of_mem hf
            have hi' : fields[i]? = some f := by rw [← Array.getElem?_toList]; exact hi
            have h1 := hall i f hi'
            have hku' := kinds_known hku
            rw [cells_size hT hku'.1, hku'.2] at h1
            cases hxi : xs[i]? with
            | none =>
              rw [hxi] at h1
              have h2 := (Array.getElem?_eq_some_iff.1 hi').1
              have h3 := List.getElem?_eq_none_iff.1 hxi
              rename_i hxl
              omega
            | some y =>
              rw [hxi] at h1
              exact fit_trod hT hku h1)
          rw [List.drop_zero] at this
          rwa [List.take_of_length_le (by rw [hl, hsz, hk0.2]; exact Nat.le_refl _)] at this
        · rename_i len e hd
          split at hk
          · rename_i ke hke
            cases hk
            obtain ⟨hu, hkn⟩ := hT.arr t len e hd
            obtain ⟨xs, m, _, _, hl, hxl, hall⟩ := DataW.trod_array hu hx
            have hke' := kinds_known hke
            rw [cells_size hT hke'.1, hke'.2] at hall
            have hcl : cs.length = len * ke.length := by rw [hl, hsz, hk0.2]; simp
            have each : ∀ i, i < len → FitV ke ((cs.drop (i * ke.length)).take ke.length) := by
              intro i hi
              have h1 := hall i hi
              rw [List.getElem?_eq_getElem (by omega)] at h1
              exact fit_trod hT hke h1
            clear hall hl hx hk0 hsz
            have : ∀ k cs', cs'.length = k * ke.length → (∀ i, i < k → FitV ke ((cs'.drop (i * ke.length)).take ke.length)) → FitV (List.replicate k ke).flatten cs' := by
              intro k
              induction k with
              | zero =>
                intro cs' hc _
                have : cs' = [] := List.length_eq_zero_iff.1 (by simpa using hc)
                subst this
                simp [FitV]
              | succ k ih =>
                intro cs' hc hf
                rw [List.replicate_succ, List.flatten_cons, ← List.take_append_drop ke.length cs']
                refine FitV.append (by simpa using hf 0 (by omega)) (ih _ (by rw [List.length_drop, hc, Nat.succ_mul]; omega) fun i hi => ?_)
                have := hf (i + 1) (by omega)
                rw [List.drop_drop, show ke.length + i * ke.length = (i + 1) * ke.length by rw [Nat.succ_mul]; omega]
                exact this
            exact this len cs hcl each
          · cases hk
        · cases hk
      · cases h
    · cases h
/-- Such cells, as abstract ones. -/
theorem fit_av {T : Tab} {c : Cx} : ∀ {ks : List LK} {cs : List Value}, FitV ks cs → ∃ avs, FitA ks avs ∧ VL T c avs cs ∧ (∀ u ∈ cs, u.oneCell' = true) ∧ ∀ a ∈ avs, a.flat = true ∧ a.isCell = true ∧ a.cells = [a]
  | [], [], _ => ⟨[], trivial, VL.nil, fun u h => by simp at h, fun a h => by simp at h⟩
  | [], _ :: _, h => h.elim
  | _ :: _, [], h => h.elim
  | k :: ks, v :: vs, h => by
    obtain ⟨avs, h1, h2, h3, h4⟩ := fit_av (T := T) (c := c) h.2
    have key : ∃ a, FitA1 k a ∧ V T c a v ∧ v.oneCell' = true ∧ a.flat = true ∧ a.isCell = true ∧ a.cells = [a] := by
      cases k with
      | int k => obtain ⟨n, rfl, hw⟩ := h.1; exact ⟨.int k n, ⟨n, rfl, hw⟩, .int k n, rfl, rfl, rfl, rfl⟩
      | bool => obtain ⟨b, rfl⟩ := h.1; exact ⟨.bool b, ⟨b, rfl⟩, .bool b, rfl, rfl, rfl, rfl⟩
      | str => obtain ⟨s, rfl, hs⟩ := h.1; exact ⟨.str s, ⟨s, rfl, hs⟩, .str s, rfl, rfl, rfl, rfl⟩
    obtain ⟨a, ha, hv, h1c, hfl⟩ := key
    refine ⟨a :: avs, ⟨ha, h1⟩, VL.cons hv h2, fun u hu => ?_, fun b hb => ?_⟩
    · rcases List.mem_cons.1 hu with rfl | hu
      · exact h1c
      · exact h3 u hu
    · rcases List.mem_cons.1 hb with rfl | hb
      · exact hfl
      · exact h4 b hb
def wrapT (T : Tab) (t : TypeId) (avs : List AV) : AV := match (T.desc t).isAgg with
  | some true => .agg avs
  | _ => avs.headD .bad
/-- The context in which a law is called: all that is there is written no more. -/
def cx0 (W : World) : Cx := ⟨W, fun g => g < W.heap.size, fun _ => none, fun _ => none⟩
theorem cx0_ok (W : World) (hg : (cx0 W).Gl) : (cx0 W).Ok where
  gl := hg
  zlt := fun _ h => h
  blt := fun _ _ h => by cases h
  flt := fun _ _ h => by cases h
  zb := fun _ _ h => by cases h
  zf := fun _ _ h => by cases h
  bb := fun _ _ _ h => by cases h
  ff := fun _ _ _ h => by cases h
  bf := fun _ _ _ h => by cases h
theorem wrap_cells {T : Tab} {n : Nat} {t : TypeId} {ks : List LK} {avs : List AV} (h : kindsA T n t = some ks) (hf : FitA ks avs) (hc : ∀ a ∈ avs, a.cells = [a]) : (wrapT T t avs).cells = avs := by
  unfold wrapT
  cases n with
  | zero => cases h
  | succ n =>
    unfold kindsA at h
    split at h
    · rename_i ks' hk
      split at h
      · cases h
        unfold kinds0 at hk
        split at hk
        case h_4 fs hd => rw [hd]; rfl
        case h_5 len e hd => rw [hd]; rfl
        case h_6 => cases hk
        all_goals
          rename_i hd
          rw [hd]
          cases hk
          match avs, hf, hc with
          | [a], _, hc => exact hc a (List.mem_singleton.2 rfl)
      · cases h
    · cases h
/-- A slice that came in. -/
theorem slice_in {T : Tab} (hT : TabOk P T) {H : Type} {enc : TypeId × Value → H} {W : World} {t e : TypeId} {n b0 : Nat} {ks : List LK} {v : Value} {d : DataW H} {ps : List MemPlace} (hd : T.desc t = .slice e) (hk : kindsA T n e = some ks)
    (hok : Value.okWide P W .any b0 t v) (h : DataW.Trod enc P W 0 (fun _ => true) true t v d ps) : ∃ rows : List (List AV), (∀ r ∈ rows, FitA ks r) ∧ V T (cx0 W) (.sl .fz e (rows.map (wrapT T e))) v := by
  have hu := (hT.slice t e hd).1
  obtain ⟨a, len, cap, rfl⟩ := WideShapes.okWide_slice hu hok
  obtain ⟨fuel, hf⟩ := h
  have hkn := kinds_known hk
  have hce : P.cellsOf e = ks.length := (cells_size hT hkn.1).trans hkn.2
  rcases DataW.trod_slice hu hf with ⟨h0, _⟩ | ⟨a', len', cap', elems, rest, m, _, h0, _, _, hl, hm, hlen, hel, _⟩
  · simp [Value.cells] at h0
    obtain ⟨rfl, rfl, rfl⟩ := h0
    exact ⟨[], fun r h => by simp at h, .nilsl _ _⟩
  · simp [Value.cells] at h0
    obtain ⟨rfl, rfl, rfl⟩ := h0
    have hhas : a'.spot = none ∧ ∃ row cells, W.shape? a'.block = some (row, cells) := by
      simp only [Value.okWide, hu, Cell.okWide, Cell.ok] at hok
      exact ⟨hok.2.2.2.1, by obtain ⟨row, cells, h, _⟩ := hok.2.2.2.2; exact ⟨row, cells, h⟩⟩
    obtain ⟨hs, row, cells, hsh⟩ := hhas
    obtain ⟨g, o, spot⟩ := a'
    obtain rfl : spot = none := hs
    have hg : g < W.heap.size := by
      unfold World.shape? at hsh
      split at hsh
      · rename_i c el _ hh
        exact (Array.getElem?_eq_some_iff.1 hh).1
      · cases hsh
    have each : ∀ i, i < len → ∃ us avs, us.length = ks.length ∧ (∀ j u, us[j]? = some u → W.cell? ⟨g, o + (i * ks.length + j), none⟩ = some u) ∧ FitA ks avs ∧ VL T (cx0 W) avs us ∧ (∀ u ∈ us, u.oneCell' = true) ∧ ∀ a ∈ avs, a.flat = true ∧ a.isCell = true ∧ a.cells = [a] := by
      intro i hi
      have h1 := hel i hi
      have hei : elems[i]? = some (elems[i]'(by omega)) := List.getElem?_eq_getElem _
      rw [hei, Option.bind_eq_some_iff] at h1
      obtain ⟨cs, hcs, htr⟩ := h1
      obtain ⟨_, hcl, hcc⟩ := World.cells?_some hcs
      obtain ⟨avs, q1, q2, q3, q4⟩ := fit_av (T := T) (c := cx0 W) (fit_trod hT hk htr)
      refine ⟨cs, avs, by rw [hcl, hce], fun j u hj => ?_, q1, q2, q3, q4⟩
      have hjl : j < P.cellsOf e := by rw [← hcl]; exact (List.getElem?_eq_some_iff.1 hj).1
      have := hcc j hjl
      rw [hj, hce] at this
      have e1 : ∀ (x y : Nat), (⟨g, x, none⟩ : Addr).add y = ⟨g, x + y, none⟩ := fun x y => by unfold Addr.add; split <;> simp_all
      rw [e1, e1, Nat.add_assoc] at this
      exact this
    have build : ∀ m, m ≤ len → ∃ (us : List Value) (rows : List (List AV)), us.length = m * ks.length ∧ rows.length = m ∧ (∀ r ∈ rows, FitA ks r ∧ ∀ a ∈ r, a.flat = true ∧ a.isCell = true ∧ a.cells = [a]) ∧ (∀ j u, us[j]? = some u → W.cell? ⟨g, o + j, none⟩ = some u) ∧ (∀ u ∈ us, u.oneCell' = true) ∧
        ∀ (i : Nat) (r : List AV) (j : Nat) (y : AV) (u : Value), rows[i]? = some r → r[j]? = some y → us[i * ks.length + j]? = some u → V T (cx0 W) y u := by
      intro m
      induction m with
      | zero => intro _; exact ⟨[], [], by simp, rfl, fun r h => by simp at h, fun j u h => by simp at h, fun u h => by simp at h, fun i r j y u h => by simp at h⟩
      | succ m ih =>
        intro hm
        obtain ⟨us, rows, i1, i2, i3, i4, i5, i6⟩ := ih (by omega)
        obtain ⟨vs, avs, e1, e2, e3, e4, e5, e6⟩ := each m (by omega)
        refine ⟨us ++ vs, rows ++ [avs], ?_, by simp [i2], ?_, ?_, ?_, ?_⟩
        · rw [List.length_append, i1, e1, Nat.succ_mul]
        · intro r hr
          rcases List.mem_append.1 hr with hr | hr
          · exact i3 r hr
          · rcases List.mem_singleton.1 hr with rfl
            exact ⟨e3, e6⟩
        · intro j u hj
          by_cases hjl : j < us.length
          · rw [List.getElem?_append_left hjl] at hj; exact i4 j u hj
          · rw [List.getElem?_append_right (by omega)] at hj
            have := e2 _ u hj
            rw [i1] at this
            rwa [show m * ks.length + (j - m * ks.length) = j by omega] at this
        · intro u hu
          rcases List.mem_append.1 hu with hu | hu
          · exact i5 u hu
          · exact e5 u hu
        · intro i r j y u hr hy hu
          by_cases hi : i < rows.length
          · rw [List.getElem?_append_left hi] at hr
            have hrk := (i3 r (List.mem_of_getElem? hr)).1.len
            have hj : j < ks.length := by rw [← hrk]; exact (List.getElem?_eq_some_iff.1 hy).1
            have : i * ks.length + j < us.length := by
              rw [i1]
              calc i * ks.length + j < i * ks.length + ks.length := by omega
                _ = (i + 1) * ks.length := by rw [Nat.succ_mul]
                _ ≤ m * ks.length := Nat.mul_le_mul_right _ (by omega)
            rw [List.getElem?_append_left this] at hu
            exact i6 i r j y u hr hy hu
          · rw [List.getElem?_append_right (by omega)] at hr
            have hi0 : i - rows.length = 0 := by
              have := (List.getElem?_eq_some_iff.1 hr).1
              simp at this; omega
            have him : i = m := by omega
            rw [hi0] at hr
            cases hr
            subst him
            rw [List.getElem?_append_right (by rw [i1]; omega), i1, show i * ks.length + j - i * ks.length = j by omega] at hu
            exact e4.2 j y u hy hu
    obtain ⟨us, rows, b1, b2, b3, b4, b5, b6⟩ := build len (Nat.le_refl _)
    refine ⟨rows, fun r hr => (b3 r hr).1, ?_⟩
    have hcell : ∀ r ∈ rows, (wrapT T e r).cells = r := fun r hr => wrap_cells hk (b3 r hr).1 (fun a ha => ((b3 r hr).2 a ha).2.2)
    have hlen' : (rows.map (wrapT T e)).length = len := by simp [b2]
    have key : ∀ (i : Nat) (x : AV), (rows.map (wrapT T e))[i]? = some x → ∃ r, rows[i]? = some r ∧ r ∈ rows ∧ x.cells = r := by
      intro i x hx
      rw [List.getElem?_map] at hx
      cases hr : rows[i]? with
      | none => rw [hr] at hx; cases hx
      | some r => rw [hr] at hx; cases hx; exact ⟨r, rfl, List.mem_of_getElem? hr, hcell r (List.mem_of_getElem? hr)⟩
    have := V.slf (T := T) (c := cx0 W) e (rows.map (wrapT T e)) g o cap us hg (by rw [hlen']; exact hl) hm (by rw [hlen', b1, hkn.2]) (fun j u hj => b4 j u hj) b5
      (fun i x hx => by obtain ⟨r, _, hr, hc⟩ := key i x hx; rw [hc, (b3 r hr).1.len, hkn.2])
      (fun i x hx j y hy => by obtain ⟨r, _, hr, hc⟩ := key i x hx; rw [hc] at hy; exact ((b3 r hr).2 y (List.mem_of_getElem? hy)).1)
      (fun i x j y u hx hy hu => by obtain ⟨r, hri, hr, hc⟩ := key i x hx; rw [hc] at hy; rw [hkn.2] at hu; exact b6 i r j y u hri hy hu)
    rwa [hlen'] at this
/-- A law's call: it yields true, and nothing that was there has turned. -/
theorem law_calls {T : Tab} {f : FuncId} {S : List AV → List Box → (AV → List Box → Prop) → Prop} (h : FnOk P T f S) {W : World} (hg : (cx0 W).Gl) {args : List AV} {vs : List Value} (hS : S args [] (fun res _ => res = .bool true)) (hV : VL T (cx0 W) args vs) :
    Calls P f vs.toArray W fun e W' => e = .returned (.bool true) ∧ RowKit.Below W.heap.size W W' := by
  refine Calls.mono (h.2 args [] _ hS (cx0 W) vs (cx0_ok W hg) (fun _ => rfl) hV (fun i x hx => by simp at hx)) ?_
  rintro e w' ⟨v, c', res, out, rfl, rfl, ok', hst, hres, -, rfl⟩
  cases hres
  refine ⟨rfl, hst.os, hst.tape, hst.output, hst.size, fun k hk => hst.blk k hk (fun hw => ?_)⟩
  rcases hw with ⟨b, hb⟩ | ⟨F, hF⟩
  · cases hb
  · cases hF
end Go.Proofs.YtmlgkojmbnjfbaaDoor.A
