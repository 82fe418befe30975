/- A contract's slices, handed on as slices that are only read. -/
import Derived.Test.YtmlgkojmbnjfbaaDoorA12
namespace Go.Proofs.YtmlgkojmbnjfbaaDoor.A
open Go
variable {P : Program}
/-- The same slice, as one that nobody writes. -/
def Fz (res res' : AV) : Prop := (∃ F e xs, res = .sl (.own F) e xs ∧ res' = .sl .fz e xs) ∨ (∃ e e', res = .sl .nl e [] ∧ res' = .sl .fz e' [])
theorem FnOk.fz {T : Tab} {f : FuncId} {S : List AV → List Box → (AV → List Box → Prop) → Prop} (h : FnOk P T f S) : FnOk P T f (fun args bs K => bs = [] ∧ S args bs (fun res _ => ∃ res', Fz res res' ∧ K res' [])) := by
  refine ⟨h.1, fun args bs K hS c vs hok hfm hV hB => ?_⟩
  obtain ⟨rfl, hS⟩ := hS
  refine Calls.mono (h.2 args [] _ hS c vs hok hfm hV hB) ?_
  rintro e w' ⟨v, c', res, out, rfl, rfl, ok', hst, hres, hout, res', hF, hK⟩
  rcases hF with ⟨F, e, xs, rfl, rfl⟩ | ⟨e, e', rfl, rfl⟩
  · have hR : Rel T (fun _ => undef) c' ⟨fun _ => .bad, fun _ => none⟩ { tmps := #[], defers := [] } := ⟨ok', fun j => .bad _, fun b x hx => (by cases hx), rfl⟩
    obtain ⟨c'', h1, h2, h3, h4, h5⟩ := Rel.frzAll [F] hR
    refine ⟨v, c'', _, [], rfl, h2, h4.ok, hst.trans h1, ?_, fun i x hx => by simp at hx, hK⟩
    have := h5 _ _ hres
    unfold AV.frzAll AV.frzAll AV.tr frzF at this
    simpa using this
  · refine ⟨v, c', _, [], rfl, rfl, ok', hst, ?_, fun i x hx => by simp at hx, hK⟩
    cases hres
    exact .nilsl _ _
/-- All of a result's own slices, handed on as slices that nobody writes. -/
theorem FnOk.frz {T : Tab} {f : FuncId} {S : List AV → List Box → (AV → List Box → Prop) → Prop} (h : FnOk P T f S) : FnOk P T f (fun args bs K => bs = [] ∧ S args bs (fun res _ => ∃ res', res.frzAll res.fams = res' ∧ K res' [])) := by
  refine ⟨h.1, fun args bs K hS c vs hok hfm hV hB => ?_⟩
  obtain ⟨rfl, hS⟩ := hS
  refine Calls.mono (h.2 args [] _ hS c vs hok hfm hV hB) ?_
  rintro e w' ⟨v, c', res, out, rfl, rfl, ok', hst, hres, hout, res', rfl, hK⟩
  have hR : Rel T (fun _ => undef) c' ⟨fun _ => .bad, fun _ => none⟩ { tmps := #[], defers := [] } := ⟨ok', fun j => .bad _, fun b x hx => (by cases hx), rfl⟩
  obtain ⟨c'', h1, h2, h3, h4, h5⟩ := Rel.frzAll res.fams hR
  exact ⟨v, c'', _, [], rfl, h2, h4.ok, hst.trans h1, h5 _ _ hres, fun i x hx => by simp at hx, hK⟩
theorem FnOk.mono {T : Tab} {f : FuncId} {S S' : List AV → List Box → (AV → List Box → Prop) → Prop} (h : FnOk P T f S) (hm : ∀ args bs K, S' args bs K → S args bs K) : FnOk P T f S' := ⟨h.1, fun args bs K hS => h.2 args bs K (hm args bs K hS)⟩
/-- A nil slice is an empty one that nobody writes. -/
def NilA (v v' : AV) : Prop := v' = v ∨ ∃ e e', v = .sl .nl e [] ∧ v' = .sl .fz e' []
def NilL : List AV → List AV → Prop
  | [], [] => True
  | v :: vs, v' :: vs' => NilA v v' ∧ NilL vs vs'
  | _, _ => False
theorem NilL.vl {T : Tab} {c : Cx} : ∀ {l l' : List AV} {us : List Value}, NilL l l' → VL T c l us → VL T c l' us
  | [], [], _, _, h => h
  | [], _ :: _, _, h, _ => h.elim
  | _ :: _, [], _, h, _ => h.elim
  | v :: vs, v' :: vs', [], _, hv => absurd hv.1 (by simp)
  | v :: vs, v' :: vs', u :: us, h, hv => by
    refine VL.cons ?_ (NilL.vl h.2 ⟨by have := hv.1; simpa using this, fun i x u' hx hu => hv.2 (i + 1) x u' (by simpa using hx) (by simpa using hu)⟩)
    have h0 := hv.2 0 v u rfl rfl
    rcases h.1 with rfl | ⟨e, e', rfl, rfl⟩
    · exact h0
    · cases h0
      exact .nilsl _ _
def nilC (S : List AV → List Box → (AV → List Box → Prop) → Prop) (args : List AV) (bs : List Box) (K : AV → List Box → Prop) : Prop := ∃ args', NilL args args' ∧ S args' bs K
theorem FnOk.nil {T : Tab} {f : FuncId} {S : List AV → List Box → (AV → List Box → Prop) → Prop} (h : FnOk P T f S) : FnOk P T f (nilC S) :=
  ⟨h.1, fun _ bs K ⟨args', hN, hS⟩ c vs hok hfm hV hB => h.2 args' bs K hS c vs hok hfm (hN.vl hV) hB⟩
end Go.Proofs.YtmlgkojmbnjfbaaDoor.A
