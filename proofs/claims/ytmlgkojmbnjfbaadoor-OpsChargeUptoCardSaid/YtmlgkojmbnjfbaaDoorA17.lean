/- A function that is handed a slice of its caller's own for good. -/
import Derived.Test.YtmlgkojmbnjfbaaDoorA13
namespace Go.Proofs.YtmlgkojmbnjfbaaDoor.A
open Go
variable {P : Program} {E : En}
/-- A contract, wherever own slices come in. -/
def FnOkG (P : Program) (T : Tab) (f : FuncId) (S : List AV → List Box → (AV → List Box → Prop) → Prop) : Prop := Enters P f ∧ ∀ (args : List AV) (bs : List Box) (K : AV → List Box → Prop), S args bs K → ∀ (c : Cx) (vs : List Value), c.Ok → VL T c args vs → BoxesAt T c bs →
  Calls P f vs.toArray c.w fun e w' => ∃ v c' res out, e = .returned v ∧ c'.w = w' ∧ c'.Ok ∧ Step c c' ∧ V T c' res v ∧ BoxesAt T c' out ∧ K res out
/-- It is a contract. -/
theorem FnOkG.fn {T : Tab} {f : FuncId} {S : List AV → List Box → (AV → List Box → Prop) → Prop} (h : FnOkG P T f S) : FnOk P T f S := ⟨h.1, fun args bs K hS c vs hok _ hV hB => h.2 args bs K hS c vs hok hV hB⟩
theorem fn_okG (hT : TabOk P E.T) (hC : CallOk P E.T E.R) (hJ : JOk P E.T E.J) {f : FuncId} {fn : Func} {code : Code} (hf : P.funcs[f]? = some fn) (hname : (fn.name == "runtime.NumGoroutine") = false) (hb : fn.body = some code) (hk : (okD E.pl fn.ntmps code && Nat.ble fn.ntmps 1000000) = true)
    {S : List AV → List Box → (AV → List Box → Prop) → Prop} (h : ∀ args bs K, S args bs K → Nat.ble args.length fn.ntmps = true ∧ wpA E code (bodyA E.T fn bs K) (enterA args bs)) : FnOkG P E.T f S := by
  refine ⟨fun args w => ?_, fun args bs K hS c vs hok hV hB => ?_⟩
  · have hne : ¬ (fn.name = "runtime.NumGoroutine") := by simpa using hname
    simp [callFunc, hf, hne, hb]
  · obtain ⟨hlen, hwp⟩ := h args bs K hS
    have hlen := Nat.le_of_ble_eq_true hlen
    simp only [Bool.and_eq_true] at hk
    refine calls_of_wp hf hb ?_
    have hsz : (vs.toArray ++ Array.replicate (fn.ntmps - vs.toArray.size) undef).size = fn.ntmps := by
      have := hV.1
      simp
      omega
    have hR : Rel E.T (fun _ => undef) c (enterA args bs) { tmps := vs.toArray ++ Array.replicate (fn.ntmps - vs.toArray.size) undef, defers := [] } := by
      refine ⟨hok, fun j => ?_, fun b x hx => ?_, rfl⟩
      · simp only [enterA]
        cases ha : args[j]? with
        | none => exact .bad _
        | some x =>
          have hj := (List.getElem?_eq_some_iff.1 ha).1
          have hj' : j < vs.length := by rw [← hV.1]; exact hj
          have : vals (fun _ => undef) { tmps := vs.toArray ++ Array.replicate (fn.ntmps - vs.toArray.size) undef, defers := [] } j = vs[j] := by
            have hm := Nat.le_of_ble_eq_true hk.2
            rw [vals, if_pos (by omega), Array.getD_eq_getD_getElem?, Array.getElem?_append_left (by simpa using hj')]
            simp [hj']
          rw [this]
          exact hV.2 j x _ ha (List.getElem?_eq_getElem hj')
      · simp only [enterA] at hx
        split at hx
        · rename_i hb
          have hb := Nat.le_of_ble_eq_true hb
          obtain ⟨g, h1, h2⟩ := hB _ x hx
          rw [show 1000000000 + (b - 1000000000) = b by omega] at h1
          exact ⟨g, h1, h2⟩
        · cases hx
    refine Code.wp_mono (fun e a w q => ?_) (wpA_sound hT hC hJ (Nat.le_of_ble_eq_true hk.2) code _ c _ _ hk.1 (.refl c) hR hsz hwp)
    have fin : ∀ (c' : Cx) (s' : St), c'.w = w → Step c c' → Rel E.T (fun _ => undef) c' s' a → bodyA E.T fn bs K .ret s' → a.defers = [] ∧ ∃ v, (results fn a.tmps).run P w = .ok v w ∧ (∃ v' c'' res out, Ending.returned v = .returned v' ∧ c''.w = w ∧ c''.Ok ∧ Step c c'' ∧ V E.T c'' res v' ∧ BoxesAt E.T c'' out ∧ K res out) := by
      intro c' s' hw h2 h3 h5
      subst hw
      simp only [bodyA] at h5
      split at h5
      · rename_i v out hv ho
        rw [force_iff] at h5
        obtain ⟨u, h6, h7⟩ := ret_sound hT h3 hv
        refine ⟨h3.d, u, h6, u, c', v, out, rfl, rfl, h3.ok, h2, h7, fun i x hx => ?_, h5⟩
        have := out_sound h3 _ _ _ ho i x hx
        rwa [Nat.zero_add] at this
      · exact h5.elim
    cases e with
    | normal => obtain ⟨c', s', h1, h2, h3, h4, h5⟩ := q; exact fin c' s' h1 h2 h3 h5
    | ret => obtain ⟨c', s', h1, h2, h3, h4, h5⟩ := q; exact fin c' s' h1 h2 h3 h5
    | exit i => obtain ⟨c', s', h1, h2, h3, h4, h5⟩ := q; exact h5.elim
    | _ => exact q.elim
/-- Of numbers. -/
def nums (k : IntKind) (e : TypeId) (g : Tag) (l : List Int) : AV := .sl g e (l.map (AV.int k))
def plainL : List AV → Prop
  | [] => True
  | x :: xs => (∃ k n, x = .int k n) ∧ plainL xs
theorem plainL.vl {T : Tab} {c c' : Cx} : ∀ {l : List AV} {us : List Value}, plainL l → VL T c l us → VL T c' l us
  | [], [], _, _ => VL.nil
  | [], _ :: _, _, h => absurd h.1 (by simp)
  | _ :: _, [], _, h => absurd h.1 (by simp)
  | x :: xs, u :: us, hp, h => by
    obtain ⟨⟨k, n, rfl⟩, hp⟩ := hp
    have h0 := (h.2 0 _ u rfl rfl).int_inv
    subst h0
    exact VL.cons (.int k n) (plainL.vl hp ⟨by simpa using h.1, fun i x' u' hx hu => h.2 (i + 1) x' u' (by simpa using hx) (by simpa using hu)⟩)
/-- The first one is handed over: what comes back bears its number (N0, where it was nil). -/
def giveJ (S : List AV → List Box → (AV → List Box → Prop) → Prop) (k : IntKind) (e : TypeId) (N0 : Nat) : StSpec := fun args s K => ∃ (x : AV) (rest : List AV), args = x :: rest ∧ plainL rest ∧
  ((∃ F l, x = nums k e (.own F) l ∧ S (nums k e (.own 0) l :: rest) [] (fun res _ => ∃ G l', res = nums k e (.own G) l' ∧ K (nums k e (.own F) l') (s.mapA (drpF F)))) ∨
   (∃ e0, x = .sl .nl e0 [] ∧ S (x :: rest) [] (fun res _ => ∃ G l', res = nums k e (.own G) l' ∧ K (nums k e (.own N0) l') (s.mapA (drpF N0)))))
theorem nums_move {T : Tab} {c c' : Cx} {k : IntKind} {e : TypeId} {l : List Int} {F G : Nat} {v : Value} (h : V T c (nums k e (.own F) l) v) (hw : c'.w = c.w) (hF : ∀ g, c.fm F = some g → v.ownBlock = some g → c'.fm G = some g) : V T c' (nums k e (.own G) l) v := by
  unfold nums at h ⊢
  generalize hxs : l.map (AV.int k) = xs at h ⊢
  cases h with
  | nilsl => exact .nilsl _ _
  | slo _ _ _ _ g us hF' hv ho h1 hs hf h =>
    refine .slo G e xs v g us (hF g hF' hv) hv (by rw [hw]; exact ho) h1 hs hf fun i x j y u hx hy hu => ?_
    have h0 := h i x j y u hx hy hu
    rw [← hxs, List.getElem?_map] at hx
    cases hl : l[i]? with
    | none => rw [hl] at hx; cases hx
    | some n =>
      rw [hl] at hx
      cases hx
      have hy : [AV.int k n][j]? = some y := hy
      cases j with
      | zero =>
        cases hy
        rw [h0.int_inv]
        exact .int k n
      | succ j => simp at hy
theorem give_ok {T : Tab} {f : FuncId} {S : List AV → List Box → (AV → List Box → Prop) → Prop} (h : FnOkG P T f S) (k : IntKind) (e : TypeId) (N0 : Nat) : SOk P T f (giveJ S k e N0) := by
  refine ⟨h.1, fun args s K hS ρ c a vs hR hV => ?_⟩
  obtain ⟨x, rest, rfl, hp, hS⟩ := hS
  match vs, hV with
  | v0 :: vs, hV =>
    have hv0 := hV.2 0 _ v0 rfl rfl
    have hvr : VL T c rest vs := ⟨by simpa using hV.1, fun i x' u' hx hu => hV.2 (i + 1) x' u' (by simpa using hx) (by simpa using hu)⟩
    -- what the two cases share: F, the number that what comes back bears; og: the block that was handed over
    have key : ∀ (F : Nat) (og : Option Nat) (x0 : AV), (∀ g, og = some g → c.fm F = some g) → V T ⟨c.w, c.Z, fun _ => none, fun G => if G = 0 then og else none⟩ x0 v0 →
        S (x0 :: rest) [] (fun res _ => ∃ G l', res = nums k e (.own G) l' ∧ K (nums k e (.own F) l') (s.mapA (drpF F))) →
        Calls P f (v0 :: vs).toArray c.w fun e w' => ∃ v c' s' res, e = .returned v ∧ c'.w = w' ∧ Step c c' ∧ Rel T ρ c' s' a ∧ V T c' res v ∧ K res s' := by
      intro F og x0 hog hx0 hS0
      have ok0 : Cx.Ok ⟨c.w, c.Z, fun _ => none, fun G => if G = 0 then og else none⟩ := by
        have hcase : ∀ G g, (if G = 0 then og else none) = some g → G = 0 ∧ c.fm F = some g := fun G g hg => by
          split at hg
          · rename_i h0; exact ⟨h0, hog g hg⟩
          · cases hg
        exact ⟨hR.ok.zlt, fun _ _ h => (by cases h), fun G g hg => hR.ok.flt F g (hcase G g hg).2, fun _ _ h => (by cases h), fun G g hG hg => hR.ok.zf F g (hcase G g hG).2 hg, fun _ _ _ h => (by cases h), fun G G' g h1 h2 => (hcase G g h1).1.trans (hcase G' g h2).1.symm, fun _ _ _ h => (by cases h), hR.ok.gl⟩
      refine Calls.mono (h.2 _ _ _ hS0 ⟨c.w, c.Z, fun _ => none, fun G => if G = 0 then og else none⟩ (v0 :: vs) ok0 (VL.cons hx0 (hp.vl hvr)) (fun i x hx => by simp at hx)) ?_
      rintro e' w' ⟨v, c', res, out, rfl, rfl, ok', hS, hres, -, G, l', rfl, hK⟩
      have hwr : ∀ g, Wr ⟨c.w, c.Z, fun _ => none, fun G => if G = 0 then og else none⟩ g → c.fm F = some g := fun g hg => by
        rcases hg with ⟨b, hb⟩ | ⟨G, hG⟩
        · cases hb
        · have hG : (if G = 0 then og else none) = some g := hG
          split at hG
          · exact hog g hG
          · cases hG
      have hopt : ∀ g, (v.ownBlock.bind fun g => if c'.fm G = some g then some g else none) = some g → g < c'.w.heap.size ∧ (c.fm F = some g ∨ c.w.heap.size ≤ g) := fun g hg => by
        obtain ⟨g', _, h2⟩ := Option.bind_eq_some_iff.1 hg
        split at h2
        · rename_i h3
          cases h2
          exact ⟨ok'.flt G g h3, (hS.wr g (.inr ⟨G, h3⟩)).imp (hwr g) id⟩
        · cases h2
      obtain ⟨h1, h2⟩ := hR.fam F c'.w (v.ownBlock.bind fun g => if c'.fm G = some g then some g else none) hS.size hS.os hS.tape hS.output (fun g hg hn => hS.blk g hg (fun hw => hn (hwr g hw))) hopt
      refine ⟨v, ⟨c'.w, c.Z, c.bk, upd c.fm F (v.ownBlock.bind fun g => if c'.fm G = some g then some g else none)⟩, _, _, rfl, rfl, h1, h2, ?_, hK⟩
      refine nums_move (c := c') (F := G) hres rfl fun g hg hv => ?_
      show upd c.fm F _ F = some g
      rw [upd_eq, hv]
      simp [hg]
    rcases hS with ⟨F, l, rfl, hS⟩ | ⟨e0, rfl, hS⟩
    · refine key F (c.fm F) _ (fun g hg => hg) ?_ hS
      exact nums_move hv0 rfl fun g hg _ => hg
    · refine key N0 none _ (fun g hg => by cases hg) ?_ hS
      cases hv0
      exact .nilsl _ _
  | [], hV => exact absurd hV.1 (by simp)
end Go.Proofs.YtmlgkojmbnjfbaaDoor.A
