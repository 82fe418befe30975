/- A call that turns, in place, the slice that it is handed. -/
import Derived.Test.YtbpcofnhndgoeaaDoorGI
namespace Go.Proofs.YtbpcofnhndgoeaaDoor.A
open Go
variable {P : Program} {E : En}
/-- A contract: what the call hands back, and what its arguments say then. -/
def FnOkI (P : Program) (T : Tab) (f : FuncId) (S : List AV → (AV → List AV → Prop) → Prop) : Prop := Enters P f ∧ ∀ (args : List AV) (K : AV → List AV → Prop), S args K → ∀ (c : Cx) (vs : List Value), c.Ok → (∀ b, c.bk b = none) → VL T c args vs →
  Calls P f vs.toArray c.w fun e w' => ∃ v c' res args', e = .returned v ∧ c'.w = w' ∧ c'.Ok ∧ Step c c' ∧ V T c' res v ∧ VL T c' args' vs ∧ K res args'
theorem FnOkI.mono {T : Tab} {f : FuncId} {S S' : List AV → (AV → List AV → Prop) → Prop} (h : FnOkI P T f S) (hm : ∀ args K, S' args K → S args K) : FnOkI P T f S' := ⟨h.1, fun args K hS => h.2 args K (hm args K hS)⟩
def enterI (args : List AV) : St := ⟨fun j => bif Nat.blt j 1000000 then argAt args j else argAt args (j - 1000000), fun _ => none⟩
def argsI (s : St) (i : Nat) : Nat → List AV
  | 0 => []
  | n + 1 => s.t (1000000 + i) :: argsI s (i + 1) n
def bodyI (T : Tab) (fn : Func) (n : Nat) (K : AV → List AV → Prop) : Ex → St → Prop
  | .normal, s | .ret, s => match retA T fn s with
    | some v => force v fun v => K v (argsI s 0 n)
    | none => False
  | _, _ => False
theorem argsI_len (s : St) : ∀ (n i : Nat), (argsI s i n).length = n
  | 0, _ => rfl
  | n + 1, i => by rw [argsI, List.length_cons, argsI_len s n]
theorem argsI_at (s : St) : ∀ (n i j : Nat) (x : AV), (argsI s i n)[j]? = some x → x = s.t (1000000 + i + j)
  | 0, _, j, x, h => by simp [argsI] at h
  | n + 1, i, 0, x, h => by cases h; rfl
  | n + 1, i, j + 1, x, h => by
    have := argsI_at s n (i + 1) j x (by simpa [argsI] using h)
    rwa [show 1000000 + (i + 1) + j = 1000000 + i + (j + 1) by omega] at this
theorem fn_okI (hT : TabOk P E.T) (hC : CallOk P E.T E.R) (hJ : JOk P E.T E.J) {f : FuncId} {fn : Func} {code : Code} (hf : P.funcs[f]? = some fn) (hname : (fn.name == "runtime.NumGoroutine") = false) (hb : fn.body = some code) (hk : (okD E.pl fn.ntmps code && Nat.ble fn.ntmps 1000000) = true)
    {S : List AV → (AV → List AV → Prop) → Prop} (h : ∀ args K, S args K → Nat.ble args.length fn.ntmps = true ∧ wpA E code (bodyI E.T fn args.length K) (enterI args)) : FnOkI P E.T f S := by
  refine ⟨fun args w => ?_, fun args K hS c vs hok hbk hV => ?_⟩
  · have hne : ¬ (fn.name = "runtime.NumGoroutine") := by simpa using hname
    simp [callFunc, hf, hne, hb]
  · obtain ⟨hlen, hwp⟩ := h args K hS
    have hlen := Nat.le_of_ble_eq_true hlen
    simp only [Bool.and_eq_true] at hk
    refine calls_of_wp hf hb ?_
    have hm := Nat.le_of_ble_eq_true hk.2
    have hsz : (vs.toArray ++ Array.replicate (fn.ntmps - vs.toArray.size) undef).size = fn.ntmps := by
      have := hV.1
      simp
      omega
    have hat : ∀ j, V E.T c (argAt args j) (vs.getD j undef) := fun j => by
      unfold argAt
      cases ha : args[j]? with
      | none => exact .bad _
      | some x =>
        have hj := (List.getElem?_eq_some_iff.1 ha).1
        have hj' : j < vs.length := by rw [← hV.1]; exact hj
        rw [List.getD_eq_getElem?_getD, List.getElem?_eq_getElem hj']
        exact hV.2 j x _ ha (List.getElem?_eq_getElem hj')
    have hR : Rel E.T (fun j => vs.getD j undef) c (enterI args) { tmps := vs.toArray ++ Array.replicate (fn.ntmps - vs.toArray.size) undef, defers := [] } := by
      refine ⟨hok, fun j => ?_, fun b x hx => (by cases hx), rfl, fun _ _ => rfl⟩
      show V E.T c (bif Nat.blt j 1000000 then argAt args j else argAt args (j - 1000000)) _
      cases hq : Nat.blt j 1000000 with
      | true =>
        have hlt := blt_iff.1 hq
        rw [cond_true, vals, if_pos hlt]
        unfold argAt
        cases ha : args[j]? with
        | none => exact .bad _
        | some x =>
          have hj := (List.getElem?_eq_some_iff.1 ha).1
          have hj' : j < vs.length := by rw [← hV.1]; exact hj
          rw [Array.getD_eq_getD_getElem?, Array.getElem?_append_left (by simpa using hj')]
          simp only [List.getElem?_toArray, List.getElem?_eq_getElem hj', Option.getD_some]
          exact hV.2 j x _ ha (List.getElem?_eq_getElem hj')
      | false =>
        have hge : ¬ j < 1000000 := fun h => by rw [blt_iff.2 h] at hq; cases hq
        rw [cond_false, vals, if_neg hge]
        exact hat _
    refine Code.wp_mono (fun e a w q => ?_) (wpA_sound hT hC hJ hm code _ c _ _ hk.1 (.refl c) hR hsz hwp)
    have fin : ∀ (c' : Cx) (s' : St), c'.w = w → Step c c' → Rel E.T (fun j => vs.getD j undef) c' s' a → bodyI E.T fn args.length K .ret s' → a.defers = [] ∧ ∃ v, (results fn a.tmps).run P w = .ok v w ∧ (∃ v' c'' res args', Ending.returned v = .returned v' ∧ c''.w = w ∧ c''.Ok ∧ Step c c'' ∧ V E.T c'' res v' ∧ VL E.T c'' args' vs ∧ K res args') := by
      intro c' s' hw h2 h3 h5
      subst hw
      simp only [bodyI] at h5
      split at h5
      · rename_i v hv
        rw [force_iff] at h5
        obtain ⟨u, h6, h7⟩ := ret_sound hT h3 hv
        refine ⟨h3.d, u, h6, u, c', v, _, rfl, rfl, h3.ok, h2, h7, ⟨by rw [argsI_len]; exact hV.1, fun i x u hx hu => ?_⟩, h5⟩
        rw [argsI_at _ _ _ _ _ hx]
        have := h3.t (1000000 + 0 + i)
        rw [vals, if_neg (by omega)] at this
        rw [show 1000000 + 0 + i - 1000000 = i by omega, List.getD_eq_getElem?_getD, hu] at this
        exact this
      · exact h5.elim
    cases e with
    | normal => obtain ⟨c', s', h1, h2, h3, h4, h5⟩ := q; exact fin c' s' h1 h2 h3 h5
    | ret => obtain ⟨c', s', h1, h2, h3, h4, h5⟩ := q; exact fin c' s' h1 h2 h3 h5
    | exit i => obtain ⟨c', s', h1, h2, h3, h4, h5⟩ := q; exact h5.elim
    | _ => exact q.elim
/-- F's slice says something else. -/
noncomputable def setFq (F : Nat) (e : TypeId) (ys : List AV) (n : Nat) (v : AV) : AV := caseA v
  (fun g e' xs => Tag.casesOn g (.sl .nl e' xs) (.sl .fz e' xs) (fun G => bif Nat.beq G F then (bif Nat.beq e' e && Nat.beq xs.length n then .sl (.own F) e ys else .bad) else .sl (.own G) e' xs))
  (fun g e' i o cs => Tag.casesOn g (.pe .nl e' i o cs) (.pe .fz e' i o cs) (fun G => bif Nat.beq G F then .bad else .pe (.own G) e' i o cs)) .ptr .mp
/-- A call that turns its first argument in place; the others are numbers. -/
noncomputable def inpJ (S : List AV → (AV → List AV → Prop) → Prop) : StSpec := fun args s K =>
  (∃ F e x xs rest, args = .sl (.own F) e (x :: xs) :: rest ∧ plainL rest ∧ S (.sl (.own 0) e (x :: xs) :: rest) (fun res args' => ∃ G ys rest', args' = .sl (.own G) e ys :: rest' ∧ ys.length = (x :: xs).length ∧ res = .tup [] ∧ K (.tup []) (s.mapQ (setFq F e ys (x :: xs).length)))) ∨
  ∃ e rest, args = .sl .nl e [] :: rest ∧ plainL rest ∧ S (.sl .nl e [] :: rest) (fun res _ => res = .tup [] ∧ K (.tup []) s)
theorem inp_ok {T : Tab} {f : FuncId} {S : List AV → (AV → List AV → Prop) → Prop} (h : FnOkI P T f S) (hsz : ∀ e F x xs rest K, S (.sl (.own F) e (x :: xs) :: rest) K → 1 ≤ T.size e) : SOk P T f (inpJ S) := by
  refine ⟨h.1, fun args s K hS ρ c a vs hR hV => ?_⟩
  rcases hS with ⟨F, e, x, xs, rest, rfl, hp, hS⟩ | ⟨e, rest, rfl, hp, hS⟩
  · match vs, hV with
    | [], hV => exact absurd hV.1 (by simp)
    | v0 :: vs, hV =>
      have hv0 := hV.2 0 _ v0 rfl rfl
      have hvr : VL T c rest vs := ⟨by simpa using hV.1, fun i x' u' hx hu => hV.2 (i + 1) x' u' (by simpa using hx) (by simpa using hu)⟩
      have h1 := hsz _ _ _ _ _ _ hS
      cases hv0 with
      | slo _ _ _ _ g us hF hv ho o1 o2 o3 o4 =>
        let c0 : Cx := ⟨c.w, c.Z, fun _ => none, fun G => if G = 0 then some g else none⟩
        have hc0 : ∀ G k, c0.fm G = some k → G = 0 ∧ k = g := fun G k hk => by
          have hk : (if G = 0 then some g else none) = some k := hk
          split at hk
          · exact ⟨by assumption, (Option.some.inj hk).symm⟩
          · cases hk
        have ok0 : c0.Ok := ⟨hR.ok.zlt, fun _ _ h => (by cases h), fun G k hk => by rw [(hc0 G k hk).2]; exact hR.ok.flt F g hF, fun _ _ h => (by cases h), fun G k hk hz => by rw [(hc0 G k hk).2] at hz; exact hR.ok.zf F g hF hz, fun _ _ _ h => (by cases h), fun G G' k q1 q2 => (hc0 G k q1).1.trans (hc0 G' k q2).1.symm, fun _ _ _ h => (by cases h), hR.ok.gl⟩
        have hV0 : V T c0 (.sl (.own 0) e (x :: xs)) v0 := .slo 0 e _ v0 g us rfl hv ho o1 o2 o3 fun i x j y u q1 q2 q3 => (o4 i x j y u q1 q2 q3).flat_move (c := c) (c' := c0) (fun k hk => ⟨hk, rfl⟩) (o3 i x q1 j y q2)
        refine Calls.mono (h.2 _ _ hS c0 (v0 :: vs) ok0 (fun _ => rfl) (VL.cons hV0 (hp.vl hvr))) ?_
        rintro e' w' ⟨v, c', res, args', rfl, rfl, ok', hSt, hres, hargs, G, ys, rest', rfl, hyl, rfl, hK⟩
        rw [mapQ_eq] at hK
        have hy := hargs.2 0 _ v0 rfl rfl
        have hw0 : ∀ k, Wr c0 k → k = g := fun k hk => by
          rcases hk with ⟨b, hb⟩ | ⟨G, hG⟩
          · cases hb
          · exact (hc0 G k hG).2
        have hold : ∀ k, k < c.w.heap.size → k ≠ g → c'.w.heap[k]? = c.w.heap[k]? := fun k hk hne => hSt.blk k hk fun hw => hne (hw0 k hw)
        have hsize : c.w.heap.size ≤ c'.w.heap.size := hSt.size
        rcases ho.2 with ⟨hv0n, h0⟩ | ⟨g1, cap, cur, hveq, _, hblk, hc1, hm1, hcs1, hus1⟩
        · simp at h0
        obtain rfl : g1 = g := by rw [hveq] at hv; simpa [Value.ownBlock] using hv
        have hyl' : ys.length = xs.length + 1 := by simpa using hyl
        -- what lies there now
        obtain ⟨us', hG', ho', p1, p2, p3, p4⟩ : ∃ us', c'.fm G = some g1 ∧ c'.w.ownsRow 0 e (T.size e) v0 ys.length us' ∧ (∀ u ∈ us', u.oneCell' = true) ∧ (∀ (i : Nat) (x : AV), ys[i]? = some x → x.cells.length = T.size e) ∧ (∀ (i : Nat) (x : AV), ys[i]? = some x → ∀ (j : Nat) (y : AV), x.cells[j]? = some y → y.flat = true) ∧
            (∀ (i : Nat) (x : AV) (j : Nat) (y : AV) (u : Value), ys[i]? = some x → x.cells[j]? = some y → us'[i * T.size e + j]? = some u → V T c' y u) := by
          cases hy with
          | nilsl => simp at hyl
          | slo _ _ _ _ g2 us' hF' hv' ho' q1 q2 q3 q4 =>
            obtain rfl : g2 = g1 := by rw [hv] at hv'; exact (Option.some.inj hv').symm
            exact ⟨us', hF', ho', q1, q2, q3, q4⟩
        let cf : Cx := ⟨c'.w, c'.Z, c.bk, c.fm⟩
        have hzk : ∀ k, c'.Z k → c.Z k ∨ c.w.heap.size ≤ k := fun k hk => by
          rcases hSt.z' k hk with h | h | h
          · exact .inl h
          · have := hw0 k h; subst this; exact absurd hk (ok'.zf G k hG')
          · exact .inr h
        have hZ1 : ∀ k, c.Z k → cf.Z k ∧ cf.w.heap[k]? = c.w.heap[k]? := fun k hk => ⟨hSt.z k hk, hold k (hR.ok.zlt k hk) fun e => hR.ok.zf F g1 hF (e ▸ hk)⟩
        have hS1 : Stays c cf (fun G => G = F) (fun _ => False) := ⟨hZ1, fun n k hk _ => hk, fun G k hG hn => ⟨hG, hold k (hR.ok.flt G k hG) fun e => hn (hR.ok.ff G F g1 (e ▸ hG) hF)⟩⟩
        have okf : cf.Ok := by
          refine ⟨ok'.zlt, fun n k hk => Nat.lt_of_lt_of_le (hR.ok.blt n k hk) hsize, fun G k hk => Nat.lt_of_lt_of_le (hR.ok.flt G k hk) hsize, fun n k hk hz => ?_, fun G k hG hz => ?_, hR.ok.bb, hR.ok.ff, hR.ok.bf, hR.ok.gl.move hZ1⟩
          · rcases hzk k hz with h | h
            · exact hR.ok.zb n k hk h
            · have := hR.ok.blt n k hk; omega
          · rcases hzk k hz with h | h
            · exact hR.ok.zf G k hG h
            · have := hR.ok.flt G k hG; omega
        have hnew : V T cf (.sl (.own F) e ys) v0 := .slo F e ys v0 g1 us' hF hv ho' p1 p2 p3 fun i x j y u q1 q2 q3 => (p4 i x j y u q1 q2 q3).flat_move (c := c') (c' := cf) (fun k hk => ⟨hk, rfl⟩) (p3 i x q1 j y q2)
        have hφ : ∀ z v, V T c z v → z.leaf = true → V T cf (setFq F e ys (x :: xs).length z) v := by
          intro x2 v2 hx2 hl
          have same : (∀ G ∈ x2.fams, ¬ G = F) → V T cf x2 v2 := fun hp => hx2.leaf_move hS1 hl hp (fun _ _ => not_false)
          cases x2 <;> first | (simp [AV.leaf] at hl; done) | exact same (by simp [AV.fams]) | skip
          case sl t e2 xs2 =>
            cases t <;> first | exact same (by simp [AV.fams]) | skip
            case own G2 =>
              show V T cf (bif Nat.beq G2 F then (bif Nat.beq e2 e && Nat.beq xs2.length (x :: xs).length then .sl (.own F) e ys else .bad) else .sl (.own G2) e2 xs2) v2
              cases hq : Nat.beq G2 F with
              | false => exact same (by simp [AV.fams]; exact beq_false hq)
              | true =>
                cases hq2 : (Nat.beq e2 e && Nat.beq xs2.length (x :: xs).length) with
                | false => exact .bad _
                | true =>
                  rw [Bool.and_eq_true] at hq2
                  have e1 := Nat.eq_of_beq_eq_true hq
                  have e3 := Nat.eq_of_beq_eq_true hq2.1
                  have e4 := (Nat.eq_of_beq_eq_true hq2.2).trans hyl.symm
                  subst e1 e3
                  show V T cf (.sl (.own G2) e2 ys) v2
                  have : v2 = v0 := by
                    cases hx2 with
                    | nilsl => have e5 : 0 = ys.length := e4; omega
                    | slo _ _ _ _ g2 us2 hF2 hv2 ho2 =>
                      obtain rfl : g2 = g1 := Option.some.inj (hF2.symm.trans hF)
                      rcases ho2.2 with ⟨_, h0⟩ | ⟨g3, cap2, cur2, hveq2, _, hblk2, _, _, hcs2, _⟩
                      · omega
                      · obtain rfl : g3 = g2 := by rw [hveq2] at hv2; simpa [Value.ownBlock] using hv2
                        have hcur : cur2 = cur := by rw [hblk] at hblk2; simpa using hblk2.symm
                        subst hcur
                        have : cap2 = cap := Nat.eq_of_mul_eq_mul_right (show 0 < T.size e2 by omega) (hcs2.symm.trans hcs1)
                        rw [hveq2, hveq, this, e4, hyl]
                  rw [this]
                  exact hnew
          case pe t e2 i o cs =>
            cases t <;> first | exact same (by simp [AV.fams]) | skip
            case own G2 =>
              show V T cf (bif Nat.beq G2 F then .bad else .pe (.own G2) e2 i o cs) v2
              cases hq : Nat.beq G2 F with
              | true => exact .bad _
              | false => exact same (by simp [AV.fams]; exact beq_false hq)
        have hstep : Step c cf := by
          refine ⟨hsize, hSt.os, hSt.tape, hSt.output, fun k hk hw => hold k hk fun e => hw (.inr ⟨F, e ▸ hF⟩), fun k hk => .inl hk, fun k hk => hSt.z k hk, fun k hk => (hzk k hk).imp id .inr, fun _ _ _ => rfl⟩
        obtain ⟨m1, m2⟩ := hR.map (c' := cf) hφ (fun _ => False) (fun n k hk _ => ⟨hk, hold k (hR.ok.blt n k hk) fun e => hR.ok.bf n F g1 (e ▸ hk) hF⟩)
        refine ⟨v, cf, _, _, rfl, rfl, hstep, ⟨okf, m1, fun n x hx => m2 n x hx not_false, hR.d, hR.nmap _⟩, ?_, hK⟩
        cases hres with
        | tup _ us2 hl _ =>
          obtain rfl : us2 = [] := List.eq_nil_of_length_eq_zero (by simpa using hl.symm)
          exact .tup [] [] rfl (fun i x u hx => by simp at hx)
  · match vs, hV with
    | [], hV => exact absurd hV.1 (by simp)
    | v0 :: vs, hV =>
      have hvr : VL T c rest vs := ⟨by simpa using hV.1, fun i x' u' hx hu => hV.2 (i + 1) x' u' (by simpa using hx) (by simpa using hu)⟩
      have hv0 := hV.2 0 _ v0 rfl rfl
      let c0 : Cx := ⟨c.w, c.Z, fun _ => none, fun _ => none⟩
      have ok0 : c0.Ok := ⟨hR.ok.zlt, fun _ _ h => (by cases h), fun _ _ h => (by cases h), fun _ _ h => (by cases h), fun _ _ h => (by cases h), fun _ _ _ h => (by cases h), fun _ _ _ h => (by cases h), fun _ _ _ h => (by cases h), hR.ok.gl⟩
      have hV0 : V T c0 (.sl .nl e []) v0 := by cases hv0; exact .nilsl _ _
      refine Calls.mono (h.2 _ _ hS c0 (v0 :: vs) ok0 (fun _ => rfl) (VL.cons hV0 (hp.vl hvr))) ?_
      rintro e' w' ⟨v, c', res, args', rfl, rfl, ok', hSt, hres, -, rfl, hK⟩
      have hw0 : ∀ k, ¬ Wr c0 k := fun k hk => by rcases hk with ⟨b, hb⟩ | ⟨G, hG⟩ <;> contradiction
      have hold : ∀ k, k < c.w.heap.size → c'.w.heap[k]? = c.w.heap[k]? := fun k hk => hSt.blk k hk (hw0 k)
      have hsize : c.w.heap.size ≤ c'.w.heap.size := hSt.size
      let cf : Cx := ⟨c'.w, c'.Z, c.bk, c.fm⟩
      have hzk : ∀ k, c'.Z k → c.Z k ∨ c.w.heap.size ≤ k := fun k hk => (hSt.z' k hk).imp id fun h => h.elim (fun h => absurd h (hw0 k)) id
      have hS1 : Stays c cf (fun _ => False) (fun _ => False) := ⟨fun k hk => ⟨hSt.z k hk, hold k (hR.ok.zlt k hk)⟩, fun n k hk _ => hk, fun G k hG _ => ⟨hG, hold k (hR.ok.flt G k hG)⟩⟩
      have okf : cf.Ok := by
        refine ⟨ok'.zlt, fun n k hk => Nat.lt_of_lt_of_le (hR.ok.blt n k hk) hsize, fun G k hk => Nat.lt_of_lt_of_le (hR.ok.flt G k hk) hsize, fun n k hk hz => ?_, fun G k hG hz => ?_, hR.ok.bb, hR.ok.ff, hR.ok.bf, hR.ok.gl.move hS1.z⟩
        · rcases hzk k hz with h | h
          · exact hR.ok.zb n k hk h
          · have := hR.ok.blt n k hk; omega
        · rcases hzk k hz with h | h
          · exact hR.ok.zf G k hG h
          · have := hR.ok.flt G k hG; omega
      have hstep : Step c cf := ⟨hsize, hSt.os, hSt.tape, hSt.output, fun k hk _ => hold k hk, fun k hk => .inl hk, fun k hk => hSt.z k hk, fun k hk => (hzk k hk).imp id .inr, fun _ _ _ => rfl⟩
      refine ⟨v, cf, s, _, rfl, rfl, hstep, ⟨okf, fun j => (hR.t j).move hS1, fun n x hx => ?_, hR.d, hR.n⟩, ?_, hK⟩
      · obtain ⟨g, h3, h4⟩ := hR.h n x hx
        exact ⟨g, h3, h4.moved hS1 (hold g (hR.ok.blt n g h3)) fun m k _ hk => ⟨hk, hold k (hR.ok.blt m k hk)⟩⟩
      · cases hres with
        | tup _ us2 hl _ =>
          obtain rfl : us2 = [] := List.eq_nil_of_length_eq_zero (by simpa using hl.symm)
          exact .tup [] [] rfl (fun i x u hx => by simp at hx)
end Go.Proofs.YtbpcofnhndgoeaaDoor.A
