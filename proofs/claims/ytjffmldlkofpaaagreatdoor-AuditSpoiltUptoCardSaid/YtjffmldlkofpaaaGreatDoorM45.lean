/- hawalalaw20: AuditRight, AuditHeld. -/
import Derived.Test.YtjffmldlkofpaaaGreatDoorM43
import Derived.Test.YtjffmldlkofpaaaGreatDoorY14
import Derived.Test.YtjffmldlkofpaaaGreatDoorU7
namespace Go.Proofs.YtjffmldlkofpaaaGreatDoor.A
open Go Q
def bpaC (args : List AV) (bs : List Box) (K : AV → List Box → Prop) : Prop := bs = [] ∧ ∃ (b : Book) (ps : List Paid) (l : List Act), args = [bkA b, padS ps, actsS l] ∧ b.Ok ∧ (∀ p ∈ ps, p.In) ∧ ps.length ≤ 1999900 ∧ (∀ a ∈ l, a.In) ∧ l.length ≤ 1999900 ∧ K (.bool true) []
def RAR : Contract
  | 27 => awakeC
  | 15 => nil2C someC
  | 28 => checkC
  | _ => fun _ _ _ => False
theorem RAR_ok : CallOk Tryz.prog tab RAR := by
  intro f args bs K h
  unfold RAR at h
  split at h
  · exact ⟨_, h, awake_ok⟩
  · exact ⟨_, h, some_ok.nil2⟩
  · exact ⟨_, h, check_ok⟩
  · exact h.elim
def RAR_E (pl : Nat → Plan) : En := ⟨tab, RAR, fun _ => none, 0, pl⟩
theorem RAR_J (pl : Nat → Plan) : JOk Tryz.prog (RAR_E pl).T (RAR_E pl).J := fun _ _ h => by cases h
set_option maxRecDepth 200000 in
set_option maxHeartbeats 6400000 in
theorem aright_ok : FnOk Tryz.prog tab 9 bpaC := by
  refine fn_ok (E := RAR_E pl9) tab_is RAR_ok (RAR_J _) Tryz.func9 rfl rfl (by kernel_rfl) ?_
  rintro args bs K ⟨rfl, b, ps, l, rfl, hb, hps, hpl, hl, hll, hK⟩
  refine ⟨rfl, ?_⟩
  refine ⟨rfl, rfl, ?_⟩
  refine ⟨fun h => Bool.noConfusion (show false = true from h), fun _ => ?_⟩
  have h1 := (some_GB (l := []) hb hps hpl (fun _ h => by cases h)).1
  have h2 := (some_GB hb hps hpl hl).1
  refine ⟨[bkA b, padS ps, actsS []], ⟨.inl (.inl rfl), .inl (.inl rfl), .inl (.inr ⟨_, _, rfl, rfl⟩), trivial⟩, rfl, b, ps, [], rfl, hb, hps, hpl, (fun _ h => by cases h), by decide, ?_⟩
  refine ⟨rfl, someM b ps [], rfl, h1.small, ?_⟩
  rw [faults_nil h1]
  refine ⟨fun _ => ?_, fun h => Bool.noConfusion (show true = false from h)⟩
  refine ⟨[bkA b, padS ps, actsS l], ⟨.inl (.inl rfl), .inl (.inl rfl), .inl (.inl rfl), trivial⟩, rfl, b, ps, l, rfl, hb, hps, hpl, hl, hll, ?_⟩
  refine ⟨rfl, someM b ps l, rfl, h2.small, ?_⟩
  rw [faults_nil h2]
  exact hK
/-! ### what is held of all -/
def sumR (n : Nat) (f : Nat → Int) : Int := sumI ((List.range n).map f)
theorem sumR_succ (n : Nat) (f : Nat → Int) : sumR (n + 1) f = sumR n f + f n := by
  unfold sumR
  rw [List.range_succ, List.map_append, sumI_append]
  simp [sumI]
theorem sumR_add (f g : Nat → Int) : ∀ n, sumR n (fun i => f i + g i) = sumR n f + sumR n g
  | 0 => rfl
  | n + 1 => by rw [sumR_succ, sumR_succ, sumR_succ, sumR_add f g n]; omega
theorem sumR_zero : ∀ n, sumR n (fun _ => 0) = 0
  | 0 => rfl
  | n + 1 => by rw [sumR_succ, sumR_zero n]; rfl
theorem sumR_one (k : Int) (v : Int) : ∀ n : Nat, sumR n (fun i => if k = (i : Int) then v else 0) = if 0 ≤ k ∧ k < n then v else 0
  | 0 => by rw [if_neg (by omega)]; rfl
  | n + 1 => by
    rw [sumR_succ, sumR_one k v n]
    by_cases hk : k = (n : Int)
    · rw [if_neg (by omega), if_pos hk, if_pos (by omega)]; omega
    · rw [if_neg hk]
      by_cases h2 : 0 ≤ k ∧ k < n
      · rw [if_pos h2, if_pos (by omega)]; omega
      · rw [if_neg h2, if_neg (by omega)]; omega
theorem sumR_held {n : Nat} : ∀ {ps : List Pay}, (∀ p ∈ ps, 0 ≤ p.src ∧ p.src < n) → sumR n (fun i => heldP ps i) = sumI (ps.map leftN)
  | [], _ => sumR_zero n
  | p :: ps, h => by
    have e : (fun i : Nat => heldP (p :: ps) i) = fun i : Nat => leftAt (i : Int) p + heldP ps (i : Int) := rfl
    have e2 : (fun i : Nat => leftAt (i : Int) p) = fun i : Nat => if p.src = (i : Int) then leftN p else 0 := rfl
    rw [e, sumR_add, sumR_held (ps := ps) (fun q hq => h q (List.mem_cons_of_mem _ hq)), e2, sumR_one, if_pos (h p (List.mem_cons_self ..))]
    rfl
theorem sumR_heldG {n : Nat} : ∀ {gs : List Sag}, (∀ g ∈ gs, 0 ≤ g.req.a ∧ g.req.a < n) → sumR n (fun i => heldG gs i) = sumI (gs.map (·.req.amt))
  | [], _ => sumR_zero n
  | g :: gs, h => by
    have e : (fun i : Nat => heldG (g :: gs) i) = fun i : Nat => amtAt (i : Int) g + heldG gs (i : Int) := rfl
    have e2 : (fun i : Nat => amtAt (i : Int) g) = fun i : Nat => if g.req.a = (i : Int) then g.req.amt else 0 := rfl
    rw [e, sumR_add, sumR_heldG (gs := gs) (fun q hq => h q (List.mem_cons_of_mem _ hq)), e2, sumR_one, if_pos (h g (List.mem_cons_self ..))]
    rfl
theorem sum_held {s : Sta} (h : GoodA s) : sumI (s.accs.map (·.held)) = sumI (s.pays.map leftN) + sumI (s.sags.map (·.req.amt)) := by
  have e : s.accs.map (·.held) = (List.range s.accs.length).map fun (i : Nat) => heldP s.pays i + heldG s.sags i := by
    apply List.ext_getElem?
    intro i
    rw [List.getElem?_map, List.getElem?_map]
    by_cases hi : i < s.accs.length
    · have ha := List.getElem?_eq_getElem hi
      rw [ha, List.getElem?_range hi]
      exact congrArg some (h.held i _ ha).1
    · rw [List.getElem?_eq_none (by omega), List.getElem?_eq_none (by simp; omega)]; rfl
  rw [e]
  show sumR s.accs.length (fun i => heldP s.pays i + heldG s.sags i) = _
  rw [sumR_add, sumR_held (fun p hp => by have := (h.pay p hp).s; omega), sumR_heldG (fun g hg => by have := h.sga g hg; omega)]
theorem sumI_le2 {α : Type} (f : α → Int) {n : Int} : ∀ {l : List α}, (∀ x ∈ l, 0 ≤ f x ∧ f x ≤ n) → 0 ≤ sumI (l.map f) ∧ sumI (l.map f) ≤ n * l.length
  | [], _ => by simp [sumI]
  | x :: l, h => by
    have h1 := h x (List.mem_cons_self ..)
    have h2 := sumI_le2 f (l := l) (fun y hy => h y (List.mem_cons_of_mem _ hy))
    simp only [List.map_cons, sumI, List.length_cons]
    have : n * ((l.length + 1 : Nat) : Int) = n * (l.length : Int) + n := by rw [Int.natCast_add, Int.mul_add]; simp
    omega
theorem sumI_next {α : Type} (f : α → Int) {l : List α} {i : Nat} {x : α} (h : l[i]? = some x) : sumI ((l.take (i + 1)).map f) = sumI ((l.take i).map f) + f x := by
  rw [List.take_add_one, h, List.map_append, sumI_append]
  simp [sumI]
def RAH : Contract
  | 27 => awakeC
  | 15 => someC
  | 30 => heldC
  | 35 => leftC
  | _ => fun _ _ _ => False
theorem RAH_ok : CallOk Tryz.prog tab RAH := by
  intro f args bs K h
  unfold RAH at h
  split at h
  · exact ⟨_, h, awake_ok⟩
  · exact ⟨_, h, some_ok⟩
  · exact ⟨_, h, held_ok⟩
  · exact ⟨_, h, left_ok⟩
  · exact h.elim
def RAH_E (pl : Nat → Plan) : En := ⟨tab, RAH, fun _ => none, 0, pl⟩
theorem RAH_J (pl : Nat → Plan) : JOk Tryz.prog (RAH_E pl).T (RAH_E pl).J := fun _ _ h => by cases h
set_option maxRecDepth 200000 in
set_option maxHeartbeats 12800000 in
theorem aheld_ok : FnOk Tryz.prog tab 12 bpaC := by
  refine fn_ok (E := RAH_E pl12) tab_is RAH_ok (RAH_J _) Tryz.func12 rfl rfl (by kernel_rfl) ?_
  rintro args bs K ⟨rfl, b, ps, l, rfl, hb, hps, hpl, hl, hll, hK⟩
  refine ⟨rfl, ?_⟩
  have fin : ∀ c, c = true → K (.bool c) [] := fun c e => e ▸ hK
  refine ⟨rfl, rfl, ?_⟩
  refine ⟨fun h => Bool.noConfusion (show false = true from h), fun _ => ?_⟩
  refine ⟨rfl, b, ps, l, rfl, hb, hps, hpl, hl, hll, ?_⟩
  have hG := (some_GB hb hps hpl hl).1
  generalize someM b ps l = s at hG ⊢
  have hla := hG.e.z.la
  have hlp := hG.e.z.lp
  have hls := hG.e.z.ls
  have hS := sum_held hG.g
  have bA : ∀ x ∈ s.accs, 0 ≤ x.held ∧ x.held ≤ 1125899906842624 := fun x hx => by
    obtain ⟨i, hi⟩ := List.mem_iff_getElem?.1 hx
    exact (hG.g.acs.ok i x hi).held
  have bP : ∀ x ∈ s.pays, 0 ≤ leftN x ∧ leftN x ≤ 1099511627776 := fun x hx => (hG.g.pay x hx).leftE.2
  have bG : ∀ x ∈ s.sags, 0 ≤ x.req.amt ∧ x.req.amt ≤ 1099511627776 := fun x hx => by have := hG.g.sga x hx; omega
  refine ⟨rfl, s, rfl, hG.small, ?_⟩
  rw [heldL_of hG.g]
  refine ⟨fun mm st => ∃ (i : Nat), (i ≤ s.accs.length) ∧ s.accs.length - i = mm ∧ st.t 26 = .sl .fz 3 (iA (s.accs.map (·.held))) ∧ st.t 27 = .int .i64 ((iA (s.accs.map (·.held))).length : Nat) ∧ st.t 28 = .int .i64 i ∧ st.t 8 = .int .i64 (sumI ((s.accs.take i).map (·.held))) ∧ st.t 9 = .int .i64 0 ∧ st.t 7 = .ptr 7 0 ∧ st.h 7 = staB s,
    ⟨_, 0, Nat.zero_le _, rfl, rfl, rfl, rfl, rfl, rfl, rfl, rfl⟩, ?_⟩
  rintro _ ⟨t1, h1⟩ ⟨i, hi, rfl, e26, e27, e28, e8, e9, e7, b7⟩
  have e26 : t1 26 = .sl .fz 3 (iA (s.accs.map (·.held))) := e26
  have e27 : t1 27 = .int .i64 ((iA (s.accs.map (·.held))).length : Nat) := e27
  have e28 : t1 28 = .int .i64 i := e28
  have e8 : t1 8 = .int .i64 (sumI ((s.accs.take i).map (·.held))) := e8
  have e9 : t1 9 = .int .i64 0 := e9
  have e7 : t1 7 = .ptr 7 0 := e7
  have b7 : h1 7 = staB s := b7
  rw [← updL_has t1 [(26, .sl .fz 3 (iA (s.accs.map (·.held)))), (27, .int .i64 ((iA (s.accs.map (·.held))).length : Nat)), (28, .int .i64 i), (8, .int .i64 (sumI ((s.accs.take i).map (·.held)))), (9, .int .i64 0), (7, .ptr 7 0)] ⟨e26, e27, e28, e8, e9, e7, trivial⟩, ← updL_has h1 [(7, staB s)] ⟨b7, trivial⟩]
  constructor
  · intro hb'
    have hi' : i < s.accs.length := by
      have := decT hb'
      rw [iA_len, List.length_map] at this; omega
    have w : IntKind.i64.wrap ((i : Int) + 1) = ((i + 1 : Nat) : Int) := by rw [wrap_of] <;> omega
    have hlt : s.accs.length - (i + 1) < s.accs.length - i := by omega
    obtain ⟨a, hx⟩ : ∃ x, s.accs[i]? = some x := ⟨_, List.getElem?_eq_getElem hi'⟩
    have hx1 : (iA (s.accs.map (·.held)))[((i : Nat) : Int).toNat]? = some (.int .i64 a.held) := by
      rw [show ((i : Nat) : Int).toNat = i by omega]
      exact iA_of (by rw [List.getElem?_map, hx]; rfl)
    have h1 := sumI_le2 (·.held) (l := s.accs.take i) (fun x hx => bA x (List.mem_of_mem_take hx))
    have h2 : (s.accs.take i).length ≤ 64 := by rw [List.length_take]; omega
    have h3 := bA a (List.mem_of_getElem? hx)
    have wv : IntKind.i64.wrap (sumI ((s.accs.take i).map (·.held)) + a.held) = sumI ((s.accs.take (i + 1)).map (·.held)) := by
      rw [sumI_next _ hx, wrap_of (by omega) (by omega)]
    refine ⟨_, Int.natCast_nonneg i, hx1, ?_⟩
    exact ⟨_, hlt, i + 1, hi', rfl, rfl, rfl, congrArg (AV.int .i64) w, congrArg (AV.int .i64) wv, rfl, rfl, rfl⟩
  · intro hb'
    have hi' : i = s.accs.length := by
      have := decF hb'
      rw [iA_len, List.length_map] at this; omega
    subst hi'
    rw [List.take_length]
    refine ⟨fun mm st => ∃ (i : Nat), (i ≤ s.pays.length) ∧ s.pays.length - i = mm ∧ st.t 37 = paysA s.pays ∧ st.t 38 = .int .i64 ((s.pays.map payA).length : Nat) ∧ st.t 39 = .int .i64 i ∧ st.t 8 = .int .i64 (sumI (s.accs.map (·.held))) ∧ st.t 9 = .int .i64 (sumI ((s.pays.take i).map leftN)) ∧ st.t 7 = .ptr 7 0 ∧ st.h 7 = staB s,
      ⟨_, 0, Nat.zero_le _, rfl, rfl, rfl, rfl, rfl, rfl, rfl, rfl⟩, ?_⟩
    rintro _ ⟨t2, h2⟩ ⟨i, hi, rfl, e37, e38, e39, e8, e9, e7, b7⟩
    have e37 : t2 37 = paysA s.pays := e37
    have e38 : t2 38 = .int .i64 ((s.pays.map payA).length : Nat) := e38
    have e39 : t2 39 = .int .i64 i := e39
    have e8 : t2 8 = .int .i64 (sumI (s.accs.map (·.held))) := e8
    have e9 : t2 9 = .int .i64 (sumI ((s.pays.take i).map leftN)) := e9
    have e7 : t2 7 = .ptr 7 0 := e7
    have b7 : h2 7 = staB s := b7
    rw [← updL_has t2 [(37, paysA s.pays), (38, .int .i64 ((s.pays.map payA).length : Nat)), (39, .int .i64 i), (8, .int .i64 (sumI (s.accs.map (·.held)))), (9, .int .i64 (sumI ((s.pays.take i).map leftN))), (7, .ptr 7 0)] ⟨e37, e38, e39, e8, e9, e7, trivial⟩, ← updL_has h2 [(7, staB s)] ⟨b7, trivial⟩]
    constructor
    · intro hb
      have hi' : i < s.pays.length := by
        have : (i : Int) < ((s.pays.map payA).length : Nat) := by simpa using hb
        simp at this; omega
      have w : IntKind.i64.wrap ((i : Int) + 1) = ((i + 1 : Nat) : Int) := by rw [wrap_of] <;> omega
      have hlt : s.pays.length - (i + 1) < s.pays.length - i := by omega
      obtain ⟨p, hx⟩ : ∃ x, s.pays[i]? = some x := ⟨_, List.getElem?_eq_getElem hi'⟩
      have hm := List.mem_of_getElem? hx
      have hdr := drop_at hx
      have h1 := sumI_le2 leftN (l := s.pays.take i) (fun x hx => bP x (List.mem_of_mem_take hx))
      have h2 : (s.pays.take i).length ≤ 1999900 := by rw [List.length_take]; omega
      have h3 := bP p hm
      have h4 := (hG.g.pay p hm).leftE.1
      have wv : IntKind.i64.wrap (sumI ((s.pays.take i).map leftN) + left p) = sumI ((s.pays.take (i + 1)).map leftN) := by
        rw [sumI_next _ hx, h4, wrap_of (by omega) (by omega)]
      refine ⟨_, Int.natCast_nonneg i, map_of hx, ?_⟩
      refine ⟨rfl, p, rfl, ?_⟩
      exact ⟨_, hlt, i + 1, hi', rfl, rfl, rfl, congrArg (AV.int .i64) w, rfl, congrArg (AV.int .i64) wv, rfl, rfl⟩
    · intro hb
      have hi' : i = s.pays.length := by
        have : ¬ (i : Int) < ((s.pays.map payA).length : Nat) := by simpa using hb
        simp at this; omega
      subst hi'
      have p1 := sumI_le2 leftN bP
      rw [List.take_length]
      generalize hPs : sumI (s.pays.map leftN) = PS at p1 hS
      refine ⟨fun mm st => ∃ (i : Nat), (i ≤ s.sags.length) ∧ s.sags.length - i = mm ∧ st.t 49 = sagsA s.sags ∧ st.t 50 = .int .i64 ((s.sags.map sagA).length : Nat) ∧ st.t 51 = .int .i64 i ∧ st.t 8 = .int .i64 (sumI (s.accs.map (·.held))) ∧ st.t 9 = .int .i64 (PS + sumI ((s.sags.take i).map (·.req.amt))) ∧ st.t 7 = .ptr 7 0 ∧ st.h 7 = staB s,
        ⟨_, 0, Nat.zero_le _, rfl, rfl, rfl, rfl, rfl, congrArg (AV.int .i64) (by simp [sumI]), rfl, rfl⟩, ?_⟩
      rintro _ ⟨t3, h3⟩ ⟨i, hi, rfl, e49, e50, e51, e8, e9, e7, b7⟩
      have e49 : t3 49 = sagsA s.sags := e49
      have e50 : t3 50 = .int .i64 ((s.sags.map sagA).length : Nat) := e50
      have e51 : t3 51 = .int .i64 i := e51
      have e8 : t3 8 = .int .i64 (sumI (s.accs.map (·.held))) := e8
      have e9 : t3 9 = .int .i64 (PS + sumI ((s.sags.take i).map (·.req.amt))) := e9
      have e7 : t3 7 = .ptr 7 0 := e7
      have b7 : h3 7 = staB s := b7
      rw [← updL_has t3 [(49, sagsA s.sags), (50, .int .i64 ((s.sags.map sagA).length : Nat)), (51, .int .i64 i), (8, .int .i64 (sumI (s.accs.map (·.held)))), (9, .int .i64 (PS + sumI ((s.sags.take i).map (·.req.amt)))), (7, .ptr 7 0)] ⟨e49, e50, e51, e8, e9, e7, trivial⟩, ← updL_has h3 [(7, staB s)] ⟨b7, trivial⟩]
      constructor
      · intro hb
        have hi' : i < s.sags.length := by
          have : (i : Int) < ((s.sags.map sagA).length : Nat) := by simpa using hb
          simp at this; omega
        have w : IntKind.i64.wrap ((i : Int) + 1) = ((i + 1 : Nat) : Int) := by rw [wrap_of] <;> omega
        have hlt : s.sags.length - (i + 1) < s.sags.length - i := by omega
        obtain ⟨g, hx⟩ : ∃ x, s.sags[i]? = some x := ⟨_, List.getElem?_eq_getElem hi'⟩
        have hm := List.mem_of_getElem? hx
        have hdr := drop_at hx
        have h1 := sumI_le2 (·.req.amt) (l := s.sags.take i) (fun x hx => bG x (List.mem_of_mem_take hx))
        have h2 : (s.sags.take i).length ≤ 16 := by rw [List.length_take]; omega
        have h3 := bG g hm
        have wv : IntKind.i64.wrap (PS + sumI ((s.sags.take i).map (·.req.amt)) + g.req.amt) = PS + sumI ((s.sags.take (i + 1)).map (·.req.amt)) := by
          rw [sumI_next _ hx, wrap_of (by omega) (by omega)]; omega
        refine ⟨_, Int.natCast_nonneg i, map_of hx, ?_⟩
        exact ⟨_, hlt, i + 1, hi', rfl, rfl, rfl, congrArg (AV.int .i64) w, rfl, congrArg (AV.int .i64) wv, rfl, rfl⟩
      · intro hb
        have hi' : i = s.sags.length := by
          have : ¬ (i : Int) < ((s.sags.map sagA).length : Nat) := by simpa using hb
          simp at this; omega
        subst hi'
        rw [List.take_length]
        generalize sumI (s.sags.map (·.req.amt)) = GS at hS
        refine ⟨fun mm st => ∃ (i : Nat), (i ≤ s.accs.length) ∧ s.accs.length - i = mm ∧ st.t 62 = accsA s.accs ∧ st.t 63 = .int .i64 ((s.accs.map accA).length : Nat) ∧ st.t 64 = .int .i64 i ∧ st.t 8 = .int .i64 (sumI (s.accs.map (·.held))) ∧ st.t 9 = .int .i64 (PS + GS) ∧ st.t 16 = .int .i64 (sumI ((s.accs.take i).map (·.held))),
          ⟨_, 0, Nat.zero_le _, rfl, rfl, rfl, rfl, rfl, rfl, rfl⟩, ?_⟩
        rintro _ ⟨t4, h4⟩ ⟨i, hi, rfl, e62, e63, e64, e8, e9, e16⟩
        have e62 : t4 62 = accsA s.accs := e62
        have e63 : t4 63 = .int .i64 ((s.accs.map accA).length : Nat) := e63
        have e64 : t4 64 = .int .i64 i := e64
        have e8 : t4 8 = .int .i64 (sumI (s.accs.map (·.held))) := e8
        have e9 : t4 9 = .int .i64 (PS + GS) := e9
        have e16 : t4 16 = .int .i64 (sumI ((s.accs.take i).map (·.held))) := e16
        rw [← updL_has t4 [(62, accsA s.accs), (63, .int .i64 ((s.accs.map accA).length : Nat)), (64, .int .i64 i), (8, .int .i64 (sumI (s.accs.map (·.held)))), (9, .int .i64 (PS + GS)), (16, .int .i64 (sumI ((s.accs.take i).map (·.held))))] ⟨e62, e63, e64, e8, e9, e16, trivial⟩]
        constructor
        · intro hb
          have hi' : i < s.accs.length := by
            have : (i : Int) < ((s.accs.map accA).length : Nat) := by simpa using hb
            simp at this; omega
          have w : IntKind.i64.wrap ((i : Int) + 1) = ((i + 1 : Nat) : Int) := by rw [wrap_of] <;> omega
          have hlt : s.accs.length - (i + 1) < s.accs.length - i := by omega
          obtain ⟨a, hx⟩ : ∃ x, s.accs[i]? = some x := ⟨_, List.getElem?_eq_getElem hi'⟩
          have hm := List.mem_of_getElem? hx
          have hdr := drop_at hx
          have h1 := sumI_le2 (·.held) (l := s.accs.take i) (fun x hx => bA x (List.mem_of_mem_take hx))
          have h2 : (s.accs.take i).length ≤ 64 := by rw [List.length_take]; omega
          have h3 := bA a hm
          have wv : IntKind.i64.wrap (sumI ((s.accs.take i).map (·.held)) + a.held) = sumI ((s.accs.take (i + 1)).map (·.held)) := by
            rw [sumI_next _ hx, wrap_of (by omega) (by omega)]
          refine ⟨_, Int.natCast_nonneg i, map_of hx, ?_⟩
          exact ⟨_, hlt, i + 1, hi', rfl, rfl, rfl, congrArg (AV.int .i64) w, rfl, rfl, congrArg (AV.int .i64) wv⟩
        · intro hb
          have hi' : i = s.accs.length := by
            have : ¬ (i : Int) < ((s.accs.map accA).length : Nat) := by simpa using hb
            simp at this; omega
          subst hi'
          rw [List.take_length, hS]
          have c1 : (PS + GS == PS + GS) = true := by simp
          refine ⟨fun _ => ?_, fun h => absurd (c1.symm.trans h) (by decide)⟩
          exact fin _ c1
end Go.Proofs.YtjffmldlkofpaaaGreatDoor.A
