/- law15.State. -/
import Derived.Test.YtmlgkojmbnjfbaaDoorM9
namespace Go.Proofs.YtmlgkojmbnjfbaaDoor.A
open Go Q
/-! ### Accounts, for a book whose holds are none -/
def bookC (args : List AV) (bs : List Box) (K : AV → List Box → Prop) : Prop := bs = [] ∧ ∃ curs has : List Int, args = [bookAV curs has] ∧ curs.length ≤ 8 ∧ (∀ c ∈ curs, u8I c) ∧ has.length ≤ 100000000000000 ∧ K (accsA (bookL curs has)) []
theorem book_ok : FnOk Tryd.prog tab 23 bookC := book_ok0.frz.mono (by
  rintro args bs K ⟨rfl, curs, has, rfl, h1, h2, h3, hK⟩
  exact ⟨rfl, rfl, curs, has, rfl, h1, h2, h3, _, rfl, hK⟩)
structure Book where
  (curs has helds : List Int)
structure Book.In (b : Book) : Prop where
  c : ∀ n ∈ b.curs, u8I n
  lc : b.curs.length ≤ 140737488355328
  lh : b.has.length ≤ 100000000000000
def bkA (b : Book) : AV := .agg [u8S b.curs, u32S b.has, u8S b.helds]
def curs6 (b : Book) : List Int := (b.curs.take 6 ++ [0, 1, 2, 0, 1, 0]).take 6
theorem curs6_len (b : Book) : (curs6 b).length = 6 := by
  unfold curs6
  rw [List.length_take, List.length_append, List.length_take]
  have : [0, 1, 2, 0, 1, (0 : Int)].length = 6 := rfl
  omega
theorem curs6_in {b : Book} (h : b.In) : ∀ c ∈ curs6 b, u8I c := fun c hc => by
  unfold curs6 at hc
  have hc := List.mem_of_mem_take hc
  rcases List.mem_append.1 hc with hc | hc
  · exact h.c c (List.mem_of_mem_take hc)
  · simp at hc
    exact ⟨by omega, by omega⟩
theorem bookGo_len {has : List Int} : ∀ {cs : List Int} {al : List Acc} {k : Nat}, (∀ c ∈ cs, u8I c) → 9 ≤ al.length → (bookGo has al k cs).length = al.length + cs.length
  | [], _, _, _, _ => rfl
  | c :: cs, al, k, h, hl => by
    have h1 := bookStep_len (has := has) (k := k) (h c (List.mem_cons_self ..)) hl
    rw [bookGo_cons, bookGo_len (fun x hx => h x (List.mem_cons_of_mem _ hx)) (by omega), h1, List.length_cons]
    omega
theorem book15 {b : Book} (h : b.In) : (bookL (curs6 b) b.has).length = 15 := by
  unfold bookL
  rw [bookGo_len (curs6_in h) (by decide), curs6_len]
  rfl
/-- A payment more. -/
def putP (t : List Acc × List Pay) (k : Nat) (p : Paid) : List Acc × List Pay :=
  if k = 6 ∨ (paidP p).src = (paidP p).dst then t
  else if left (paidP p) > 0 then (match holdM t.1 (paidP p).src (left (paidP p)) with
    | .ok l => (l, t.2 ++ [paidP p])
    | .error _ => t)
  else (t.1, t.2 ++ [paidP p])
def putGo : List Acc × List Pay → Nat → List Paid → List Acc × List Pay
  | t, _, [] => t
  | t, k, p :: ps => putGo (putP t k p) (k + 1) ps
def stateM (b : Book) (ps : List Paid) (now : Int) : Sta := ⟨(putGo (bookL (curs6 b) b.has, []) 0 ps).1, (putGo (bookL (curs6 b) b.has, []) 0 ps).2, [], [], w64 (now.tmod 12)⟩
theorem putGo_cons (t : List Acc × List Pay) (k : Nat) (p : Paid) (ps : List Paid) : putGo t k (p :: ps) = putGo (putP t k p) (k + 1) ps := rfl
theorem hold_len {al l : List Acc} {k n : Int} (h : holdM al k n = .ok l) : l.length = al.length := by
  unfold holdM at h
  repeat' split at h
  all_goals first | (cases h; done) | (cases h; simp)
abbrev padS (l : List Paid) : AV := .sl .fz 71 (l.map paidA)
def paysN (F : Nat) : List Pay → AV
  | [] => .sl .nl 0 []
  | l => .sl (.own F) 47 (l.map payA)
theorem pays_snoc (F : Nat) (l : List Pay) (x : Pay) : AV.sl (.own F) 47 (l.map payA ++ [payA x]) = paysN F (l ++ [x]) := by
  cases l <;> simp [paysN]
def stN (t : List Acc × List Pay) (now : Int) : AV := .agg [accsA t.1, paysN 72000 t.2, .sl .nl 0 [], .sl .nl 0 [], .int .i64 now]
def stateC0 (args : List AV) (bs : List Box) (K : AV → List Box → Prop) : Prop := bs = [] ∧ ∃ (b : Book) (ps : List Paid) (now : Int), args = [bkA b, padS ps, .int .u8 now] ∧ b.In ∧ (∀ p ∈ ps, p.In) ∧ ps.length ≤ 1999900 ∧ K (stN (putGo (bookL (curs6 b) b.has, []) 0 ps) (w64 (now.tmod 12))) []
def RSt : Contract
  | 23 => nil2C bookC
  | 24 => paidC
  | 25 => leftC
  | 26 => (accsRz holdM)
  | _ => fun _ _ _ => False
theorem RSt_ok : CallOk Tryd.prog tab RSt := by
  intro f args bs K h
  unfold RSt at h
  split at h
  · exact ⟨_, h, book_ok.nil2⟩
  · exact ⟨_, h, paid_ok⟩
  · exact ⟨_, h, left_ok⟩
  · exact ⟨_, h, hold_ok⟩
  · exact h.elim
def RSt_E (pl : Nat → Plan) : En := ⟨tab, RSt, fun _ => none, 0, pl⟩
theorem RSt_J (pl : Nat → Plan) : JOk Tryd.prog (RSt_E pl).T (RSt_E pl).J := fun _ _ h => by cases h
set_option maxRecDepth 200000 in
set_option maxHeartbeats 6400000 in
theorem state_ok0 : FnOk Tryd.prog tab 9 stateC0 := by
  refine fn_ok (E := RSt_E pl9) tab_is RSt_ok (RSt_J _) Tryd.func9 rfl rfl (by kernel_rfl) ?_
  rintro args bs K ⟨rfl, b, ps, now, rfl, hb, hps, hpl, hK⟩
  refine ⟨rfl, ?_⟩
  have hlc := hb.lc
  have hmin : (if (6 : Int) < ((b.curs.map (AV.int .u8)).length : Nat) then (6 : Int) else ((b.curs.map (AV.int .u8)).length : Nat)).toNat = min 6 b.curs.length := by
    rw [List.length_map]; split <;> omega
  have hmin0 : 0 ≤ (if (6 : Int) < ((b.curs.map (AV.int .u8)).length : Nat) then (6 : Int) else ((b.curs.map (AV.int .u8)).length : Nat)) := by split <;> omega
  refine ⟨hmin0, Nat.zero_le _, by rw [hmin, List.length_map]; omega, ?_⟩
  have e6 : ((((b.curs.map (AV.int .u8)).take (if (6 : Int) < ((b.curs.map (AV.int .u8)).length : Nat) then (6 : Int) else ((b.curs.map (AV.int .u8)).length : Nat)).toNat).drop 0 ++ [AV.int .u8 0, .int .u8 1, .int .u8 2, .int .u8 0, .int .u8 1, .int .u8 0]).take 6) = (curs6 b).map (AV.int .u8) := by
    rw [hmin, List.drop_zero]
    unfold curs6
    rw [List.map_take, List.map_append, List.map_take]
    have : (b.curs.map (AV.int .u8)).take (min 6 b.curs.length) = (b.curs.map (AV.int .u8)).take 6 := by
      rw [List.take_eq_take_iff, List.length_map]; omega
    rw [this]
    rfl
  have len1 : (((b.curs.map (AV.int .u8)).take (if (6 : Int) < ((b.curs.map (AV.int .u8)).length : Nat) then (6 : Int) else ((b.curs.map (AV.int .u8)).length : Nat)).toNat).drop 0).length ≤ 6 := by
    rw [hmin, List.drop_zero, List.length_take]; omega
  have bd1 : (((b.curs.map (AV.int .u8)).take (if (6 : Int) < ((b.curs.map (AV.int .u8)).length : Nat) then (6 : Int) else ((b.curs.map (AV.int .u8)).length : Nat)).toNat).drop 0).length * 1 ≤ 140737488355328 := by omega
  have bd2 : ((((b.curs.map (AV.int .u8)).take (if (6 : Int) < ((b.curs.map (AV.int .u8)).length : Nat) then (6 : Int) else ((b.curs.map (AV.int .u8)).length : Nat)).toNat).drop 0).length + 6) * 1 ≤ 140737488355328 := by omega
  have bd3 : 6 ≤ (((b.curs.map (AV.int .u8)).take (if (6 : Int) < ((b.curs.map (AV.int .u8)).length : Nat) then (6 : Int) else ((b.curs.map (AV.int .u8)).length : Nat)).toNat).drop 0 ++ [AV.int .u8 0, .int .u8 1, .int .u8 2, .int .u8 0, .int .u8 1, .int .u8 0]).length := by
    rw [List.length_append]
    have : [AV.int .u8 0, .int .u8 1, .int .u8 2, .int .u8 0, .int .u8 1, .int .u8 0].length = 6 := rfl
    omega
  refine ⟨bd1, ?_⟩
  refine ⟨bd2, ?_⟩
  refine ⟨by decide, Nat.zero_le _, bd3, ?_⟩
  refine ⟨[bookAV (curs6 b) b.has], ⟨.inr ⟨_, _, rfl, rfl, .inl (congrArg (AV.sl .fz 5) e6.symm), .inl rfl, .inr ⟨_, _, rfl, rfl⟩, trivial⟩, trivial⟩, rfl, curs6 b, b.has, rfl, by rw [curs6_len]; decide, curs6_in hb, hb.lh, ?_⟩
  refine ⟨(by decide : (12 : Int) ≠ 0), ?_⟩
  have h15 := book15 hb
  clear bd1 bd2 bd3 len1 e6
  refine ⟨fun mm st => ∃ (i : Nat) (l : List Acc) (P : List Pay), (i ≤ ps.length ∧ l.length = 15 ∧ P.length ≤ i ∧ putGo (bookL (curs6 b) b.has, []) 0 ps = putGo (l, P) i (ps.drop i)) ∧ ps.length - i = mm ∧ st.t 33 = padS ps ∧ st.t 34 = .int .i64 ((ps.map paidA).length : Nat) ∧ st.t 35 = .int .i64 i ∧ st.t 7 = .ptr 7 0 ∧ st.t 6 = .ptr 6 0 ∧ st.h 7 = some (.cells 36 [accsA l, paysN 72000 P, .sl .nl 0 [], .sl .nl 0 [], .int .i64 (w64 (now.tmod 12))]) ∧ st.h 6 = some (.cells 36 [.sl .nl 0 [], .sl .nl 0 [], .sl .nl 0 [], .sl .nl 0 [], .int .i64 0]),
    ⟨_, 0, bookL (curs6 b) b.has, [], ⟨Nat.zero_le _, h15, Nat.le_refl _, rfl⟩, rfl, rfl, rfl, rfl, rfl, rfl, rfl, rfl⟩, ?_⟩
  rintro _ ⟨t1, h1⟩ ⟨i, l, P, ⟨hi, hll, hPl, hT⟩, rfl, e33, e34, e35, e7, e6, b7, b6⟩
  have e33 : t1 33 = padS ps := e33
  have e34 : t1 34 = .int .i64 ((ps.map paidA).length : Nat) := e34
  have e35 : t1 35 = .int .i64 i := e35
  have e7 : t1 7 = .ptr 7 0 := e7
  have e6 : t1 6 = .ptr 6 0 := e6
  have b7 : h1 7 = some (.cells 36 [accsA l, paysN 72000 P, .sl .nl 0 [], .sl .nl 0 [], .int .i64 (w64 (now.tmod 12))]) := b7
  have b6 : h1 6 = some (.cells 36 [.sl .nl 0 [], .sl .nl 0 [], .sl .nl 0 [], .sl .nl 0 [], .int .i64 0]) := b6
  rw [← updL_has t1 [(33, padS ps), (34, .int .i64 ((ps.map paidA).length : Nat)), (35, .int .i64 i), (7, .ptr 7 0), (6, .ptr 6 0)] ⟨e33, e34, e35, e7, e6, trivial⟩, ← updL_has h1 [(7, some (.cells 36 [accsA l, paysN 72000 P, .sl .nl 0 [], .sl .nl 0 [], .int .i64 (w64 (now.tmod 12))])), (6, some (.cells 36 [.sl .nl 0 [], .sl .nl 0 [], .sl .nl 0 [], .sl .nl 0 [], .int .i64 0]))] ⟨b7, b6, trivial⟩]
  cases P with
  | nil =>
    have bd : 1 * 64 ≤ 140737488355328 := by decide
    constructor
    · intro hb
      have hi' : i < ps.length := by
        have : (i : Int) < ((ps.map paidA).length : Nat) := by simpa using hb
        simp at this; omega
      have w : IntKind.i64.wrap ((i : Int) + 1) = ((i + 1 : Nat) : Int) := by rw [wrap_of] <;> omega
      have hlt : ps.length - (i + 1) < ps.length - i := by omega
      obtain ⟨p, hx⟩ : ∃ x, ps[i]? = some x := ⟨_, List.getElem?_eq_getElem hi'⟩
      have hm := List.mem_of_getElem? hx
      have hdr := drop_at hx
      rw [hdr, putGo_cons] at hT
      have hpi := hps p hm
      refine ⟨_, Int.natCast_nonneg i, map_of hx, ?_⟩
      refine ⟨rfl, p, rfl, hpi, ?_⟩
      have skip : (i = 6 ∨ (paidP p).src = (paidP p).dst) → putGo (bookL (curs6 b) b.has, []) 0 ps = putGo (l, ([]:List Pay)) (i + 1) (ps.drop (i + 1)) := fun h => by
        have hput : putP (l, ([]:List Pay)) i p = (l, ([]:List Pay)) := by unfold putP; rw [if_pos h]
        rw [hput] at hT; exact hT
      refine ⟨fun h => ?_, fun h => ?_⟩
      · have h : i = 6 := by
          have h : (i : Int) = 6 := by simpa using h
          omega
        refine ⟨fun _ => ?_, fun h => Bool.noConfusion (show true = false from h)⟩
        exact ⟨_, hlt, i + 1, l, ([]:List Pay), ⟨hi', hll, by omega, skip (.inl h)⟩, rfl, rfl, rfl, congrArg (AV.int .i64) w, rfl, rfl, rfl, rfl⟩
      · have h6 : ¬ i = 6 := by
          have h : ¬ (i : Int) = 6 := by simpa using h
          omega
        refine ⟨fun h => ?_, fun h => ?_⟩
        · exact ⟨_, hlt, i + 1, l, ([]:List Pay), ⟨hi', hll, by omega, skip (.inr (by simpa using h))⟩, rfl, rfl, rfl, congrArg (AV.int .i64) w, rfl, rfl, rfl, rfl⟩
        · have hsd : ¬ (paidP p).src = (paidP p).dst := by simpa using h
          clear skip
          refine ⟨rfl, paidP p, rfl, ?_⟩
          refine ⟨fun h => ?_, fun h => ?_⟩
          · have hn : left (paidP p) > 0 := of_decide_eq_true h
            refine ⟨rfl, l, (paidP p).src, left (paidP p), rfl, by omega, fun l2 hh => ?_, fun e hh => ?_⟩
            · have hput : putP (l, ([]:List Pay)) i p = (l2, ([]:List Pay) ++ [paidP p]) := by unfold putP; rw [if_neg (by simp [h6, hsd]), if_pos hn]; simp only [hh]
              have hl2 := hold_len hh
              refine ⟨fun h => Bool.noConfusion (show false = true from h), fun _ => ?_⟩
              refine ⟨bd, ?_⟩
              rw [hput] at hT
              exact ⟨_, hlt, i + 1, l2, ([]:List Pay) ++ [paidP p], ⟨hi', by omega, by simp only [List.length_append, List.length_cons, List.length_nil] at hPl ⊢; omega, hT⟩, rfl, rfl, rfl, congrArg (AV.int .i64) w, rfl, rfl, by rw [← pays_snoc] <;> rfl, rfl⟩
            · have hput : putP (l, ([]:List Pay)) i p = (l, ([]:List Pay)) := by unfold putP; rw [if_neg (by simp [h6, hsd]), if_pos hn]; simp only [hh]
              refine ⟨fun _ => ?_, fun h => Bool.noConfusion (show true = false from h)⟩
              rw [hput] at hT
              exact ⟨_, hlt, i + 1, l, ([]:List Pay), ⟨hi', hll, by omega, hT⟩, rfl, rfl, rfl, congrArg (AV.int .i64) w, rfl, rfl, rfl, rfl⟩
          · have hn : ¬ left (paidP p) > 0 := of_decide_eq_false h
            have hput : putP (l, ([]:List Pay)) i p = (l, ([]:List Pay) ++ [paidP p]) := by unfold putP; rw [if_neg (by simp [h6, hsd]), if_neg hn]
            refine ⟨bd, ?_⟩
            rw [hput] at hT
            exact ⟨_, hlt, i + 1, l, ([]:List Pay) ++ [paidP p], ⟨hi', hll, by simp only [List.length_append, List.length_cons, List.length_nil] at hPl ⊢; omega, hT⟩, rfl, rfl, rfl, congrArg (AV.int .i64) w, rfl, rfl, by rw [← pays_snoc] <;> rfl, rfl⟩
    · intro hb
      have hi' : i = ps.length := by
        have : ¬ (i : Int) < ((ps.map paidA).length : Nat) := by simpa using hb
        simp at this; omega
      subst hi'
      rw [List.drop_length] at hT
      have hT : putGo (bookL (curs6 b) b.has, []) 0 ps = (l, ([]:List Pay)) := hT
      rw [hT] at hK
      exact hK
  | cons q P =>
    have bd : (((q :: P).map payA).length + 1) * 64 ≤ 140737488355328 := by rw [List.length_map]; omega
    constructor
    · intro hb
      have hi' : i < ps.length := by
        have : (i : Int) < ((ps.map paidA).length : Nat) := by simpa using hb
        simp at this; omega
      have w : IntKind.i64.wrap ((i : Int) + 1) = ((i + 1 : Nat) : Int) := by rw [wrap_of] <;> omega
      have hlt : ps.length - (i + 1) < ps.length - i := by omega
      obtain ⟨p, hx⟩ : ∃ x, ps[i]? = some x := ⟨_, List.getElem?_eq_getElem hi'⟩
      have hm := List.mem_of_getElem? hx
      have hdr := drop_at hx
      rw [hdr, putGo_cons] at hT
      have hpi := hps p hm
      refine ⟨_, Int.natCast_nonneg i, map_of hx, ?_⟩
      refine ⟨rfl, p, rfl, hpi, ?_⟩
      have skip : (i = 6 ∨ (paidP p).src = (paidP p).dst) → putGo (bookL (curs6 b) b.has, []) 0 ps = putGo (l, (q::P)) (i + 1) (ps.drop (i + 1)) := fun h => by
        have hput : putP (l, (q::P)) i p = (l, (q::P)) := by unfold putP; rw [if_pos h]
        rw [hput] at hT; exact hT
      refine ⟨fun h => ?_, fun h => ?_⟩
      · have h : i = 6 := by
          have h : (i : Int) = 6 := by simpa using h
          omega
        refine ⟨fun _ => ?_, fun h => Bool.noConfusion (show true = false from h)⟩
        exact ⟨_, hlt, i + 1, l, (q::P), ⟨hi', hll, by omega, skip (.inl h)⟩, rfl, rfl, rfl, congrArg (AV.int .i64) w, rfl, rfl, rfl, rfl⟩
      · have h6 : ¬ i = 6 := by
          have h : ¬ (i : Int) = 6 := by simpa using h
          omega
        refine ⟨fun h => ?_, fun h => ?_⟩
        · exact ⟨_, hlt, i + 1, l, (q::P), ⟨hi', hll, by omega, skip (.inr (by simpa using h))⟩, rfl, rfl, rfl, congrArg (AV.int .i64) w, rfl, rfl, rfl, rfl⟩
        · have hsd : ¬ (paidP p).src = (paidP p).dst := by simpa using h
          clear skip
          refine ⟨rfl, paidP p, rfl, ?_⟩
          refine ⟨fun h => ?_, fun h => ?_⟩
          · have hn : left (paidP p) > 0 := of_decide_eq_true h
            refine ⟨rfl, l, (paidP p).src, left (paidP p), rfl, by omega, fun l2 hh => ?_, fun e hh => ?_⟩
            · have hput : putP (l, (q::P)) i p = (l2, (q::P) ++ [paidP p]) := by unfold putP; rw [if_neg (by simp [h6, hsd]), if_pos hn]; simp only [hh]
              have hl2 := hold_len hh
              refine ⟨fun h => Bool.noConfusion (show false = true from h), fun _ => ?_⟩
              refine ⟨bd, ?_⟩
              rw [hput] at hT
              exact ⟨_, hlt, i + 1, l2, (q::P) ++ [paidP p], ⟨hi', by omega, by simp only [List.length_append, List.length_cons, List.length_nil] at hPl ⊢; omega, hT⟩, rfl, rfl, rfl, congrArg (AV.int .i64) w, rfl, rfl, by rw [← pays_snoc] <;> rfl, rfl⟩
            · have hput : putP (l, (q::P)) i p = (l, (q::P)) := by unfold putP; rw [if_neg (by simp [h6, hsd]), if_pos hn]; simp only [hh]
              refine ⟨fun _ => ?_, fun h => Bool.noConfusion (show true = false from h)⟩
              rw [hput] at hT
              exact ⟨_, hlt, i + 1, l, (q::P), ⟨hi', hll, by omega, hT⟩, rfl, rfl, rfl, congrArg (AV.int .i64) w, rfl, rfl, rfl, rfl⟩
          · have hn : ¬ left (paidP p) > 0 := of_decide_eq_false h
            have hput : putP (l, (q::P)) i p = (l, (q::P) ++ [paidP p]) := by unfold putP; rw [if_neg (by simp [h6, hsd]), if_neg hn]
            refine ⟨bd, ?_⟩
            rw [hput] at hT
            exact ⟨_, hlt, i + 1, l, (q::P) ++ [paidP p], ⟨hi', hll, by simp only [List.length_append, List.length_cons, List.length_nil] at hPl ⊢; omega, hT⟩, rfl, rfl, rfl, congrArg (AV.int .i64) w, rfl, rfl, by rw [← pays_snoc] <;> rfl, rfl⟩
    · intro hb
      have hi' : i = ps.length := by
        have : ¬ (i : Int) < ((ps.map paidA).length : Nat) := by simpa using hb
        simp at this; omega
      subst hi'
      rw [List.drop_length] at hT
      have hT : putGo (bookL (curs6 b) b.has, []) 0 ps = (l, (q::P)) := hT
      rw [hT] at hK
      exact hK
def stateC (args : List AV) (bs : List Box) (K : AV → List Box → Prop) : Prop := bs = [] ∧ ∃ (b : Book) (ps : List Paid) (now : Int), args = [bkA b, padS ps, .int .u8 now] ∧ b.In ∧ (∀ p ∈ ps, p.In) ∧ ps.length ≤ 1999900 ∧ K (staA (stateM b ps now)) []
theorem state_ok : FnOk Tryd.prog tab 9 stateC := state_ok0.frz.nilR.mono (by
  rintro args bs K ⟨rfl, b, ps, now, rfl, hb, hps, hpl, hK⟩
  refine ⟨rfl, rfl, b, ps, now, rfl, hb, hps, hpl, ?_⟩
  have e1 : stateM b ps now = ⟨(putGo (bookL (curs6 b) b.has, []) 0 ps).1, (putGo (bookL (curs6 b) b.has, []) 0 ps).2, [], [], w64 (now.tmod 12)⟩ := rfl
  rw [e1] at hK
  generalize putGo (bookL (curs6 b) b.has, []) 0 ps = t at hK
  obtain ⟨l, P⟩ := t
  cases P with
  | nil => exact ⟨_, rfl, staA ⟨l, [], [], [], w64 (now.tmod 12)⟩, .inr ⟨_, [accsA l, paysA [], sagsA [], knsA [], .int .i64 (w64 (now.tmod 12))], rfl, rfl, .inl rfl, .inr ⟨_, _, rfl, rfl⟩, .inr ⟨_, _, rfl, rfl⟩, .inr ⟨_, _, rfl, rfl⟩, .inl rfl, trivial⟩, hK⟩
  | cons q P => exact ⟨_, rfl, staA ⟨l, q :: P, [], [], w64 (now.tmod 12)⟩, .inr ⟨_, [accsA l, paysA (q :: P), sagsA [], knsA [], .int .i64 (w64 (now.tmod 12))], rfl, rfl, .inl rfl, .inl rfl, .inr ⟨_, _, rfl, rfl⟩, .inr ⟨_, _, rfl, rfl⟩, .inl rfl, trivial⟩, hK⟩)
end Go.Proofs.YtmlgkojmbnjfbaaDoor.A
