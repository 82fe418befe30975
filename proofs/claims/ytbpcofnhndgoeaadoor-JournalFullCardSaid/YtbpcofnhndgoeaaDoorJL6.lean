/- JournalFull, walked. -/
import Derived.Test.YtbpcofnhndgoeaaDoorJL0
import Derived.Test.YtbpcofnhndgoeaaDoorGD
namespace Go.Proofs.YtbpcofnhndgoeaaDoor.A
open Go Q
def RFu : Contract
  | 21 => awake6C
  | 28 => fewC1
  | 17 => numberC
  | _ => fun _ _ _ => False
theorem RFu_ok : CallOk Tryd.prog tab RFu := by
  intro f args bs K h
  unfold RFu at h
  split at h
  · exact ⟨_, h, awake6_ok⟩
  · exact ⟨_, h, few_ok1⟩
  · exact ⟨_, h, number_ok⟩
  · exact h.elim
def RFu_E (pl : Nat → Plan) : En := ⟨tab, RFu, fun _ => none, 0, pl⟩
theorem RFu_J (pl : Nat → Plan) : JOk Tryd.prog (RFu_E pl).T (RFu_E pl).J := fun _ _ h => by cases h
noncomputable def Fu_E (pl : Nat → Plan) : En := ⟨tab, RFu, JLw, 0, pl⟩
def fullL (args : List AV) (bs : List Box) (K : Kon) : Prop := bs = [] ∧ ∃ room rs b, args = [.int .u8 room, bss .fz rs, by8 b] ∧ (0 ≤ room ∧ room < 256) ∧ rs.length ≤ 4611686018427387904 ∧ (∀ r ∈ rs, byteL r) ∧ byteL b ∧ K (.bool true) []
structure FuI (room : Int) (i : Nat) (turn : Int) (base : List Int) (recs : List (List Int)) (d : Dk) : Prop where
  j : JOK ⟨turn, base, recs, false⟩ d
  l : d.left = -1
  r : d.room = room
  t : turn ≤ i
set_option maxRecDepth 2000000 in
set_option maxHeartbeats 16000000 in
theorem full_ok : FnOk Tryd.prog tab 7 fullL := by
  refine fn_ok (E := Fu_E (ownN pl7 [(10, 9)])) tab_is RFu_ok JLw_ok Tryd.func7 rfl rfl (by kernel_rfl) ?_
  rintro args bs K ⟨rfl, room, rs, b0, rfl, ⟨hr0, hr1⟩, hl, hrb, hbb0, hK⟩
  refine ⟨rfl, ?_⟩
  obtain ⟨hb, hbe, hb1, hb2, hb3⟩ := min500 b0
  rw [hbe] at hb1 hb2
  obtain ⟨b, hbl⟩ : ∃ a, a = b0.take (if (500 : Int) < (((b0.map (AV.int .u8)).length : Nat) : Int) then (500 : Int) else (((b0.map (AV.int .u8)).length : Nat) : Int)).toNat := ⟨_, rfl⟩
  have hbn : b.length ≤ 500 := by rw [hbl, List.length_take]; omega
  have hbb : byteL b := by rw [hbl]; exact byteL_take hbb0 _
  obtain ⟨L, hL⟩ : ∃ L, fewM rs = L := ⟨_, rfl⟩
  have hLr : ∀ r ∈ L, Rec r := by rw [← hL]; exact few_rec hrb
  have hL5 : ∀ r ∈ L, r.length ≤ 500 := by rw [← hL]; exact few_each
  have hL12 : L.length ≤ 12 := by rw [← hL]; exact few_len rs
  have hwr : IntKind.i64.wrap room = room := wrap_of (by omega) (by omega)
  have hrm : (newD room).room = room := by simp only [newD]; omega
  refine ⟨rfl, rfl, ?_⟩
  refine ⟨fun h => Bool.noConfusion (show false = true from h), fun _ => ?_⟩
  have e1 : AV.sl .fz 5 (((b0.map (AV.int .u8)).take (if (500 : Int) < (((b0.map (AV.int .u8)).length : Nat) : Int) then (500 : Int) else (((b0.map (AV.int .u8)).length : Nat) : Int)).toNat).drop 0) = by8 b := by rw [hbl]; exact cut8.symm
  refine ⟨?_, ?_⟩
  all_goals first | (refine ⟨rfl, rs, rfl, hl, ?_⟩; refine ⟨hb3, Nat.zero_le _, hb2, ?_⟩) | (refine ⟨hb3, Nat.zero_le _, hb2, ?_⟩; refine ⟨rfl, rs, rfl, hl, ?_⟩)
  all_goals
    obtain ⟨d1, o1, j1, l1, r1, u1⟩ := JOK.first room
    rw [hrm] at r1
    refine ⟨[], [], [500], 0, rfl, _, rfl, IntKind.i64.wrap room, 2000000000, Nat.le_refl _, rfl, rfl, rfl, ?_⟩
    rw [hwr]
    refine ⟨[500], [], [600], 700000, rfl, _, rfl, newD room, 2000000000, _, (JOK.new room).dg, rfl, rfl, Nat.le_refl _, o1, rfl, rfl, (fun h => by cases h), ?_⟩
    rintro _ _ ⟨⟩
    refine ⟨rfl, ?_⟩
    refine ⟨fun h => Bool.noConfusion (show false = true from h), fun _ => ?_⟩
    refine ⟨fun h => Bool.noConfusion (show false = true from h), fun _ => ?_⟩
    refine ⟨fun mm st => ∃ (i : Nat) (turn : Int) (base : List Int) (recs : List (List Int)) (d : Dk), (i ≤ L.length ∧ FuI room i turn base recs d) ∧ L.length - i = mm ∧ st.t 0 = .int .u8 room ∧ st.t 2 = by8 b ∧ st.t 7 = .ptr 500 0 ∧ st.t 8 = .ptr 600 0 ∧ st.t 10 = sss (.own 10000) recs ∧ st.t 11 = .str (strOf base) ∧ st.t 12 = .int .i64 turn ∧ st.t 41 = bss (.own 21000) L ∧ st.t 42 = .int .i64 ((L.map by8).length : Nat) ∧ st.t 43 = .int .i64 (i : Int) ∧ st.h 500 = some (dkB d 2000000000) ∧ st.h 600 = some (jBc 500 700000 ⟨turn, base, recs, false⟩),
      ⟨_, 0, 0, [], [], d1, ⟨Nat.zero_le _, ⟨j1, l1, r1, by decide⟩⟩, rfl, rfl, e1, rfl, rfl, rfl, rfl, rfl, (by rw [← hL]; rfl), (by rw [← hL]; rfl), rfl, rfl, rfl⟩, ?_⟩
    rintro _ ⟨t1, h1⟩ ⟨i, turn, base, recs, d, ⟨hi, hJ⟩, rfl, e0, e2, e7, e8, e10, e11, e12, e41, e42, e43, b500, b600⟩
    have e0 : t1 0 = .int .u8 room := e0
    have e2 : t1 2 = by8 b := e2
    have e7 : t1 7 = .ptr 500 0 := e7
    have e8 : t1 8 = .ptr 600 0 := e8
    have e10 : t1 10 = sss (.own 10000) recs := e10
    have e11 : t1 11 = .str (strOf base) := e11
    have e12 : t1 12 = .int .i64 turn := e12
    have e41 : t1 41 = bss (.own 21000) L := e41
    have e42 : t1 42 = .int .i64 ((L.map by8).length : Nat) := e42
    have e43 : t1 43 = .int .i64 (i : Int) := e43
    have b500 : h1 500 = some (dkB d 2000000000) := b500
    have b600 : h1 600 = some (jBc 500 700000 ⟨turn, base, recs, false⟩) := b600
    rw [← updL_has t1 [(0, .int .u8 room), (2, by8 b), (7, .ptr 500 0), (8, .ptr 600 0), (10, sss (.own 10000) recs), (11, .str (strOf base)), (12, .int .i64 turn), (41, bss (.own 21000) L), (42, .int .i64 ((L.map by8).length : Nat)), (43, .int .i64 (i : Int))] ⟨e0, e2, e7, e8, e10, e11, e12, e41, e42, e43, trivial⟩, ← updL_has h1 [(500, some (dkB d 2000000000)), (600, some (jBc 500 700000 ⟨turn, base, recs, false⟩))] ⟨b500, b600, trivial⟩]
    constructor
    · intro hb
      have hi' : i < L.length := by
        have : (i : Int) < ((L.map by8).length : Nat) := by simpa using hb
        simp at this; omega
      have w : IntKind.i64.wrap ((i : Int) + 1) = ((i + 1 : Nat) : Int) := by rw [wrap_of] <;> omega
      have hlt : L.length - (i + 1) < L.length - i := by omega
      obtain ⟨r, hx⟩ : ∃ x, L[i]? = some x := ⟨_, List.getElem?_eq_getElem hi'⟩
      have hm := List.mem_of_getElem? hx
      refine ⟨_, Int.natCast_nonneg i, map_of hx, ?_⟩
      have hrR := hLr r hm
      have hr5 := hL5 r hm
      have hj := hJ.j
      have ht0 := hj.t0
      have ht1 := hJ.t
      simp only at ht0
      have hpl := putI_len (turn + 1)
      have hw1 : IntKind.i64.wrap (turn + 1) = turn + 1 := wrap_of (by omega) (by omega)
      have hlm : (((r.map (AV.int .u8)).length : Nat) : Int) = r.length := by rw [List.length_map]
      have hrec1 : ∀ q ∈ [r], Rec q := fun q hq => by rw [List.mem_singleton.1 hq]; exact hrR
      refine ⟨[600, 500], [700000], [], 700000, rfl, _, rfl, [.ptr 1000000000 0, bss .fz [r]], ⟨.inl rfl, .inl rfl, trivial⟩, .inl ⟨⟨turn, base, recs, false⟩, d, 2000000000, [r], hj, Nat.le_refl _, (by simp), hrec1, rfl, rfl, fun d' j' r' u' l' _ => ⟨rfl, ?_⟩, fun hfull _ => ⟨rfl, ?_⟩, fun _ h => absurd hJ.l h⟩⟩
      · refine ⟨rfl, .inl ⟨rfl, ?_⟩⟩
        refine ⟨fun _ => ?_, fun h => Bool.noConfusion (show true = false from h)⟩
        have hfew := (recs_few hj).1
        simp only at hfew
        refine ⟨r, rfl, ?_⟩
        refine ⟨(show ((recs.map fun r => AV.str (strOf r)).length + 1) * 16 ≤ 140737488355328 by rw [List.length_map]; omega), ?_⟩
        obtain ⟨X, hX⟩ : ∃ X, recs ++ [r] = X := ⟨_, rfl⟩
        have hJ' : FuI room (i + 1) turn base X d' := ⟨by rw [← hX]; exact j', l' hJ.l, r'.trans hJ.r, by omega⟩
        refine toldV (show AV.sl (.own 10000) 9 (recs.map (fun r => AV.str (strOf r)) ++ [AV.str (strOf r)]) = sss (.own 10000) X by rw [← hX, sss, List.map_append]; rfl) ?_
        rw [hX]
        obtain ⟨d9, o9, j9, l9, r9, u9⟩ := hJ'.j.again hJ'.l
        refine ⟨[500], [], [800], 900000, rfl, _, rfl, d', 2000000000, _, hJ'.j.dg, hJ'.l, hJ'.j.run, Nat.le_refl _, o9, rfl, rfl, (fun h => by cases h), ?_⟩
        rintro _ _ ⟨⟩
        refine ⟨rfl, ?_⟩
        refine ⟨fun h => Bool.noConfusion (show false = true from h), fun _ => ?_⟩
        refine ⟨fun h => Bool.noConfusion (show false = true from h), fun _ => ?_⟩
        refine ⟨[800, 500], [900000], [], 900000, rfl, _, rfl, ⟨turn, base, X, false⟩, d9, 2000000000, rfl, rfl, (Nat.le_trans (recs_few j9).1 (by decide)), (fun r hr => Nat.le_trans ((recs_few j9).2.1 r hr) (by decide)), rfl, ?_⟩
        refine ⟨[800, 500], [900000], [], 900000, rfl, _, rfl, ⟨turn, base, X, false⟩, d9, 2000000000, rfl, rfl, (Nat.le_trans (recs_few j9).2.2 (by decide)), rfl, ?_⟩
        refine ⟨base, rfl, ?_⟩
        refine ⟨fun h => absurd (show (!(strOf base == strOf base)) = true from h) (by rw [str_refl]; decide), fun _ => ?_⟩
        refine ⟨[800, 500], [900000], [], 900000, rfl, _, rfl, ⟨turn, base, X, false⟩, d9, 2000000000, rfl, rfl, rfl, ?_⟩
        refine ⟨fun h => absurd (show ((turn : Int) != turn) = true from h) (by simp), fun _ => ?_⟩
        refine ⟨fun h => absurd (bne_iff_ne.1 h) (by simp), fun _ => ?_⟩
        refine ⟨fun mm st => ∃ (kk : Nat), (kk ≤ X.length) ∧ X.length - kk = mm ∧ st.t 9 = bss .fz X ∧ st.t 2 = sss (.own 10000) X ∧ st.t 32 = .int .i64 ((X.map by8).length : Nat) ∧ st.t 33 = .int .i64 (kk : Int) ∧ st.t 1000000 = .int .u8 room ∧ st.t 1000002 = by8 b ∧ st.t 1000007 = .ptr 500 0 ∧ st.t 1000008 = .ptr 600 0 ∧ st.t 1000010 = sss (.own 10000) X ∧ st.t 1000011 = .str (strOf base) ∧ st.t 1000012 = .int .i64 turn ∧ st.t 1000041 = bss (.own 21000) L ∧ st.t 1000042 = .int .i64 ((L.map by8).length : Nat) ∧ st.t 1000043 = .int .i64 (i : Int) ∧ st.t 1000091 = .bool false ∧ st.h 500 = some (dkB d9 2000000000) ∧ st.h 600 = some (jBc 500 700000 ⟨turn, base, X, false⟩),
          ⟨_, 0, Nat.zero_le _, rfl, rfl, rfl, rfl, rfl, rfl, rfl, rfl, rfl, rfl, rfl, rfl, rfl, rfl, rfl, rfl, rfl, rfl⟩, ?_⟩
        rintro _ ⟨q1, p1⟩ ⟨kk, hi, rfl, e9, e2, e32, e33, e1000000, e1000002, e1000007, e1000008, e1000010, e1000011, e1000012, e1000041, e1000042, e1000043, e1000091, b500, b600⟩
        have e9 : q1 9 = bss .fz X := e9
        have e2 : q1 2 = sss (.own 10000) X := e2
        have e32 : q1 32 = .int .i64 ((X.map by8).length : Nat) := e32
        have e33 : q1 33 = .int .i64 (kk : Int) := e33
        have e1000000 : q1 1000000 = .int .u8 room := e1000000
        have e1000002 : q1 1000002 = by8 b := e1000002
        have e1000007 : q1 1000007 = .ptr 500 0 := e1000007
        have e1000008 : q1 1000008 = .ptr 600 0 := e1000008
        have e1000010 : q1 1000010 = sss (.own 10000) X := e1000010
        have e1000011 : q1 1000011 = .str (strOf base) := e1000011
        have e1000012 : q1 1000012 = .int .i64 turn := e1000012
        have e1000041 : q1 1000041 = bss (.own 21000) L := e1000041
        have e1000042 : q1 1000042 = .int .i64 ((L.map by8).length : Nat) := e1000042
        have e1000043 : q1 1000043 = .int .i64 (i : Int) := e1000043
        have e1000091 : q1 1000091 = .bool false := e1000091
        have b500 : p1 500 = some (dkB d9 2000000000) := b500
        have b600 : p1 600 = some (jBc 500 700000 ⟨turn, base, X, false⟩) := b600
        rw [← updL_has q1 [(9, bss .fz X), (2, sss (.own 10000) X), (32, .int .i64 ((X.map by8).length : Nat)), (33, .int .i64 (kk : Int)), (1000000, .int .u8 room), (1000002, by8 b), (1000007, .ptr 500 0), (1000008, .ptr 600 0), (1000010, sss (.own 10000) X), (1000011, .str (strOf base)), (1000012, .int .i64 turn), (1000041, bss (.own 21000) L), (1000042, .int .i64 ((L.map by8).length : Nat)), (1000043, .int .i64 (i : Int)), (1000091, .bool false)] ⟨e9, e2, e32, e33, e1000000, e1000002, e1000007, e1000008, e1000010, e1000011, e1000012, e1000041, e1000042, e1000043, e1000091, trivial⟩, ← updL_has p1 [(500, some (dkB d9 2000000000)), (600, some (jBc 500 700000 ⟨turn, base, X, false⟩))] ⟨b500, b600, trivial⟩]
        have hrl0 : X.length ≤ 1000000000000 := (Nat.le_trans (recs_few j9).1 (by decide))
        constructor
        · intro hb
          have hk3 : kk < X.length := by
            have : (kk : Int) < ((X.map by8).length : Nat) := by simpa using hb
            simp at this; omega
          have w3 : IntKind.i64.wrap ((kk : Int) + 1) = ((kk + 1 : Nat) : Int) := by rw [wrap_of] <;> omega
          have hlt3 : X.length - (kk + 1) < X.length - kk := by omega
          obtain ⟨r, hx⟩ : ∃ x, X[kk]? = some x := ⟨_, List.getElem?_eq_getElem hk3⟩
          have hm3 := List.mem_of_getElem? hx
          refine ⟨_, Int.natCast_nonneg kk, map_of hx, ?_⟩
          refine ⟨_, Int.natCast_nonneg kk, map_of hx, ?_⟩
          refine ⟨r, rfl, ?_⟩
          refine ⟨fun h => absurd (show (!(strOf r == strOf r)) = true from h) (by rw [str_refl]; decide), fun _ => ?_⟩
          exact ⟨_, hlt3, kk + 1, hk3, rfl, rfl, rfl, rfl, congrArg (AV.int .i64) w3, rfl, rfl, rfl, rfl, rfl, rfl, rfl, rfl, rfl, rfl, rfl, rfl, rfl⟩
        · intro hb
          have hk3 : kk = X.length := by
            have : ¬ (kk : Int) < ((X.map by8).length : Nat) := by simpa using hb
            simp at this; omega
          subst hk3
          refine ⟨_, rfl, ?_⟩
          refine ⟨fun h => Bool.noConfusion (show false = true from h), fun _ => ?_⟩
          refine ⟨[600, 500], [700000], [], 700000, rfl, _, rfl, ⟨turn, base, X, false⟩, d9, 2000000000, rfl, rfl, (Nat.le_trans (recs_few j9).1 (by decide)), (fun r hr => Nat.le_trans ((recs_few j9).2.1 r hr) (by decide)), rfl, ?_⟩
          refine ⟨[600, 500], [700000], [], 700000, rfl, _, rfl, ⟨turn, base, X, false⟩, d9, 2000000000, rfl, rfl, (Nat.le_trans (recs_few j9).2.2 (by decide)), rfl, ?_⟩
          refine ⟨base, rfl, ?_⟩
          refine ⟨fun h => absurd (show (!(strOf base == strOf base)) = true from h) (by rw [str_refl]; decide), fun _ => ?_⟩
          refine ⟨[600, 500], [700000], [], 700000, rfl, _, rfl, ⟨turn, base, X, false⟩, d9, 2000000000, rfl, rfl, rfl, ?_⟩
          refine ⟨fun h => absurd (show ((turn : Int) != turn) = true from h) (by simp), fun _ => ?_⟩
          refine ⟨fun h => absurd (bne_iff_ne.1 h) (by simp), fun _ => ?_⟩
          refine ⟨fun mm st => ∃ (kk : Nat), (kk ≤ X.length) ∧ X.length - kk = mm ∧ st.t 9 = bss .fz X ∧ st.t 2 = sss (.own 10000) X ∧ st.t 32 = .int .i64 ((X.map by8).length : Nat) ∧ st.t 33 = .int .i64 (kk : Int) ∧ st.t 1000000 = .int .u8 room ∧ st.t 1000002 = by8 b ∧ st.t 1000007 = .ptr 500 0 ∧ st.t 1000008 = .ptr 600 0 ∧ st.t 1000010 = sss (.own 10000) X ∧ st.t 1000011 = .str (strOf base) ∧ st.t 1000012 = .int .i64 turn ∧ st.t 1000041 = bss (.own 21000) L ∧ st.t 1000042 = .int .i64 ((L.map by8).length : Nat) ∧ st.t 1000043 = .int .i64 (i : Int) ∧ st.t 1000099 = .bool false ∧ st.h 500 = some (dkB d9 2000000000) ∧ st.h 600 = some (jBc 500 700000 ⟨turn, base, X, false⟩),
            ⟨_, 0, Nat.zero_le _, rfl, rfl, rfl, rfl, rfl, rfl, rfl, rfl, rfl, rfl, rfl, rfl, rfl, rfl, rfl, rfl, rfl, rfl⟩, ?_⟩
          rintro _ ⟨q1, p1⟩ ⟨kk, hi, rfl, e9, e2, e32, e33, e1000000, e1000002, e1000007, e1000008, e1000010, e1000011, e1000012, e1000041, e1000042, e1000043, e1000099, b500, b600⟩
          have e9 : q1 9 = bss .fz X := e9
          have e2 : q1 2 = sss (.own 10000) X := e2
          have e32 : q1 32 = .int .i64 ((X.map by8).length : Nat) := e32
          have e33 : q1 33 = .int .i64 (kk : Int) := e33
          have e1000000 : q1 1000000 = .int .u8 room := e1000000
          have e1000002 : q1 1000002 = by8 b := e1000002
          have e1000007 : q1 1000007 = .ptr 500 0 := e1000007
          have e1000008 : q1 1000008 = .ptr 600 0 := e1000008
          have e1000010 : q1 1000010 = sss (.own 10000) X := e1000010
          have e1000011 : q1 1000011 = .str (strOf base) := e1000011
          have e1000012 : q1 1000012 = .int .i64 turn := e1000012
          have e1000041 : q1 1000041 = bss (.own 21000) L := e1000041
          have e1000042 : q1 1000042 = .int .i64 ((L.map by8).length : Nat) := e1000042
          have e1000043 : q1 1000043 = .int .i64 (i : Int) := e1000043
          have e1000099 : q1 1000099 = .bool false := e1000099
          have b500 : p1 500 = some (dkB d9 2000000000) := b500
          have b600 : p1 600 = some (jBc 500 700000 ⟨turn, base, X, false⟩) := b600
          rw [← updL_has q1 [(9, bss .fz X), (2, sss (.own 10000) X), (32, .int .i64 ((X.map by8).length : Nat)), (33, .int .i64 (kk : Int)), (1000000, .int .u8 room), (1000002, by8 b), (1000007, .ptr 500 0), (1000008, .ptr 600 0), (1000010, sss (.own 10000) X), (1000011, .str (strOf base)), (1000012, .int .i64 turn), (1000041, bss (.own 21000) L), (1000042, .int .i64 ((L.map by8).length : Nat)), (1000043, .int .i64 (i : Int)), (1000099, .bool false)] ⟨e9, e2, e32, e33, e1000000, e1000002, e1000007, e1000008, e1000010, e1000011, e1000012, e1000041, e1000042, e1000043, e1000099, trivial⟩, ← updL_has p1 [(500, some (dkB d9 2000000000)), (600, some (jBc 500 700000 ⟨turn, base, X, false⟩))] ⟨b500, b600, trivial⟩]
          have hrl0 : X.length ≤ 1000000000000 := (Nat.le_trans (recs_few j9).1 (by decide))
          constructor
          · intro hb
            have hk3 : kk < X.length := by
              have : (kk : Int) < ((X.map by8).length : Nat) := by simpa using hb
              simp at this; omega
            have w3 : IntKind.i64.wrap ((kk : Int) + 1) = ((kk + 1 : Nat) : Int) := by rw [wrap_of] <;> omega
            have hlt3 : X.length - (kk + 1) < X.length - kk := by omega
            obtain ⟨r, hx⟩ : ∃ x, X[kk]? = some x := ⟨_, List.getElem?_eq_getElem hk3⟩
            have hm3 := List.mem_of_getElem? hx
            refine ⟨_, Int.natCast_nonneg kk, map_of hx, ?_⟩
            refine ⟨_, Int.natCast_nonneg kk, map_of hx, ?_⟩
            refine ⟨r, rfl, ?_⟩
            refine ⟨fun h => absurd (show (!(strOf r == strOf r)) = true from h) (by rw [str_refl]; decide), fun _ => ?_⟩
            exact ⟨_, hlt3, kk + 1, hk3, rfl, rfl, rfl, rfl, congrArg (AV.int .i64) w3, rfl, rfl, rfl, rfl, rfl, rfl, rfl, rfl, rfl, rfl, rfl, rfl, rfl⟩
          · intro hb
            have hk3 : kk = X.length := by
              have : ¬ (kk : Int) < ((X.map by8).length : Nat) := by simpa using hb
              simp at this; omega
            subst hk3
            refine ⟨_, rfl, ?_⟩
            refine ⟨fun h => Bool.noConfusion (show false = true from h), fun _ => ?_⟩
            refine ⟨[500], [], [], 0, rfl, _, rfl, rfl, d9, 2000000000, _, j9.dg.ok, Nat.le_refl _, rfl, rfl, rfl, ?_⟩
            refine ⟨fun h => absurd (of_decide_eq_true h) (by rw [hwr]; have := j9.fit; rw [r9, hJ'.r] at this; omega), fun _ => ?_⟩
            exact ⟨_, hlt, i + 1, turn, base, X, d9, ⟨hi', ⟨j9, l9, r9.trans hJ'.r, hJ'.t⟩⟩, rfl, rfl, rfl, rfl, rfl, rfl, rfl, rfl, rfl, rfl, congrArg (AV.int .i64) w, rfl, rfl⟩
      · refine ⟨rfl, .inr ⟨8, rfl, ?_⟩⟩
        refine ⟨fun h => Bool.noConfusion (show false = true from h), fun _ => ?_⟩
        refine ⟨fun _ => ?_, fun h => Bool.noConfusion (show true = false from h)⟩
        have hJs : FuI room (i + 1) turn base recs d := ⟨hj, hJ.l, hJ.r, by omega⟩
        refine ⟨fun h0 => ?_, fun h0 => ?_⟩
        · refine ⟨fun h3 => ?_, fun h3 => ?_⟩
          · refine ⟨[600, 500], [700000], [], 700000, rfl, _, rfl, [.ptr 1000000000 0, by8 b], ⟨.inl rfl, .inl rfl, trivial⟩, .inl ⟨⟨turn, base, recs, false⟩, d, 2000000000, b, hj, Nat.le_refl _, (show turn + 1 < 4611686018427387904 by omega), (by omega), hbb, rfl, rfl, fun h => absurd h (by simp only [List.length_append]; omega), fun _ => ⟨fun d' j' r' u' l' _ => ⟨rfl, ?_⟩, fun _ _ => ⟨rfl, ?_⟩, fun _ _ h => absurd hJ.l h⟩⟩⟩
            · refine ⟨fun _ => ?_, fun h => Bool.noConfusion (show true = false from h)⟩
              refine ⟨b, rfl, ?_⟩
              have hJ' : FuI room (i + 1) (turn + 1) b [] d' := ⟨j', l' hJ.l, r'.trans hJ.r, by omega⟩
              obtain ⟨d9, o9, j9, l9, r9, u9⟩ := hJ'.j.again hJ'.l
              refine ⟨[500], [], [800], 900000, rfl, _, rfl, d', 2000000000, _, hJ'.j.dg, hJ'.l, hJ'.j.run, Nat.le_refl _, o9, rfl, rfl, (fun h => by cases h), ?_⟩
              rintro _ _ ⟨⟩
              refine ⟨rfl, ?_⟩
              refine ⟨fun h => Bool.noConfusion (show false = true from h), fun _ => ?_⟩
              refine ⟨fun h => Bool.noConfusion (show false = true from h), fun _ => ?_⟩
              refine ⟨[800, 500], [900000], [], 900000, rfl, _, rfl, ⟨turn + 1, b, [], false⟩, d9, 2000000000, rfl, rfl, (Nat.le_trans (recs_few j9).1 (by decide)), (fun r hr => Nat.le_trans ((recs_few j9).2.1 r hr) (by decide)), rfl, ?_⟩
              refine ⟨[800, 500], [900000], [], 900000, rfl, _, rfl, ⟨turn + 1, b, [], false⟩, d9, 2000000000, rfl, rfl, (Nat.le_trans (recs_few j9).2.2 (by decide)), rfl, ?_⟩
              refine ⟨b, rfl, ?_⟩
              refine ⟨fun h => absurd (show (!(strOf b == strOf b)) = true from h) (by rw [str_refl]; decide), fun _ => ?_⟩
              refine ⟨[800, 500], [900000], [], 900000, rfl, _, rfl, ⟨turn + 1, b, [], false⟩, d9, 2000000000, rfl, rfl, rfl, ?_⟩
              refine ⟨fun h => absurd (show ((turn + 1 : Int) != IntKind.i64.wrap (turn + 1)) = true from h) (by rw [hw1]; simp), fun _ => ?_⟩
              refine ⟨fun h => absurd (bne_iff_ne.1 h) (by simp), fun _ => ?_⟩
              refine loopR 1 (roundsR_succ ?_)
              refine ⟨fun h => Bool.noConfusion (show false = true from h), fun _ => ?_⟩
              refine ⟨_, rfl, ?_⟩
              refine ⟨fun h => Bool.noConfusion (show false = true from h), fun _ => ?_⟩
              refine ⟨[600, 500], [700000], [], 700000, rfl, _, rfl, ⟨turn + 1, b, [], false⟩, d9, 2000000000, rfl, rfl, (Nat.le_trans (recs_few j9).1 (by decide)), (fun r hr => Nat.le_trans ((recs_few j9).2.1 r hr) (by decide)), rfl, ?_⟩
              refine ⟨[600, 500], [700000], [], 700000, rfl, _, rfl, ⟨turn + 1, b, [], false⟩, d9, 2000000000, rfl, rfl, (Nat.le_trans (recs_few j9).2.2 (by decide)), rfl, ?_⟩
              refine ⟨b, rfl, ?_⟩
              refine ⟨fun h => absurd (show (!(strOf b == strOf b)) = true from h) (by rw [str_refl]; decide), fun _ => ?_⟩
              refine ⟨[600, 500], [700000], [], 700000, rfl, _, rfl, ⟨turn + 1, b, [], false⟩, d9, 2000000000, rfl, rfl, rfl, ?_⟩
              refine ⟨fun h => absurd (show ((turn + 1 : Int) != IntKind.i64.wrap (turn + 1)) = true from h) (by rw [hw1]; simp), fun _ => ?_⟩
              refine ⟨fun h => absurd (bne_iff_ne.1 h) (by simp), fun _ => ?_⟩
              refine loopR 1 (roundsR_succ ?_)
              refine ⟨fun h => Bool.noConfusion (show false = true from h), fun _ => ?_⟩
              refine ⟨_, rfl, ?_⟩
              refine ⟨fun h => Bool.noConfusion (show false = true from h), fun _ => ?_⟩
              refine ⟨[500], [], [], 0, rfl, _, rfl, rfl, d9, 2000000000, _, j9.dg.ok, Nat.le_refl _, rfl, rfl, rfl, ?_⟩
              refine ⟨fun h => absurd (of_decide_eq_true h) (by rw [hwr]; have := j9.fit; rw [r9, hJ'.r] at this; omega), fun _ => ?_⟩
              exact ⟨_, hlt, i + 1, turn + 1, b, [], d9, ⟨hi', ⟨j9, l9, r9.trans hJ'.r, hJ'.t⟩⟩, rfl, rfl, rfl, rfl, rfl, rfl, rfl, congrArg (AV.int .i64) hw1, rfl, rfl, congrArg (AV.int .i64) w, rfl, rfl⟩
            · refine ⟨fun h => Bool.noConfusion (show false = true from h), fun _ => ?_⟩
              obtain ⟨d9, o9, j9, l9, r9, u9⟩ := hJs.j.again hJs.l
              refine ⟨[500], [], [800], 900000, rfl, _, rfl, d, 2000000000, _, hJs.j.dg, hJs.l, hJs.j.run, Nat.le_refl _, o9, rfl, rfl, (fun h => by cases h), ?_⟩
              rintro _ _ ⟨⟩
              refine ⟨rfl, ?_⟩
              refine ⟨fun h => Bool.noConfusion (show false = true from h), fun _ => ?_⟩
              refine ⟨fun h => Bool.noConfusion (show false = true from h), fun _ => ?_⟩
              refine ⟨[800, 500], [900000], [], 900000, rfl, _, rfl, ⟨turn, base, recs, false⟩, d9, 2000000000, rfl, rfl, (Nat.le_trans (recs_few j9).1 (by decide)), (fun r hr => Nat.le_trans ((recs_few j9).2.1 r hr) (by decide)), rfl, ?_⟩
              refine ⟨[800, 500], [900000], [], 900000, rfl, _, rfl, ⟨turn, base, recs, false⟩, d9, 2000000000, rfl, rfl, (Nat.le_trans (recs_few j9).2.2 (by decide)), rfl, ?_⟩
              refine ⟨base, rfl, ?_⟩
              refine ⟨fun h => absurd (show (!(strOf base == strOf base)) = true from h) (by rw [str_refl]; decide), fun _ => ?_⟩
              refine ⟨[800, 500], [900000], [], 900000, rfl, _, rfl, ⟨turn, base, recs, false⟩, d9, 2000000000, rfl, rfl, rfl, ?_⟩
              refine ⟨fun h => absurd (show ((turn : Int) != turn) = true from h) (by simp), fun _ => ?_⟩
              refine ⟨fun h => absurd (bne_iff_ne.1 h) (by simp), fun _ => ?_⟩
              refine ⟨fun mm st => ∃ (kk : Nat), (kk ≤ recs.length) ∧ recs.length - kk = mm ∧ st.t 9 = bss .fz recs ∧ st.t 2 = sss (.own 10000) recs ∧ st.t 32 = .int .i64 ((recs.map by8).length : Nat) ∧ st.t 33 = .int .i64 (kk : Int) ∧ st.t 1000000 = .int .u8 room ∧ st.t 1000002 = by8 b ∧ st.t 1000007 = .ptr 500 0 ∧ st.t 1000008 = .ptr 600 0 ∧ st.t 1000010 = sss (.own 10000) recs ∧ st.t 1000011 = .str (strOf base) ∧ st.t 1000012 = .int .i64 turn ∧ st.t 1000041 = bss (.own 21000) L ∧ st.t 1000042 = .int .i64 ((L.map by8).length : Nat) ∧ st.t 1000043 = .int .i64 (i : Int) ∧ st.t 1000091 = .bool false ∧ st.h 500 = some (dkB d9 2000000000) ∧ st.h 600 = some (jBc 500 700000 ⟨turn, base, recs, false⟩),
                ⟨_, 0, Nat.zero_le _, rfl, rfl, rfl, rfl, rfl, rfl, rfl, rfl, rfl, rfl, rfl, rfl, rfl, rfl, rfl, rfl, rfl, rfl⟩, ?_⟩
              rintro _ ⟨q1, p1⟩ ⟨kk, hi, rfl, e9, e2, e32, e33, e1000000, e1000002, e1000007, e1000008, e1000010, e1000011, e1000012, e1000041, e1000042, e1000043, e1000091, b500, b600⟩
              have e9 : q1 9 = bss .fz recs := e9
              have e2 : q1 2 = sss (.own 10000) recs := e2
              have e32 : q1 32 = .int .i64 ((recs.map by8).length : Nat) := e32
              have e33 : q1 33 = .int .i64 (kk : Int) := e33
              have e1000000 : q1 1000000 = .int .u8 room := e1000000
              have e1000002 : q1 1000002 = by8 b := e1000002
              have e1000007 : q1 1000007 = .ptr 500 0 := e1000007
              have e1000008 : q1 1000008 = .ptr 600 0 := e1000008
              have e1000010 : q1 1000010 = sss (.own 10000) recs := e1000010
              have e1000011 : q1 1000011 = .str (strOf base) := e1000011
              have e1000012 : q1 1000012 = .int .i64 turn := e1000012
              have e1000041 : q1 1000041 = bss (.own 21000) L := e1000041
              have e1000042 : q1 1000042 = .int .i64 ((L.map by8).length : Nat) := e1000042
              have e1000043 : q1 1000043 = .int .i64 (i : Int) := e1000043
              have e1000091 : q1 1000091 = .bool false := e1000091
              have b500 : p1 500 = some (dkB d9 2000000000) := b500
              have b600 : p1 600 = some (jBc 500 700000 ⟨turn, base, recs, false⟩) := b600
              rw [← updL_has q1 [(9, bss .fz recs), (2, sss (.own 10000) recs), (32, .int .i64 ((recs.map by8).length : Nat)), (33, .int .i64 (kk : Int)), (1000000, .int .u8 room), (1000002, by8 b), (1000007, .ptr 500 0), (1000008, .ptr 600 0), (1000010, sss (.own 10000) recs), (1000011, .str (strOf base)), (1000012, .int .i64 turn), (1000041, bss (.own 21000) L), (1000042, .int .i64 ((L.map by8).length : Nat)), (1000043, .int .i64 (i : Int)), (1000091, .bool false)] ⟨e9, e2, e32, e33, e1000000, e1000002, e1000007, e1000008, e1000010, e1000011, e1000012, e1000041, e1000042, e1000043, e1000091, trivial⟩, ← updL_has p1 [(500, some (dkB d9 2000000000)), (600, some (jBc 500 700000 ⟨turn, base, recs, false⟩))] ⟨b500, b600, trivial⟩]
              have hrl0 : recs.length ≤ 1000000000000 := (Nat.le_trans (recs_few j9).1 (by decide))
              constructor
              · intro hb
                have hk3 : kk < recs.length := by
                  have : (kk : Int) < ((recs.map by8).length : Nat) := by simpa using hb
                  simp at this; omega
                have w3 : IntKind.i64.wrap ((kk : Int) + 1) = ((kk + 1 : Nat) : Int) := by rw [wrap_of] <;> omega
                have hlt3 : recs.length - (kk + 1) < recs.length - kk := by omega
                obtain ⟨r, hx⟩ : ∃ x, recs[kk]? = some x := ⟨_, List.getElem?_eq_getElem hk3⟩
                have hm3 := List.mem_of_getElem? hx
                refine ⟨_, Int.natCast_nonneg kk, map_of hx, ?_⟩
                refine ⟨_, Int.natCast_nonneg kk, map_of hx, ?_⟩
                refine ⟨r, rfl, ?_⟩
                refine ⟨fun h => absurd (show (!(strOf r == strOf r)) = true from h) (by rw [str_refl]; decide), fun _ => ?_⟩
                exact ⟨_, hlt3, kk + 1, hk3, rfl, rfl, rfl, rfl, congrArg (AV.int .i64) w3, rfl, rfl, rfl, rfl, rfl, rfl, rfl, rfl, rfl, rfl, rfl, rfl, rfl⟩
              · intro hb
                have hk3 : kk = recs.length := by
                  have : ¬ (kk : Int) < ((recs.map by8).length : Nat) := by simpa using hb
                  simp at this; omega
                subst hk3
                refine ⟨_, rfl, ?_⟩
                refine ⟨fun h => Bool.noConfusion (show false = true from h), fun _ => ?_⟩
                refine ⟨[600, 500], [700000], [], 700000, rfl, _, rfl, ⟨turn, base, recs, false⟩, d9, 2000000000, rfl, rfl, (Nat.le_trans (recs_few j9).1 (by decide)), (fun r hr => Nat.le_trans ((recs_few j9).2.1 r hr) (by decide)), rfl, ?_⟩
                refine ⟨[600, 500], [700000], [], 700000, rfl, _, rfl, ⟨turn, base, recs, false⟩, d9, 2000000000, rfl, rfl, (Nat.le_trans (recs_few j9).2.2 (by decide)), rfl, ?_⟩
                refine ⟨base, rfl, ?_⟩
                refine ⟨fun h => absurd (show (!(strOf base == strOf base)) = true from h) (by rw [str_refl]; decide), fun _ => ?_⟩
                refine ⟨[600, 500], [700000], [], 700000, rfl, _, rfl, ⟨turn, base, recs, false⟩, d9, 2000000000, rfl, rfl, rfl, ?_⟩
                refine ⟨fun h => absurd (show ((turn : Int) != turn) = true from h) (by simp), fun _ => ?_⟩
                refine ⟨fun h => absurd (bne_iff_ne.1 h) (by simp), fun _ => ?_⟩
                refine ⟨fun mm st => ∃ (kk : Nat), (kk ≤ recs.length) ∧ recs.length - kk = mm ∧ st.t 9 = bss .fz recs ∧ st.t 2 = sss (.own 10000) recs ∧ st.t 32 = .int .i64 ((recs.map by8).length : Nat) ∧ st.t 33 = .int .i64 (kk : Int) ∧ st.t 1000000 = .int .u8 room ∧ st.t 1000002 = by8 b ∧ st.t 1000007 = .ptr 500 0 ∧ st.t 1000008 = .ptr 600 0 ∧ st.t 1000010 = sss (.own 10000) recs ∧ st.t 1000011 = .str (strOf base) ∧ st.t 1000012 = .int .i64 turn ∧ st.t 1000041 = bss (.own 21000) L ∧ st.t 1000042 = .int .i64 ((L.map by8).length : Nat) ∧ st.t 1000043 = .int .i64 (i : Int) ∧ st.t 1000099 = .bool false ∧ st.h 500 = some (dkB d9 2000000000) ∧ st.h 600 = some (jBc 500 700000 ⟨turn, base, recs, false⟩),
                  ⟨_, 0, Nat.zero_le _, rfl, rfl, rfl, rfl, rfl, rfl, rfl, rfl, rfl, rfl, rfl, rfl, rfl, rfl, rfl, rfl, rfl, rfl⟩, ?_⟩
                rintro _ ⟨q1, p1⟩ ⟨kk, hi, rfl, e9, e2, e32, e33, e1000000, e1000002, e1000007, e1000008, e1000010, e1000011, e1000012, e1000041, e1000042, e1000043, e1000099, b500, b600⟩
                have e9 : q1 9 = bss .fz recs := e9
                have e2 : q1 2 = sss (.own 10000) recs := e2
                have e32 : q1 32 = .int .i64 ((recs.map by8).length : Nat) := e32
                have e33 : q1 33 = .int .i64 (kk : Int) := e33
                have e1000000 : q1 1000000 = .int .u8 room := e1000000
                have e1000002 : q1 1000002 = by8 b := e1000002
                have e1000007 : q1 1000007 = .ptr 500 0 := e1000007
                have e1000008 : q1 1000008 = .ptr 600 0 := e1000008
                have e1000010 : q1 1000010 = sss (.own 10000) recs := e1000010
                have e1000011 : q1 1000011 = .str (strOf base) := e1000011
                have e1000012 : q1 1000012 = .int .i64 turn := e1000012
                have e1000041 : q1 1000041 = bss (.own 21000) L := e1000041
                have e1000042 : q1 1000042 = .int .i64 ((L.map by8).length : Nat) := e1000042
                have e1000043 : q1 1000043 = .int .i64 (i : Int) := e1000043
                have e1000099 : q1 1000099 = .bool false := e1000099
                have b500 : p1 500 = some (dkB d9 2000000000) := b500
                have b600 : p1 600 = some (jBc 500 700000 ⟨turn, base, recs, false⟩) := b600
                rw [← updL_has q1 [(9, bss .fz recs), (2, sss (.own 10000) recs), (32, .int .i64 ((recs.map by8).length : Nat)), (33, .int .i64 (kk : Int)), (1000000, .int .u8 room), (1000002, by8 b), (1000007, .ptr 500 0), (1000008, .ptr 600 0), (1000010, sss (.own 10000) recs), (1000011, .str (strOf base)), (1000012, .int .i64 turn), (1000041, bss (.own 21000) L), (1000042, .int .i64 ((L.map by8).length : Nat)), (1000043, .int .i64 (i : Int)), (1000099, .bool false)] ⟨e9, e2, e32, e33, e1000000, e1000002, e1000007, e1000008, e1000010, e1000011, e1000012, e1000041, e1000042, e1000043, e1000099, trivial⟩, ← updL_has p1 [(500, some (dkB d9 2000000000)), (600, some (jBc 500 700000 ⟨turn, base, recs, false⟩))] ⟨b500, b600, trivial⟩]
                have hrl0 : recs.length ≤ 1000000000000 := (Nat.le_trans (recs_few j9).1 (by decide))
                constructor
                · intro hb
                  have hk3 : kk < recs.length := by
                    have : (kk : Int) < ((recs.map by8).length : Nat) := by simpa using hb
                    simp at this; omega
                  have w3 : IntKind.i64.wrap ((kk : Int) + 1) = ((kk + 1 : Nat) : Int) := by rw [wrap_of] <;> omega
                  have hlt3 : recs.length - (kk + 1) < recs.length - kk := by omega
                  obtain ⟨r, hx⟩ : ∃ x, recs[kk]? = some x := ⟨_, List.getElem?_eq_getElem hk3⟩
                  have hm3 := List.mem_of_getElem? hx
                  refine ⟨_, Int.natCast_nonneg kk, map_of hx, ?_⟩
                  refine ⟨_, Int.natCast_nonneg kk, map_of hx, ?_⟩
                  refine ⟨r, rfl, ?_⟩
                  refine ⟨fun h => absurd (show (!(strOf r == strOf r)) = true from h) (by rw [str_refl]; decide), fun _ => ?_⟩
                  exact ⟨_, hlt3, kk + 1, hk3, rfl, rfl, rfl, rfl, congrArg (AV.int .i64) w3, rfl, rfl, rfl, rfl, rfl, rfl, rfl, rfl, rfl, rfl, rfl, rfl, rfl⟩
                · intro hb
                  have hk3 : kk = recs.length := by
                    have : ¬ (kk : Int) < ((recs.map by8).length : Nat) := by simpa using hb
                    simp at this; omega
                  subst hk3
                  refine ⟨_, rfl, ?_⟩
                  refine ⟨fun h => Bool.noConfusion (show false = true from h), fun _ => ?_⟩
                  refine ⟨[500], [], [], 0, rfl, _, rfl, rfl, d9, 2000000000, _, j9.dg.ok, Nat.le_refl _, rfl, rfl, rfl, ?_⟩
                  refine ⟨fun h => absurd (of_decide_eq_true h) (by rw [hwr]; have := j9.fit; rw [r9, hJs.r] at this; omega), fun _ => ?_⟩
                  exact ⟨_, hlt, i + 1, turn, base, recs, d9, ⟨hi', ⟨j9, l9, r9.trans hJs.r, hJs.t⟩⟩, rfl, rfl, rfl, rfl, rfl, rfl, rfl, rfl, rfl, rfl, congrArg (AV.int .i64) w, rfl, rfl⟩
          · refine ⟨fun h => Bool.noConfusion (show false = true from h), fun _ => ?_⟩
            obtain ⟨d9, o9, j9, l9, r9, u9⟩ := hJs.j.again hJs.l
            refine ⟨[500], [], [800], 900000, rfl, _, rfl, d, 2000000000, _, hJs.j.dg, hJs.l, hJs.j.run, Nat.le_refl _, o9, rfl, rfl, (fun h => by cases h), ?_⟩
            rintro _ _ ⟨⟩
            refine ⟨rfl, ?_⟩
            refine ⟨fun h => Bool.noConfusion (show false = true from h), fun _ => ?_⟩
            refine ⟨fun h => Bool.noConfusion (show false = true from h), fun _ => ?_⟩
            refine ⟨[800, 500], [900000], [], 900000, rfl, _, rfl, ⟨turn, base, recs, false⟩, d9, 2000000000, rfl, rfl, (Nat.le_trans (recs_few j9).1 (by decide)), (fun r hr => Nat.le_trans ((recs_few j9).2.1 r hr) (by decide)), rfl, ?_⟩
            refine ⟨[800, 500], [900000], [], 900000, rfl, _, rfl, ⟨turn, base, recs, false⟩, d9, 2000000000, rfl, rfl, (Nat.le_trans (recs_few j9).2.2 (by decide)), rfl, ?_⟩
            refine ⟨base, rfl, ?_⟩
            refine ⟨fun h => absurd (show (!(strOf base == strOf base)) = true from h) (by rw [str_refl]; decide), fun _ => ?_⟩
            refine ⟨[800, 500], [900000], [], 900000, rfl, _, rfl, ⟨turn, base, recs, false⟩, d9, 2000000000, rfl, rfl, rfl, ?_⟩
            refine ⟨fun h => absurd (show ((turn : Int) != turn) = true from h) (by simp), fun _ => ?_⟩
            refine ⟨fun h => absurd (bne_iff_ne.1 h) (by simp), fun _ => ?_⟩
            refine ⟨fun mm st => ∃ (kk : Nat), (kk ≤ recs.length) ∧ recs.length - kk = mm ∧ st.t 9 = bss .fz recs ∧ st.t 2 = sss (.own 10000) recs ∧ st.t 32 = .int .i64 ((recs.map by8).length : Nat) ∧ st.t 33 = .int .i64 (kk : Int) ∧ st.t 1000000 = .int .u8 room ∧ st.t 1000002 = by8 b ∧ st.t 1000007 = .ptr 500 0 ∧ st.t 1000008 = .ptr 600 0 ∧ st.t 1000010 = sss (.own 10000) recs ∧ st.t 1000011 = .str (strOf base) ∧ st.t 1000012 = .int .i64 turn ∧ st.t 1000041 = bss (.own 21000) L ∧ st.t 1000042 = .int .i64 ((L.map by8).length : Nat) ∧ st.t 1000043 = .int .i64 (i : Int) ∧ st.t 1000091 = .bool false ∧ st.h 500 = some (dkB d9 2000000000) ∧ st.h 600 = some (jBc 500 700000 ⟨turn, base, recs, false⟩),
              ⟨_, 0, Nat.zero_le _, rfl, rfl, rfl, rfl, rfl, rfl, rfl, rfl, rfl, rfl, rfl, rfl, rfl, rfl, rfl, rfl, rfl, rfl⟩, ?_⟩
            rintro _ ⟨q1, p1⟩ ⟨kk, hi, rfl, e9, e2, e32, e33, e1000000, e1000002, e1000007, e1000008, e1000010, e1000011, e1000012, e1000041, e1000042, e1000043, e1000091, b500, b600⟩
            have e9 : q1 9 = bss .fz recs := e9
            have e2 : q1 2 = sss (.own 10000) recs := e2
            have e32 : q1 32 = .int .i64 ((recs.map by8).length : Nat) := e32
            have e33 : q1 33 = .int .i64 (kk : Int) := e33
            have e1000000 : q1 1000000 = .int .u8 room := e1000000
            have e1000002 : q1 1000002 = by8 b := e1000002
            have e1000007 : q1 1000007 = .ptr 500 0 := e1000007
            have e1000008 : q1 1000008 = .ptr 600 0 := e1000008
            have e1000010 : q1 1000010 = sss (.own 10000) recs := e1000010
            have e1000011 : q1 1000011 = .str (strOf base) := e1000011
            have e1000012 : q1 1000012 = .int .i64 turn := e1000012
            have e1000041 : q1 1000041 = bss (.own 21000) L := e1000041
            have e1000042 : q1 1000042 = .int .i64 ((L.map by8).length : Nat) := e1000042
            have e1000043 : q1 1000043 = .int .i64 (i : Int) := e1000043
            have e1000091 : q1 1000091 = .bool false := e1000091
            have b500 : p1 500 = some (dkB d9 2000000000) := b500
            have b600 : p1 600 = some (jBc 500 700000 ⟨turn, base, recs, false⟩) := b600
            rw [← updL_has q1 [(9, bss .fz recs), (2, sss (.own 10000) recs), (32, .int .i64 ((recs.map by8).length : Nat)), (33, .int .i64 (kk : Int)), (1000000, .int .u8 room), (1000002, by8 b), (1000007, .ptr 500 0), (1000008, .ptr 600 0), (1000010, sss (.own 10000) recs), (1000011, .str (strOf base)), (1000012, .int .i64 turn), (1000041, bss (.own 21000) L), (1000042, .int .i64 ((L.map by8).length : Nat)), (1000043, .int .i64 (i : Int)), (1000091, .bool false)] ⟨e9, e2, e32, e33, e1000000, e1000002, e1000007, e1000008, e1000010, e1000011, e1000012, e1000041, e1000042, e1000043, e1000091, trivial⟩, ← updL_has p1 [(500, some (dkB d9 2000000000)), (600, some (jBc 500 700000 ⟨turn, base, recs, false⟩))] ⟨b500, b600, trivial⟩]
            have hrl0 : recs.length ≤ 1000000000000 := (Nat.le_trans (recs_few j9).1 (by decide))
            constructor
            · intro hb
              have hk3 : kk < recs.length := by
                have : (kk : Int) < ((recs.map by8).length : Nat) := by simpa using hb
                simp at this; omega
              have w3 : IntKind.i64.wrap ((kk : Int) + 1) = ((kk + 1 : Nat) : Int) := by rw [wrap_of] <;> omega
              have hlt3 : recs.length - (kk + 1) < recs.length - kk := by omega
              obtain ⟨r, hx⟩ : ∃ x, recs[kk]? = some x := ⟨_, List.getElem?_eq_getElem hk3⟩
              have hm3 := List.mem_of_getElem? hx
              refine ⟨_, Int.natCast_nonneg kk, map_of hx, ?_⟩
              refine ⟨_, Int.natCast_nonneg kk, map_of hx, ?_⟩
              refine ⟨r, rfl, ?_⟩
              refine ⟨fun h => absurd (show (!(strOf r == strOf r)) = true from h) (by rw [str_refl]; decide), fun _ => ?_⟩
              exact ⟨_, hlt3, kk + 1, hk3, rfl, rfl, rfl, rfl, congrArg (AV.int .i64) w3, rfl, rfl, rfl, rfl, rfl, rfl, rfl, rfl, rfl, rfl, rfl, rfl, rfl⟩
            · intro hb
              have hk3 : kk = recs.length := by
                have : ¬ (kk : Int) < ((recs.map by8).length : Nat) := by simpa using hb
                simp at this; omega
              subst hk3
              refine ⟨_, rfl, ?_⟩
              refine ⟨fun h => Bool.noConfusion (show false = true from h), fun _ => ?_⟩
              refine ⟨[600, 500], [700000], [], 700000, rfl, _, rfl, ⟨turn, base, recs, false⟩, d9, 2000000000, rfl, rfl, (Nat.le_trans (recs_few j9).1 (by decide)), (fun r hr => Nat.le_trans ((recs_few j9).2.1 r hr) (by decide)), rfl, ?_⟩
              refine ⟨[600, 500], [700000], [], 700000, rfl, _, rfl, ⟨turn, base, recs, false⟩, d9, 2000000000, rfl, rfl, (Nat.le_trans (recs_few j9).2.2 (by decide)), rfl, ?_⟩
              refine ⟨base, rfl, ?_⟩
              refine ⟨fun h => absurd (show (!(strOf base == strOf base)) = true from h) (by rw [str_refl]; decide), fun _ => ?_⟩
              refine ⟨[600, 500], [700000], [], 700000, rfl, _, rfl, ⟨turn, base, recs, false⟩, d9, 2000000000, rfl, rfl, rfl, ?_⟩
              refine ⟨fun h => absurd (show ((turn : Int) != turn) = true from h) (by simp), fun _ => ?_⟩
              refine ⟨fun h => absurd (bne_iff_ne.1 h) (by simp), fun _ => ?_⟩
              refine ⟨fun mm st => ∃ (kk : Nat), (kk ≤ recs.length) ∧ recs.length - kk = mm ∧ st.t 9 = bss .fz recs ∧ st.t 2 = sss (.own 10000) recs ∧ st.t 32 = .int .i64 ((recs.map by8).length : Nat) ∧ st.t 33 = .int .i64 (kk : Int) ∧ st.t 1000000 = .int .u8 room ∧ st.t 1000002 = by8 b ∧ st.t 1000007 = .ptr 500 0 ∧ st.t 1000008 = .ptr 600 0 ∧ st.t 1000010 = sss (.own 10000) recs ∧ st.t 1000011 = .str (strOf base) ∧ st.t 1000012 = .int .i64 turn ∧ st.t 1000041 = bss (.own 21000) L ∧ st.t 1000042 = .int .i64 ((L.map by8).length : Nat) ∧ st.t 1000043 = .int .i64 (i : Int) ∧ st.t 1000099 = .bool false ∧ st.h 500 = some (dkB d9 2000000000) ∧ st.h 600 = some (jBc 500 700000 ⟨turn, base, recs, false⟩),
                ⟨_, 0, Nat.zero_le _, rfl, rfl, rfl, rfl, rfl, rfl, rfl, rfl, rfl, rfl, rfl, rfl, rfl, rfl, rfl, rfl, rfl, rfl⟩, ?_⟩
              rintro _ ⟨q1, p1⟩ ⟨kk, hi, rfl, e9, e2, e32, e33, e1000000, e1000002, e1000007, e1000008, e1000010, e1000011, e1000012, e1000041, e1000042, e1000043, e1000099, b500, b600⟩
              have e9 : q1 9 = bss .fz recs := e9
              have e2 : q1 2 = sss (.own 10000) recs := e2
              have e32 : q1 32 = .int .i64 ((recs.map by8).length : Nat) := e32
              have e33 : q1 33 = .int .i64 (kk : Int) := e33
              have e1000000 : q1 1000000 = .int .u8 room := e1000000
              have e1000002 : q1 1000002 = by8 b := e1000002
              have e1000007 : q1 1000007 = .ptr 500 0 := e1000007
              have e1000008 : q1 1000008 = .ptr 600 0 := e1000008
              have e1000010 : q1 1000010 = sss (.own 10000) recs := e1000010
              have e1000011 : q1 1000011 = .str (strOf base) := e1000011
              have e1000012 : q1 1000012 = .int .i64 turn := e1000012
              have e1000041 : q1 1000041 = bss (.own 21000) L := e1000041
              have e1000042 : q1 1000042 = .int .i64 ((L.map by8).length : Nat) := e1000042
              have e1000043 : q1 1000043 = .int .i64 (i : Int) := e1000043
              have e1000099 : q1 1000099 = .bool false := e1000099
              have b500 : p1 500 = some (dkB d9 2000000000) := b500
              have b600 : p1 600 = some (jBc 500 700000 ⟨turn, base, recs, false⟩) := b600
              rw [← updL_has q1 [(9, bss .fz recs), (2, sss (.own 10000) recs), (32, .int .i64 ((recs.map by8).length : Nat)), (33, .int .i64 (kk : Int)), (1000000, .int .u8 room), (1000002, by8 b), (1000007, .ptr 500 0), (1000008, .ptr 600 0), (1000010, sss (.own 10000) recs), (1000011, .str (strOf base)), (1000012, .int .i64 turn), (1000041, bss (.own 21000) L), (1000042, .int .i64 ((L.map by8).length : Nat)), (1000043, .int .i64 (i : Int)), (1000099, .bool false)] ⟨e9, e2, e32, e33, e1000000, e1000002, e1000007, e1000008, e1000010, e1000011, e1000012, e1000041, e1000042, e1000043, e1000099, trivial⟩, ← updL_has p1 [(500, some (dkB d9 2000000000)), (600, some (jBc 500 700000 ⟨turn, base, recs, false⟩))] ⟨b500, b600, trivial⟩]
              have hrl0 : recs.length ≤ 1000000000000 := (Nat.le_trans (recs_few j9).1 (by decide))
              constructor
              · intro hb
                have hk3 : kk < recs.length := by
                  have : (kk : Int) < ((recs.map by8).length : Nat) := by simpa using hb
                  simp at this; omega
                have w3 : IntKind.i64.wrap ((kk : Int) + 1) = ((kk + 1 : Nat) : Int) := by rw [wrap_of] <;> omega
                have hlt3 : recs.length - (kk + 1) < recs.length - kk := by omega
                obtain ⟨r, hx⟩ : ∃ x, recs[kk]? = some x := ⟨_, List.getElem?_eq_getElem hk3⟩
                have hm3 := List.mem_of_getElem? hx
                refine ⟨_, Int.natCast_nonneg kk, map_of hx, ?_⟩
                refine ⟨_, Int.natCast_nonneg kk, map_of hx, ?_⟩
                refine ⟨r, rfl, ?_⟩
                refine ⟨fun h => absurd (show (!(strOf r == strOf r)) = true from h) (by rw [str_refl]; decide), fun _ => ?_⟩
                exact ⟨_, hlt3, kk + 1, hk3, rfl, rfl, rfl, rfl, congrArg (AV.int .i64) w3, rfl, rfl, rfl, rfl, rfl, rfl, rfl, rfl, rfl, rfl, rfl, rfl, rfl⟩
              · intro hb
                have hk3 : kk = recs.length := by
                  have : ¬ (kk : Int) < ((recs.map by8).length : Nat) := by simpa using hb
                  simp at this; omega
                subst hk3
                refine ⟨_, rfl, ?_⟩
                refine ⟨fun h => Bool.noConfusion (show false = true from h), fun _ => ?_⟩
                refine ⟨[500], [], [], 0, rfl, _, rfl, rfl, d9, 2000000000, _, j9.dg.ok, Nat.le_refl _, rfl, rfl, rfl, ?_⟩
                refine ⟨fun h => absurd (of_decide_eq_true h) (by rw [hwr]; have := j9.fit; rw [r9, hJs.r] at this; omega), fun _ => ?_⟩
                exact ⟨_, hlt, i + 1, turn, base, recs, d9, ⟨hi', ⟨j9, l9, r9.trans hJs.r, hJs.t⟩⟩, rfl, rfl, rfl, rfl, rfl, rfl, rfl, rfl, rfl, rfl, congrArg (AV.int .i64) w, rfl, rfl⟩
        · refine ⟨fun h => Bool.noConfusion (show false = true from h), fun _ => ?_⟩
          refine ⟨fun h => Bool.noConfusion (show false = true from h), fun _ => ?_⟩
          obtain ⟨d9, o9, j9, l9, r9, u9⟩ := hJs.j.again hJs.l
          refine ⟨[500], [], [800], 900000, rfl, _, rfl, d, 2000000000, _, hJs.j.dg, hJs.l, hJs.j.run, Nat.le_refl _, o9, rfl, rfl, (fun h => by cases h), ?_⟩
          rintro _ _ ⟨⟩
          refine ⟨rfl, ?_⟩
          refine ⟨fun h => Bool.noConfusion (show false = true from h), fun _ => ?_⟩
          refine ⟨fun h => Bool.noConfusion (show false = true from h), fun _ => ?_⟩
          refine ⟨[800, 500], [900000], [], 900000, rfl, _, rfl, ⟨turn, base, recs, false⟩, d9, 2000000000, rfl, rfl, (Nat.le_trans (recs_few j9).1 (by decide)), (fun r hr => Nat.le_trans ((recs_few j9).2.1 r hr) (by decide)), rfl, ?_⟩
          refine ⟨[800, 500], [900000], [], 900000, rfl, _, rfl, ⟨turn, base, recs, false⟩, d9, 2000000000, rfl, rfl, (Nat.le_trans (recs_few j9).2.2 (by decide)), rfl, ?_⟩
          refine ⟨base, rfl, ?_⟩
          refine ⟨fun h => absurd (show (!(strOf base == strOf base)) = true from h) (by rw [str_refl]; decide), fun _ => ?_⟩
          refine ⟨[800, 500], [900000], [], 900000, rfl, _, rfl, ⟨turn, base, recs, false⟩, d9, 2000000000, rfl, rfl, rfl, ?_⟩
          refine ⟨fun h => absurd (show ((turn : Int) != turn) = true from h) (by simp), fun _ => ?_⟩
          refine ⟨fun h => absurd (bne_iff_ne.1 h) (by simp), fun _ => ?_⟩
          refine ⟨fun mm st => ∃ (kk : Nat), (kk ≤ recs.length) ∧ recs.length - kk = mm ∧ st.t 9 = bss .fz recs ∧ st.t 2 = sss (.own 10000) recs ∧ st.t 32 = .int .i64 ((recs.map by8).length : Nat) ∧ st.t 33 = .int .i64 (kk : Int) ∧ st.t 1000000 = .int .u8 room ∧ st.t 1000002 = by8 b ∧ st.t 1000007 = .ptr 500 0 ∧ st.t 1000008 = .ptr 600 0 ∧ st.t 1000010 = sss (.own 10000) recs ∧ st.t 1000011 = .str (strOf base) ∧ st.t 1000012 = .int .i64 turn ∧ st.t 1000041 = bss (.own 21000) L ∧ st.t 1000042 = .int .i64 ((L.map by8).length : Nat) ∧ st.t 1000043 = .int .i64 (i : Int) ∧ st.t 1000091 = .bool false ∧ st.h 500 = some (dkB d9 2000000000) ∧ st.h 600 = some (jBc 500 700000 ⟨turn, base, recs, false⟩),
            ⟨_, 0, Nat.zero_le _, rfl, rfl, rfl, rfl, rfl, rfl, rfl, rfl, rfl, rfl, rfl, rfl, rfl, rfl, rfl, rfl, rfl, rfl⟩, ?_⟩
          rintro _ ⟨q1, p1⟩ ⟨kk, hi, rfl, e9, e2, e32, e33, e1000000, e1000002, e1000007, e1000008, e1000010, e1000011, e1000012, e1000041, e1000042, e1000043, e1000091, b500, b600⟩
          have e9 : q1 9 = bss .fz recs := e9
          have e2 : q1 2 = sss (.own 10000) recs := e2
          have e32 : q1 32 = .int .i64 ((recs.map by8).length : Nat) := e32
          have e33 : q1 33 = .int .i64 (kk : Int) := e33
          have e1000000 : q1 1000000 = .int .u8 room := e1000000
          have e1000002 : q1 1000002 = by8 b := e1000002
          have e1000007 : q1 1000007 = .ptr 500 0 := e1000007
          have e1000008 : q1 1000008 = .ptr 600 0 := e1000008
          have e1000010 : q1 1000010 = sss (.own 10000) recs := e1000010
          have e1000011 : q1 1000011 = .str (strOf base) := e1000011
          have e1000012 : q1 1000012 = .int .i64 turn := e1000012
          have e1000041 : q1 1000041 = bss (.own 21000) L := e1000041
          have e1000042 : q1 1000042 = .int .i64 ((L.map by8).length : Nat) := e1000042
          have e1000043 : q1 1000043 = .int .i64 (i : Int) := e1000043
          have e1000091 : q1 1000091 = .bool false := e1000091
          have b500 : p1 500 = some (dkB d9 2000000000) := b500
          have b600 : p1 600 = some (jBc 500 700000 ⟨turn, base, recs, false⟩) := b600
          rw [← updL_has q1 [(9, bss .fz recs), (2, sss (.own 10000) recs), (32, .int .i64 ((recs.map by8).length : Nat)), (33, .int .i64 (kk : Int)), (1000000, .int .u8 room), (1000002, by8 b), (1000007, .ptr 500 0), (1000008, .ptr 600 0), (1000010, sss (.own 10000) recs), (1000011, .str (strOf base)), (1000012, .int .i64 turn), (1000041, bss (.own 21000) L), (1000042, .int .i64 ((L.map by8).length : Nat)), (1000043, .int .i64 (i : Int)), (1000091, .bool false)] ⟨e9, e2, e32, e33, e1000000, e1000002, e1000007, e1000008, e1000010, e1000011, e1000012, e1000041, e1000042, e1000043, e1000091, trivial⟩, ← updL_has p1 [(500, some (dkB d9 2000000000)), (600, some (jBc 500 700000 ⟨turn, base, recs, false⟩))] ⟨b500, b600, trivial⟩]
          have hrl0 : recs.length ≤ 1000000000000 := (Nat.le_trans (recs_few j9).1 (by decide))
          constructor
          · intro hb
            have hk3 : kk < recs.length := by
              have : (kk : Int) < ((recs.map by8).length : Nat) := by simpa using hb
              simp at this; omega
            have w3 : IntKind.i64.wrap ((kk : Int) + 1) = ((kk + 1 : Nat) : Int) := by rw [wrap_of] <;> omega
            have hlt3 : recs.length - (kk + 1) < recs.length - kk := by omega
            obtain ⟨r, hx⟩ : ∃ x, recs[kk]? = some x := ⟨_, List.getElem?_eq_getElem hk3⟩
            have hm3 := List.mem_of_getElem? hx
            refine ⟨_, Int.natCast_nonneg kk, map_of hx, ?_⟩
            refine ⟨_, Int.natCast_nonneg kk, map_of hx, ?_⟩
            refine ⟨r, rfl, ?_⟩
            refine ⟨fun h => absurd (show (!(strOf r == strOf r)) = true from h) (by rw [str_refl]; decide), fun _ => ?_⟩
            exact ⟨_, hlt3, kk + 1, hk3, rfl, rfl, rfl, rfl, congrArg (AV.int .i64) w3, rfl, rfl, rfl, rfl, rfl, rfl, rfl, rfl, rfl, rfl, rfl, rfl, rfl⟩
          · intro hb
            have hk3 : kk = recs.length := by
              have : ¬ (kk : Int) < ((recs.map by8).length : Nat) := by simpa using hb
              simp at this; omega
            subst hk3
            refine ⟨_, rfl, ?_⟩
            refine ⟨fun h => Bool.noConfusion (show false = true from h), fun _ => ?_⟩
            refine ⟨[600, 500], [700000], [], 700000, rfl, _, rfl, ⟨turn, base, recs, false⟩, d9, 2000000000, rfl, rfl, (Nat.le_trans (recs_few j9).1 (by decide)), (fun r hr => Nat.le_trans ((recs_few j9).2.1 r hr) (by decide)), rfl, ?_⟩
            refine ⟨[600, 500], [700000], [], 700000, rfl, _, rfl, ⟨turn, base, recs, false⟩, d9, 2000000000, rfl, rfl, (Nat.le_trans (recs_few j9).2.2 (by decide)), rfl, ?_⟩
            refine ⟨base, rfl, ?_⟩
            refine ⟨fun h => absurd (show (!(strOf base == strOf base)) = true from h) (by rw [str_refl]; decide), fun _ => ?_⟩
            refine ⟨[600, 500], [700000], [], 700000, rfl, _, rfl, ⟨turn, base, recs, false⟩, d9, 2000000000, rfl, rfl, rfl, ?_⟩
            refine ⟨fun h => absurd (show ((turn : Int) != turn) = true from h) (by simp), fun _ => ?_⟩
            refine ⟨fun h => absurd (bne_iff_ne.1 h) (by simp), fun _ => ?_⟩
            refine ⟨fun mm st => ∃ (kk : Nat), (kk ≤ recs.length) ∧ recs.length - kk = mm ∧ st.t 9 = bss .fz recs ∧ st.t 2 = sss (.own 10000) recs ∧ st.t 32 = .int .i64 ((recs.map by8).length : Nat) ∧ st.t 33 = .int .i64 (kk : Int) ∧ st.t 1000000 = .int .u8 room ∧ st.t 1000002 = by8 b ∧ st.t 1000007 = .ptr 500 0 ∧ st.t 1000008 = .ptr 600 0 ∧ st.t 1000010 = sss (.own 10000) recs ∧ st.t 1000011 = .str (strOf base) ∧ st.t 1000012 = .int .i64 turn ∧ st.t 1000041 = bss (.own 21000) L ∧ st.t 1000042 = .int .i64 ((L.map by8).length : Nat) ∧ st.t 1000043 = .int .i64 (i : Int) ∧ st.t 1000099 = .bool false ∧ st.h 500 = some (dkB d9 2000000000) ∧ st.h 600 = some (jBc 500 700000 ⟨turn, base, recs, false⟩),
              ⟨_, 0, Nat.zero_le _, rfl, rfl, rfl, rfl, rfl, rfl, rfl, rfl, rfl, rfl, rfl, rfl, rfl, rfl, rfl, rfl, rfl, rfl⟩, ?_⟩
            rintro _ ⟨q1, p1⟩ ⟨kk, hi, rfl, e9, e2, e32, e33, e1000000, e1000002, e1000007, e1000008, e1000010, e1000011, e1000012, e1000041, e1000042, e1000043, e1000099, b500, b600⟩
            have e9 : q1 9 = bss .fz recs := e9
            have e2 : q1 2 = sss (.own 10000) recs := e2
            have e32 : q1 32 = .int .i64 ((recs.map by8).length : Nat) := e32
            have e33 : q1 33 = .int .i64 (kk : Int) := e33
            have e1000000 : q1 1000000 = .int .u8 room := e1000000
            have e1000002 : q1 1000002 = by8 b := e1000002
            have e1000007 : q1 1000007 = .ptr 500 0 := e1000007
            have e1000008 : q1 1000008 = .ptr 600 0 := e1000008
            have e1000010 : q1 1000010 = sss (.own 10000) recs := e1000010
            have e1000011 : q1 1000011 = .str (strOf base) := e1000011
            have e1000012 : q1 1000012 = .int .i64 turn := e1000012
            have e1000041 : q1 1000041 = bss (.own 21000) L := e1000041
            have e1000042 : q1 1000042 = .int .i64 ((L.map by8).length : Nat) := e1000042
            have e1000043 : q1 1000043 = .int .i64 (i : Int) := e1000043
            have e1000099 : q1 1000099 = .bool false := e1000099
            have b500 : p1 500 = some (dkB d9 2000000000) := b500
            have b600 : p1 600 = some (jBc 500 700000 ⟨turn, base, recs, false⟩) := b600
            rw [← updL_has q1 [(9, bss .fz recs), (2, sss (.own 10000) recs), (32, .int .i64 ((recs.map by8).length : Nat)), (33, .int .i64 (kk : Int)), (1000000, .int .u8 room), (1000002, by8 b), (1000007, .ptr 500 0), (1000008, .ptr 600 0), (1000010, sss (.own 10000) recs), (1000011, .str (strOf base)), (1000012, .int .i64 turn), (1000041, bss (.own 21000) L), (1000042, .int .i64 ((L.map by8).length : Nat)), (1000043, .int .i64 (i : Int)), (1000099, .bool false)] ⟨e9, e2, e32, e33, e1000000, e1000002, e1000007, e1000008, e1000010, e1000011, e1000012, e1000041, e1000042, e1000043, e1000099, trivial⟩, ← updL_has p1 [(500, some (dkB d9 2000000000)), (600, some (jBc 500 700000 ⟨turn, base, recs, false⟩))] ⟨b500, b600, trivial⟩]
            have hrl0 : recs.length ≤ 1000000000000 := (Nat.le_trans (recs_few j9).1 (by decide))
            constructor
            · intro hb
              have hk3 : kk < recs.length := by
                have : (kk : Int) < ((recs.map by8).length : Nat) := by simpa using hb
                simp at this; omega
              have w3 : IntKind.i64.wrap ((kk : Int) + 1) = ((kk + 1 : Nat) : Int) := by rw [wrap_of] <;> omega
              have hlt3 : recs.length - (kk + 1) < recs.length - kk := by omega
              obtain ⟨r, hx⟩ : ∃ x, recs[kk]? = some x := ⟨_, List.getElem?_eq_getElem hk3⟩
              have hm3 := List.mem_of_getElem? hx
              refine ⟨_, Int.natCast_nonneg kk, map_of hx, ?_⟩
              refine ⟨_, Int.natCast_nonneg kk, map_of hx, ?_⟩
              refine ⟨r, rfl, ?_⟩
              refine ⟨fun h => absurd (show (!(strOf r == strOf r)) = true from h) (by rw [str_refl]; decide), fun _ => ?_⟩
              exact ⟨_, hlt3, kk + 1, hk3, rfl, rfl, rfl, rfl, congrArg (AV.int .i64) w3, rfl, rfl, rfl, rfl, rfl, rfl, rfl, rfl, rfl, rfl, rfl, rfl, rfl⟩
            · intro hb
              have hk3 : kk = recs.length := by
                have : ¬ (kk : Int) < ((recs.map by8).length : Nat) := by simpa using hb
                simp at this; omega
              subst hk3
              refine ⟨_, rfl, ?_⟩
              refine ⟨fun h => Bool.noConfusion (show false = true from h), fun _ => ?_⟩
              refine ⟨[500], [], [], 0, rfl, _, rfl, rfl, d9, 2000000000, _, j9.dg.ok, Nat.le_refl _, rfl, rfl, rfl, ?_⟩
              refine ⟨fun h => absurd (of_decide_eq_true h) (by rw [hwr]; have := j9.fit; rw [r9, hJs.r] at this; omega), fun _ => ?_⟩
              exact ⟨_, hlt, i + 1, turn, base, recs, d9, ⟨hi', ⟨j9, l9, r9.trans hJs.r, hJs.t⟩⟩, rfl, rfl, rfl, rfl, rfl, rfl, rfl, rfl, rfl, rfl, congrArg (AV.int .i64) w, rfl, rfl⟩
    · intro hb
      have hi' : i = L.length := by
        have : ¬ (i : Int) < ((L.map by8).length : Nat) := by simpa using hb
        simp at this; omega
      subst hi'
      refine ⟨[600, 500], [700000], [], 700000, rfl, _, rfl, ⟨turn, base, recs, false⟩, d, 2000000000, rfl, rfl, rfl, ?_⟩
      exact hK
end Go.Proofs.YtbpcofnhndgoeaaDoor.A
