/- JournalLong, walked. -/
import Derived.Test.YtbpcofnhndgoeaaDoorJL0
import Derived.Test.YtbpcofnhndgoeaaDoorGD
namespace Go.Proofs.YtbpcofnhndgoeaaDoor.A
open Go Q
def RLo : Contract
  | 21 => awake6C
  | 17 => numberC
  | _ => fun _ _ _ => False
theorem RLo_ok : CallOk Tryd.prog tab RLo := by
  intro f args bs K h
  unfold RLo at h
  split at h
  · exact ⟨_, h, awake6_ok⟩
  · exact ⟨_, h, number_ok⟩
  · exact h.elim
def RLo_E (pl : Nat → Plan) : En := ⟨tab, RLo, fun _ => none, 0, pl⟩
theorem RLo_J (pl : Nat → Plan) : JOk Tryd.prog (RLo_E pl).T (RLo_E pl).J := fun _ _ h => by cases h
noncomputable def Lo_E (pl : Nat → Plan) : En := ⟨tab, RLo, JLw, 0, pl⟩
def longL (args : List AV) (bs : List Box) (K : Kon) : Prop := bs = [] ∧ ∃ n b, args = [.int .u16 n, by8 b] ∧ (0 ≤ n ∧ n ≤ 65535) ∧ byteL b ∧ K (.bool true) []
theorem zeros_byte (k : Nat) : byteL (List.replicate k (0 : Int)) := fun c hc => by rw [List.eq_of_mem_replicate hc]; decide
theorem toldV {s : St} {d : Option Tmp} {v v' : AV} {K : St → Prop} (h : v = v') (g : s.putF d v' K) : s.putF d v K := h ▸ g
theorem told2 {Q : St → Prop} {t : Nat → AV} {h : Nat → Option Box} (l : List (Nat × AV)) (lb : List (Nat × Option Box)) (ht : Has t l) (hh : Has h lb) (g : Q ⟨updL t l, updL h lb⟩) : Q ⟨t, h⟩ := by
  rw [updL_has t l ht, updL_has h lb hh] at g
  exact g
theorem ifT_mk {b : Bool} {p : Prop} (hb : b = true) (h : p) : ifT b p := by rw [hb]; exact h
theorem putI_1 : (putI 1).length = 1 := by decide
set_option maxRecDepth 200000 in
set_option maxHeartbeats 16000000 in
theorem long_ok : FnOk Tryd.prog tab 8 longL := by
  refine fn_ok (E := Lo_E pl8) tab_is RLo_ok JLw_ok Tryd.func8 rfl rfl (by kernel_rfl) ?_
  rintro args bs K ⟨rfl, n, b0, rfl, ⟨hn0, hn1⟩, hbb, hK⟩
  refine ⟨rfl, ?_⟩
  obtain ⟨hb, hbe, hb1, hb2, hb3⟩ := min500 b0
  rw [hbe] at hb1 hb2
  obtain ⟨b, hbl⟩ : ∃ a, a = b0.take (if (500 : Int) < (((b0.map (AV.int .u8)).length : Nat) : Int) then (500 : Int) else (((b0.map (AV.int .u8)).length : Nat) : Int)).toNat := ⟨_, rfl⟩
  have hbn : b.length ≤ 500 := by rw [hbl, List.length_take]; omega
  have hbb : byteL b := by rw [hbl]; exact byteL_take hbb _
  obtain ⟨k, hk⟩ : ∃ k : Nat, (n.tmod 20000) = k := ⟨(n.tmod 20000).toNat, by have := Int.tmod_nonneg 20000 hn0; omega⟩
  have hkn : k < 20000 := by have := Int.tmod_lt_of_pos n (show (0 : Int) < 20000 by decide); omega
  have hw : (IntKind.i64.wrap n).tmod 20000 = k := by rw [wrap_of (by omega) (by omega), hk]
  obtain ⟨X, hX⟩ : ∃ X, List.replicate k (0 : Int) = X := ⟨_, rfl⟩
  have hXl : X.length = k := by rw [← hX, List.length_replicate]
  have hXb : byteL X := by rw [← hX]; exact zeros_byte k
  obtain ⟨d1, o1, j1, l1, r1, u1⟩ := JOK.first 262144
  have r1 : d1.room = 262144 := r1
  have hfr : (frames [b, X]).length ≤ 512 + k := by simp [frames, frame_len]; omega
  have rest : ∀ t h, wpA (Lo_E pl8) (rst 6 (bodyOf Tryd.f8)) (bodyA tab Tryd.f8 [] K) ⟨updL t [(0, .int .u16 n), (1, by8 b), (5, .ptr 500 0), (6, .ptr 600 0)], updL h [(500, some (dkB d1 2000000000)), (600, some (jBc 500 700000 ⟨0, [], [], false⟩))]⟩ := by
    intro t h
    refine ⟨(by decide : (20000 : Int) ≠ 0), ?_⟩
    refine ⟨(show 0 ≤ (IntKind.i64.wrap n).tmod 20000 by rw [hw]; omega), Int.le_refl _, (show (IntKind.i64.wrap n).tmod 20000 * 1 ≤ 140737488355328 by rw [hw]; omega), (show (IntKind.i64.wrap n).tmod 20000 ≤ 9223372036854775807 by rw [hw]; omega), ?_⟩
    refine ifT_mk (by kernel_rfl) ?_
    refine toldV (show AV.sl (.own 32000) 5 (List.replicate ((IntKind.i64.wrap n).tmod 20000).toNat (.int .u8 0)) = by8g (.own 32000) X by rw [hw, ← hX, by8g, List.map_replicate, Int.toNat_natCast]) ?_
    have hxl : (((X.map (AV.int .u8)).length : Nat) : Int) = k := by rw [List.length_map, hXl]
    by_cases hlong : 16384 < k
    · refine ⟨[600, 500], [700000], [], 700000, rfl, _, rfl, [.ptr 1000000000 0, bss .fz [b, X]], ⟨.inl rfl, .inl rfl, trivial⟩, .inr (.inr ⟨⟨0, [], [], false⟩, d1, 2000000000, [b, X], j1, Nat.le_refl _, (by simp), ⟨X, (by simp), (by omega)⟩, (fun r hr => by
        simp only [List.mem_cons, List.not_mem_nil, or_false] at hr
        rcases hr with rfl | rfl <;> omega), rfl, rfl, (by omega), rfl, ?_⟩)⟩
      refine ⟨fun _ => ?_, fun h => absurd (of_decide_eq_false h) (by rw [hxl]; omega)⟩
      refine ⟨rfl, .inr ⟨13, rfl, ?_⟩⟩
      refine ⟨fun _ => ?_, fun h => Bool.noConfusion (show true = false from h)⟩
      refine ⟨[600, 500], [700000], [], 700000, rfl, _, rfl, ⟨0, [], [], false⟩, d1, 2000000000, rfl, rfl, (Nat.le_trans (recs_few j1).1 (by decide)), (fun r hr => Nat.le_trans ((recs_few j1).2.1 r hr) (by decide)), rfl, ?_⟩
      refine ⟨[600, 500], [700000], [], 700000, rfl, _, rfl, ⟨0, [], [], false⟩, d1, 2000000000, rfl, rfl, (by simp), rfl, ?_⟩
      refine ⟨[], rfl, ?_⟩
      refine ⟨fun h => absurd (show (!(strOf [] == strOf [])) = true from h) (by rw [str_refl]; decide), fun _ => ?_⟩
      refine ⟨[600, 500], [700000], [], 700000, rfl, _, rfl, ⟨0, [], [], false⟩, d1, 2000000000, rfl, rfl, rfl, ?_⟩
      refine ⟨fun h => absurd (show ((0 : Int) != 0) = true from h) (by simp), fun _ => ?_⟩
      refine ⟨fun h => absurd (bne_iff_ne.1 h) (by simp), fun _ => ?_⟩
      refine loopR 1 (roundsR_succ ?_)
      refine ⟨fun h => Bool.noConfusion (show false = true from h), fun _ => ?_⟩
      refine ⟨_, rfl, ?_⟩
      refine ⟨fun _ => ?_, fun h => Bool.noConfusion (show true = false from h)⟩
      refine ⟨[500], [], [], 0, rfl, _, rfl, rfl, d1, 2000000000, 0, j1.dg.ok, Nat.le_refl _, (by rw [u1]; rfl), rfl, rfl, ?_⟩
      refine ⟨fun _ => ?_, fun h => Bool.noConfusion (show true = false from h)⟩
      refine ⟨[600, 500], [700000], [], 700000, rfl, _, rfl, ⟨0, [], [], false⟩, d1, 2000000000, rfl, rfl, rfl, ?_⟩
      refine ⟨fun _ => ?_, fun h => Bool.noConfusion (show true = false from h)⟩
      refine ⟨[600, 500], [700000], [], 700000, rfl, _, rfl, [.ptr 1000000000 0, by8 X], ⟨.inl rfl, .inl rfl, trivial⟩, .inl ⟨⟨0, [], [], false⟩, d1, 2000000000, X, j1, Nat.le_refl _, (by decide), (by omega), hXb, rfl, rfl, fun _ => ⟨rfl, ?_⟩, fun h => absurd h (by rw [List.length_append]; omega)⟩⟩
      refine ⟨rfl, .inr ⟨13, rfl, ?_⟩⟩
      exact hK
    · have hrec : ∀ r ∈ [b, X], Rec r := fun r hr => by
        simp only [List.mem_cons, List.not_mem_nil, or_false] at hr
        rcases hr with rfl | rfl
        · exact ⟨by omega, hbb⟩
        · exact ⟨by omega, hXb⟩
      refine ⟨[600, 500], [700000], [], 700000, rfl, _, rfl, [.ptr 1000000000 0, bss .fz [b, X]], ⟨.inl rfl, .inl rfl, trivial⟩, .inl ⟨⟨0, [], [], false⟩, d1, 2000000000, [b, X], j1, Nat.le_refl _, (by simp), hrec, rfl, rfl, fun d2 j2 r2 u2 l2 _ => ⟨rfl, ?_⟩, fun h => absurd h (by rw [u1, r1]; omega), fun _ h => absurd l1 h⟩⟩
      refine ⟨fun h => absurd (of_decide_eq_true h) (by rw [hxl]; omega), fun _ => ?_⟩
      refine ⟨fun _ => ?_, fun h => Bool.noConfusion (show true = false from h)⟩
      refine ⟨b, rfl, ?_⟩
      refine ⟨X, rfl, ?_⟩
      refine ⟨[600, 500], [700000], [], 700000, rfl, _, rfl, ⟨0, [], [b, X], false⟩, d2, 2000000000, rfl, rfl, (by simp), (fun r hr => Nat.le_trans ((recs_few j2).2.1 r hr) (by decide)), rfl, ?_⟩
      refine ⟨[600, 500], [700000], [], 700000, rfl, _, rfl, ⟨0, [], [b, X], false⟩, d2, 2000000000, rfl, rfl, (by simp), rfl, ?_⟩
      refine ⟨[], rfl, ?_⟩
      refine ⟨fun h => absurd (show (!(strOf [] == strOf [])) = true from h) (by rw [str_refl]; decide), fun _ => ?_⟩
      refine ⟨[600, 500], [700000], [], 700000, rfl, _, rfl, ⟨0, [], [b, X], false⟩, d2, 2000000000, rfl, rfl, rfl, ?_⟩
      refine ⟨fun h => absurd (show ((0 : Int) != 0) = true from h) (by simp), fun _ => ?_⟩
      refine ⟨fun h => absurd (bne_iff_ne.1 h) (by simp), fun _ => ?_⟩
      refine loopR 3 (roundsR_succ ?_)
      refine ⟨fun _ => ?_, fun h => Bool.noConfusion (show true = false from h)⟩
      refine ⟨_, (by decide), rfl, ?_⟩
      refine ⟨_, (by decide), rfl, ?_⟩
      refine ⟨b, rfl, ?_⟩
      refine ⟨fun h => absurd (show (!(strOf b == strOf b)) = true from h) (by rw [str_refl]; decide), fun _ => ?_⟩
      refine roundsR_succ ?_
      refine ⟨fun _ => ?_, fun h => Bool.noConfusion (show true = false from h)⟩
      refine ⟨_, (by decide), rfl, ?_⟩
      refine ⟨_, (by decide), rfl, ?_⟩
      refine ⟨X, rfl, ?_⟩
      refine ⟨fun h => absurd (show (!(strOf X == strOf X)) = true from h) (by rw [str_refl]; decide), fun _ => ?_⟩
      refine roundsR_succ ?_
      refine ⟨fun h => Bool.noConfusion (show false = true from h), fun _ => ?_⟩
      refine ⟨_, rfl, ?_⟩
      refine ⟨fun _ => ?_, fun h => Bool.noConfusion (show true = false from h)⟩
      refine ⟨fun hq => ?_, fun hq => ?_⟩
      · exact hK
      · have hq : ¬ (((X.map (AV.int .u8)).length : Nat) : Int) > 16380 := of_decide_eq_false hq
        have hpl : (putI 1 ++ X).length ≤ 16384 := by rw [List.length_append, putI_1]; omega
        refine ⟨[600, 500], [700000], [], 700000, rfl, _, rfl, [.ptr 1000000000 0, by8 X], ⟨.inl rfl, .inl rfl, trivial⟩, .inl ⟨⟨0, [], [b, X], false⟩, d2, 2000000000, X, j2, Nat.le_refl _, (show (0 : Int) + 1 < 4611686018427387904 by decide), (by omega), hXb, rfl, rfl, fun h => absurd h (Nat.not_lt.2 hpl), fun _ => ⟨fun d3 j3 r3 u3 l3 _ => ⟨rfl, ?_⟩, fun h => absurd h ?_, fun _ _ h => absurd (l2 l1) h⟩⟩⟩
        · exact hK
        · have hfb : (frameB (putI 1 ++ X)).length ≤ 16390 := by rw [frame_len]; omega
          rw [u2, u1, r2, r1]
          have : (frameB (putI ((0 : Int) + 1) ++ X)).length = (frameB (putI 1 ++ X)).length := rfl
          simp only at this ⊢
          omega
  refine ⟨rfl, rfl, ?_⟩
  refine ⟨fun h => Bool.noConfusion (show false = true from h), fun _ => ?_⟩
  refine ⟨hb3, Nat.zero_le _, hb2, ?_⟩
  refine ⟨[], [], [500], 0, rfl, _, rfl, 262144, 2000000000, Nat.le_refl _, rfl, rfl, rfl, ?_⟩
  refine ⟨[500], [], [600], 700000, rfl, _, rfl, newD 262144, 2000000000, _, (JOK.new 262144).dg, rfl, rfl, Nat.le_refl _, o1, rfl, rfl, (fun h => by cases h), ?_⟩
  rintro _ _ ⟨⟩
  refine ⟨rfl, ?_⟩
  refine ⟨fun h => Bool.noConfusion (show false = true from h), fun _ => ?_⟩
  refine ⟨fun h => Bool.noConfusion (show false = true from h), fun _ => ?_⟩
  have e1 : ∀ a b', AV.sl .fz 5 (((b0.map (AV.int .u8)).take (if (500 : Int) < (((b0.map (AV.int .u8)).length : Nat) : Int) then (500 : Int) else (((b0.map (AV.int .u8)).length : Nat) : Int)).toNat).drop 0) = a → b' = by8 b → a = b' := fun a b' ha hb => by rw [← ha, hb, hbl]; exact cut8.symm
  exact wp_told2 (c := rst 6 (bodyOf Tryd.f8)) [(0, .int .u16 n), (1, by8 b), (5, .ptr 500 0), (6, .ptr 600 0)] [(500, some (dkB d1 2000000000)), (600, some (jBc 500 700000 ⟨0, [], [], false⟩))] ⟨rfl, e1 _ _ rfl rfl, rfl, rfl, trivial⟩ ⟨rfl, rfl, trivial⟩ (rest _ _)
end Go.Proofs.YtbpcofnhndgoeaaDoor.A
