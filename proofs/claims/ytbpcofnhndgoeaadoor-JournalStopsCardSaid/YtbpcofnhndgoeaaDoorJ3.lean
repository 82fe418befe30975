/- Disks: Append. -/
import Derived.Test.YtbpcofnhndgoeaaDoorJ2
namespace Go.Proofs.YtbpcofnhndgoeaaDoor.A
open Go Q
theorem mfind_hit {k : Int} {v : AV} {es : List (AV × AV)} : mfind (.int .i64 k) ((.int .i64 k, v) :: es) = some (some v) := by simp [mfind, keyEq, kindA]
theorem mfind_miss {k n : Int} {v : AV} {es : List (AV × AV)} (h : ¬ k = n) : mfind (.int .i64 k) ((.int .i64 n, v) :: es) = mfind (.int .i64 k) es := by
  have : (k == n) = false := by simpa using h
  simp [mfind, keyEq, kindA, this]
theorem mfind_nil {k : Int} : mfind (.int .i64 k) [] = some none := rfl
theorem mset_hit {k : Int} {v w : AV} {es : List (AV × AV)} : mset (.int .i64 k) w ((.int .i64 k, v) :: es) = some ((.int .i64 k, w) :: es) := by simp [mset, keyEq, kindA]
theorem mset_miss {k n : Int} {v w : AV} {es es' : List (AV × AV)} (h : ¬ k = n) (hs : mset (.int .i64 k) w es = some es') : mset (.int .i64 k) w ((.int .i64 n, v) :: es) = some ((.int .i64 n, v) :: es') := by
  have : (k == n) = false := by simpa using h
  simp [mset, keyEq, kindA, this, hs]
theorem mset_nil {k : Int} {w : AV} : mset (.int .i64 k) w [] = some [(.int .i64 k, w)] := rfl
theorem mdel_hit {k : Int} {v : AV} {es : List (AV × AV)} : mdel (.int .i64 k) ((.int .i64 k, v) :: es) = some es := by simp [mdel, keyEq, kindA]
theorem mdel_miss {k n : Int} {v : AV} {es es' : List (AV × AV)} (h : ¬ k = n) (hs : mdel (.int .i64 k) es = some es') : mdel (.int .i64 k) ((.int .i64 n, v) :: es) = some ((.int .i64 n, v) :: es') := by
  have : (k == n) = false := by simpa using h
  simp [mdel, keyEq, kindA, this, hs]
theorem mdel_nil {k : Int} : mdel (.int .i64 k) [] = some [] := rfl
theorem app_box {tf tb : TypeId} {g : Tag} {x y : List Int} {s : AV} : some (Box.cells tf [.sl g tb (x.map (AV.int .u8) ++ y.map (AV.int .u8)), s]) = some (.cells tf [.sl g tb ((x ++ y).map (AV.int .u8)), s]) := by rw [List.map_append]
/-- As FnOk.nil. -/
theorem FnOkN.nil {P : Program} {T : Tab} {f : FuncId} {S : List AV → List Box → (AV → List Box → Prop) → Prop} (h : FnOkN P T f S) : FnOkN P T f (nilC S) :=
  ⟨h.1, fun _ bs K ⟨args', hn, hS⟩ c vs hok hown hV hB => h.2 args' bs K hS c vs hok hown (hn.vl hV) hB⟩
noncomputable def JDk : FuncId → Option StSpec
  | 20 => some (liftJ usedC)
  | 36 => some (liftJ worksC)
  | _ => none
theorem JDk_ok : JOk Tryd.prog tab JDk := by
  intro f j h
  unfold JDk at h
  split at h
  · cases h; exact lift_ok used_ok
  · cases h; exact lift_ok works_ok
  · cases h
noncomputable def D1_E (pl : Nat → Plan) : En := ⟨tab, fun _ _ _ _ => False, JDk, 0, pl⟩
theorem D1_C (pl : Nat → Plan) : CallOk Tryd.prog (D1_E pl).T (D1_E pl).R := fun _ _ _ _ h => h.elim
def plAp : Nat → Plan
  | 3 => (.take 0 (.take 2 (.take 3 (.take 5 (.take 6 (.take 7 (.alt 1 (.take 4 (.last 8 (.take 9 .done))) (.last 8 (.last 1 (.take 4 (.take 9 .done)))))))))))
  | _ => .done
abbrev by8 (l : List Int) : AV := .sl .fz 5 (l.map (AV.int .u8))
def appendC (args : List AV) (bs : List Box) (K : AV → List Box → Prop) : Prop := ∃ d nb k b, DOk d ∧ 2000000000 ≤ nb ∧ b.length ≤ 4611686018427387904 ∧ (appendD d k b).2.fs.length ≤ 3 ∧ args = [.ptr 1000000000 0, .int .i64 k, by8 b] ∧ bs = [dkB d nb] ∧ K (erA (appendD d k b).1) [dkB (appendD d k b).2 nb]
set_option maxRecDepth 200000 in
set_option maxHeartbeats 6400000 in
theorem append_ok : FnOkN Tryd.prog tab 12 appendC := by
  refine fn_okN (E := D1_E plAp) tab_is (D1_C _) JDk_ok Tryd.func12 rfl rfl (by kernel_rfl) ?_
  rintro args bs K ⟨⟨fs, room, left, stop⟩, nb, k, b, hd, hnb, hb, hn, rfl, rfl, hK⟩
  refine ⟨rfl, [], ?_⟩
  have hr1 : room ≤ 262144 := hd.r1
  cases stop with
  | true =>
    have hA : appendD ⟨fs, room, left, true⟩ k b = (12, ⟨fs, room, left, true⟩) := by unfold appendD; rw [if_pos (by simp)]
    rw [hA] at hK
    refine ⟨fun _ => ?_, fun h => Bool.noConfusion (show true = false from h)⟩
    exact ⟨[], 1, rfl, hK⟩
  | false =>
    have hu0 : Dk.used ⟨fs, room, left, false⟩ ≤ 262144 := hd.us
    refine ⟨fun h => Bool.noConfusion (show false = true from h), fun _ => ?_⟩
    have hwrap : IntKind.i64.wrap (((Dk.used ⟨fs, room, left, false⟩ : Nat) : Int) + ((b.map (AV.int .u8)).length : Nat)) = ((Dk.used ⟨fs, room, left, false⟩ : Nat) : Int) + b.length := by
      rw [List.length_map, wrap_of (by omega) (by omega)]
    refine ⟨?_, ?_⟩
    · refine ⟨[1000000000], [], [], 0, rfl, _, rfl, rfl, ⟨fs, room, left, false⟩, nb, hd, hnb, rfl, rfl, ?_⟩
      refine ⟨fun hg => ?_, fun hg => ?_⟩
      · have hg : IntKind.i64.wrap (((Dk.used ⟨fs, room, left, false⟩ : Nat) : Int) + ((b.map (AV.int .u8)).length : Nat)) > room := of_decide_eq_true hg
        rw [hwrap] at hg
        have hA : appendD ⟨fs, room, left, false⟩ k b = (8, ⟨fs, room, left, false⟩) := by unfold appendD; rw [if_neg (by simp), if_pos hg]
        rw [hA] at hK
        exact ⟨[], 1, rfl, hK⟩
      · have hg : ¬ IntKind.i64.wrap (((Dk.used ⟨fs, room, left, false⟩ : Nat) : Int) + ((b.map (AV.int .u8)).length : Nat)) > room := of_decide_eq_false hg
        rw [hwrap] at hg
        have hroom : ¬ ((Dk.used ⟨fs, room, left, false⟩ : Nat) : Int) + b.length > room := hg
        have hbl : b.length ≤ 262144 := by omega
        refine ⟨[1000000000], [], [], 0, rfl, _, rfl, rfl, ⟨fs, room, left, false⟩, ⟨hd.l0, hd.l1⟩, .inl ⟨nb, rfl, rfl, ?_⟩⟩
        rcases len3 hd.n with h | ⟨⟨n0, b0, s0⟩, h⟩ | ⟨⟨n0, b0, s0⟩, ⟨n1, b1, s1⟩, h⟩ | ⟨⟨n0, b0, s0⟩, ⟨n1, b1, s1⟩, ⟨n2, b2, s2⟩, h⟩
        all_goals
          have h : fs = _ := h
          subst h
          simp only [Dk.used, usedF] at hu0
        · have hA : appendD ⟨[], room, left, false⟩ k b = (if Dk.wk ⟨[], room, left, false⟩ then 0 else 12, ⟨[(k, b, 0)], room, Dk.lf ⟨[], room, left, false⟩, Dk.st ⟨[], room, left, false⟩⟩) := by
            unfold appendD
            rw [if_neg (by simp), if_neg hroom]
            simp [fget, fset]
          rw [hA] at hK hn
          clear hA
          refine ⟨none, mfind_nil, ?_⟩
          refine ⟨fun _ => ?_, fun h => Bool.noConfusion (show true = false from h)⟩
          refine ⟨_, mset_nil, ?_⟩
          refine ⟨(show (b.map (AV.int .u8)).length * 1 ≤ 140737488355328 by simp only [List.length_map]; omega), ?_⟩
          refine ⟨fun hw => ?_, fun hw => ?_⟩
          · have hw : Dk.wk ⟨[], room, left, false⟩ = false := by simpa using hw
            rw [hw] at hK
            refine ⟨[.cls 1000000000 999000000 ⟨70, 73, 5, [(k, b, 0)], room, Dk.lf ⟨[], room, left, false⟩, Dk.st ⟨[], room, left, false⟩, nb⟩ [36] [.own 49000]], ?_⟩
            refine ⟨rfl, _, rfl, ⟨rfl, rfl, (fun h => by cases h), trivial⟩, by kernel_rfl, hnb, ?_⟩
            refine ⟨1, rfl, ?_⟩
            exact hK
          · have hw : Dk.wk ⟨[], room, left, false⟩ = true := by simpa using hw
            rw [hw] at hK
            refine ⟨[.cls 1000000000 999000000 ⟨70, 73, 5, [(k, b, 0)], room, Dk.lf ⟨[], room, left, false⟩, Dk.st ⟨[], room, left, false⟩, nb⟩ [36] [.own 49000]], ?_⟩
            refine ⟨rfl, _, rfl, ⟨rfl, rfl, (fun h => by cases h), trivial⟩, by kernel_rfl, hnb, ?_⟩
            refine ⟨1, rfl, ?_⟩
            exact hK
        · by_cases h0 : k = n0
          · subst h0
            have hA : appendD ⟨[(k, b0, s0)], room, left, false⟩ k b = (if Dk.wk ⟨[(k, b0, s0)], room, left, false⟩ then 0 else 12, ⟨[(k, b0 ++ b, s0)], room, Dk.lf ⟨[(k, b0, s0)], room, left, false⟩, Dk.st ⟨[(k, b0, s0)], room, left, false⟩⟩) := by
              unfold appendD
              rw [if_neg (by simp), if_neg hroom]
              simp [fget, fset]
            rw [hA] at hK hn
            clear hA
            refine ⟨some (.ptr 999000001 0), mfind_hit, ?_⟩
            refine ⟨fun h => Bool.noConfusion (show false = true from h), fun _ => ?_⟩
            refine ⟨(show ((b0.map (AV.int .u8)).length + (b.map (AV.int .u8)).length) * 1 ≤ 140737488355328 by simp only [List.length_map]; omega), ?_⟩
            refine ⟨fun hw => ?_, fun hw => ?_⟩
            · have hw : Dk.wk ⟨[(k, b0, s0)], room, left, false⟩ = false := by simpa using hw
              rw [hw] at hK
              refine ⟨[.cls 1000000000 999000000 ⟨70, 73, 5, [(k, b0 ++ b, s0)], room, Dk.lf ⟨[(k, b0, s0)], room, left, false⟩, Dk.st ⟨[(k, b0, s0)], room, left, false⟩, nb⟩ [999000001] [.own 999000000]], ?_⟩
              refine ⟨rfl, _, rfl, ⟨rfl, app_box, (fun h => by cases h), trivial⟩, by kernel_rfl, hnb, ?_⟩
              refine ⟨1, rfl, ?_⟩
              exact hK
            · have hw : Dk.wk ⟨[(k, b0, s0)], room, left, false⟩ = true := by simpa using hw
              rw [hw] at hK
              refine ⟨[.cls 1000000000 999000000 ⟨70, 73, 5, [(k, b0 ++ b, s0)], room, Dk.lf ⟨[(k, b0, s0)], room, left, false⟩, Dk.st ⟨[(k, b0, s0)], room, left, false⟩, nb⟩ [999000001] [.own 999000000]], ?_⟩
              refine ⟨rfl, _, rfl, ⟨rfl, app_box, (fun h => by cases h), trivial⟩, by kernel_rfl, hnb, ?_⟩
              refine ⟨1, rfl, ?_⟩
              exact hK
          · have hA : appendD ⟨[(n0, b0, s0)], room, left, false⟩ k b = (if Dk.wk ⟨[(n0, b0, s0)], room, left, false⟩ then 0 else 12, ⟨[(n0, b0, s0), (k, b, 0)], room, Dk.lf ⟨[(n0, b0, s0)], room, left, false⟩, Dk.st ⟨[(n0, b0, s0)], room, left, false⟩⟩) := by
              unfold appendD
              rw [if_neg (by simp), if_neg hroom]
              simp [fget, fset, h0]
            rw [hA] at hK hn
            clear hA
            refine ⟨none, (mfind_miss h0).trans mfind_nil, ?_⟩
            refine ⟨fun _ => ?_, fun h => Bool.noConfusion (show true = false from h)⟩
            refine ⟨_, mset_miss h0 (mset_nil), ?_⟩
            refine ⟨(show (b.map (AV.int .u8)).length * 1 ≤ 140737488355328 by simp only [List.length_map]; omega), ?_⟩
            refine ⟨fun hw => ?_, fun hw => ?_⟩
            · have hw : Dk.wk ⟨[(n0, b0, s0)], room, left, false⟩ = false := by simpa using hw
              rw [hw] at hK
              refine ⟨[.cls 1000000000 999000000 ⟨70, 73, 5, [(n0, b0, s0), (k, b, 0)], room, Dk.lf ⟨[(n0, b0, s0)], room, left, false⟩, Dk.st ⟨[(n0, b0, s0)], room, left, false⟩, nb⟩ [999000001, 36] [.own 999000000, .own 49000]], ?_⟩
              refine ⟨rfl, _, rfl, ⟨rfl, rfl, (fun h => by cases h), ⟨rfl, rfl, (fun h => by cases h), trivial⟩⟩, by kernel_rfl, hnb, ?_⟩
              refine ⟨1, rfl, ?_⟩
              exact hK
            · have hw : Dk.wk ⟨[(n0, b0, s0)], room, left, false⟩ = true := by simpa using hw
              rw [hw] at hK
              refine ⟨[.cls 1000000000 999000000 ⟨70, 73, 5, [(n0, b0, s0), (k, b, 0)], room, Dk.lf ⟨[(n0, b0, s0)], room, left, false⟩, Dk.st ⟨[(n0, b0, s0)], room, left, false⟩, nb⟩ [999000001, 36] [.own 999000000, .own 49000]], ?_⟩
              refine ⟨rfl, _, rfl, ⟨rfl, rfl, (fun h => by cases h), ⟨rfl, rfl, (fun h => by cases h), trivial⟩⟩, by kernel_rfl, hnb, ?_⟩
              refine ⟨1, rfl, ?_⟩
              exact hK
        · by_cases h0 : k = n0
          · subst h0
            have hA : appendD ⟨[(k, b0, s0), (n1, b1, s1)], room, left, false⟩ k b = (if Dk.wk ⟨[(k, b0, s0), (n1, b1, s1)], room, left, false⟩ then 0 else 12, ⟨[(k, b0 ++ b, s0), (n1, b1, s1)], room, Dk.lf ⟨[(k, b0, s0), (n1, b1, s1)], room, left, false⟩, Dk.st ⟨[(k, b0, s0), (n1, b1, s1)], room, left, false⟩⟩) := by
              unfold appendD
              rw [if_neg (by simp), if_neg hroom]
              simp [fget, fset]
            rw [hA] at hK hn
            clear hA
            refine ⟨some (.ptr 999000001 0), mfind_hit, ?_⟩
            refine ⟨fun h => Bool.noConfusion (show false = true from h), fun _ => ?_⟩
            refine ⟨(show ((b0.map (AV.int .u8)).length + (b.map (AV.int .u8)).length) * 1 ≤ 140737488355328 by simp only [List.length_map]; omega), ?_⟩
            refine ⟨fun hw => ?_, fun hw => ?_⟩
            · have hw : Dk.wk ⟨[(k, b0, s0), (n1, b1, s1)], room, left, false⟩ = false := by simpa using hw
              rw [hw] at hK
              refine ⟨[.cls 1000000000 999000000 ⟨70, 73, 5, [(k, b0 ++ b, s0), (n1, b1, s1)], room, Dk.lf ⟨[(k, b0, s0), (n1, b1, s1)], room, left, false⟩, Dk.st ⟨[(k, b0, s0), (n1, b1, s1)], room, left, false⟩, nb⟩ [999000001, 999000002] [.own 999000000, .own 999000001]], ?_⟩
              refine ⟨rfl, _, rfl, ⟨rfl, app_box, (fun h => by cases h), ⟨rfl, rfl, (fun h => by cases h), trivial⟩⟩, by kernel_rfl, hnb, ?_⟩
              refine ⟨1, rfl, ?_⟩
              exact hK
            · have hw : Dk.wk ⟨[(k, b0, s0), (n1, b1, s1)], room, left, false⟩ = true := by simpa using hw
              rw [hw] at hK
              refine ⟨[.cls 1000000000 999000000 ⟨70, 73, 5, [(k, b0 ++ b, s0), (n1, b1, s1)], room, Dk.lf ⟨[(k, b0, s0), (n1, b1, s1)], room, left, false⟩, Dk.st ⟨[(k, b0, s0), (n1, b1, s1)], room, left, false⟩, nb⟩ [999000001, 999000002] [.own 999000000, .own 999000001]], ?_⟩
              refine ⟨rfl, _, rfl, ⟨rfl, app_box, (fun h => by cases h), ⟨rfl, rfl, (fun h => by cases h), trivial⟩⟩, by kernel_rfl, hnb, ?_⟩
              refine ⟨1, rfl, ?_⟩
              exact hK
          · by_cases h1 : k = n1
            · subst h1
              have hA : appendD ⟨[(n0, b0, s0), (k, b1, s1)], room, left, false⟩ k b = (if Dk.wk ⟨[(n0, b0, s0), (k, b1, s1)], room, left, false⟩ then 0 else 12, ⟨[(n0, b0, s0), (k, b1 ++ b, s1)], room, Dk.lf ⟨[(n0, b0, s0), (k, b1, s1)], room, left, false⟩, Dk.st ⟨[(n0, b0, s0), (k, b1, s1)], room, left, false⟩⟩) := by
                unfold appendD
                rw [if_neg (by simp), if_neg hroom]
                simp [fget, fset, h0]
              rw [hA] at hK hn
              clear hA
              refine ⟨some (.ptr 999000002 0), (mfind_miss h0).trans mfind_hit, ?_⟩
              refine ⟨fun h => Bool.noConfusion (show false = true from h), fun _ => ?_⟩
              refine ⟨(show ((b1.map (AV.int .u8)).length + (b.map (AV.int .u8)).length) * 1 ≤ 140737488355328 by simp only [List.length_map]; omega), ?_⟩
              refine ⟨fun hw => ?_, fun hw => ?_⟩
              · have hw : Dk.wk ⟨[(n0, b0, s0), (k, b1, s1)], room, left, false⟩ = false := by simpa using hw
                rw [hw] at hK
                refine ⟨[.cls 1000000000 999000000 ⟨70, 73, 5, [(n0, b0, s0), (k, b1 ++ b, s1)], room, Dk.lf ⟨[(n0, b0, s0), (k, b1, s1)], room, left, false⟩, Dk.st ⟨[(n0, b0, s0), (k, b1, s1)], room, left, false⟩, nb⟩ [999000001, 999000002] [.own 999000000, .own 999000001]], ?_⟩
                refine ⟨rfl, _, rfl, ⟨rfl, rfl, (fun h => by cases h), ⟨rfl, app_box, (fun h => by cases h), trivial⟩⟩, by kernel_rfl, hnb, ?_⟩
                refine ⟨1, rfl, ?_⟩
                exact hK
              · have hw : Dk.wk ⟨[(n0, b0, s0), (k, b1, s1)], room, left, false⟩ = true := by simpa using hw
                rw [hw] at hK
                refine ⟨[.cls 1000000000 999000000 ⟨70, 73, 5, [(n0, b0, s0), (k, b1 ++ b, s1)], room, Dk.lf ⟨[(n0, b0, s0), (k, b1, s1)], room, left, false⟩, Dk.st ⟨[(n0, b0, s0), (k, b1, s1)], room, left, false⟩, nb⟩ [999000001, 999000002] [.own 999000000, .own 999000001]], ?_⟩
                refine ⟨rfl, _, rfl, ⟨rfl, rfl, (fun h => by cases h), ⟨rfl, app_box, (fun h => by cases h), trivial⟩⟩, by kernel_rfl, hnb, ?_⟩
                refine ⟨1, rfl, ?_⟩
                exact hK
            · have hA : appendD ⟨[(n0, b0, s0), (n1, b1, s1)], room, left, false⟩ k b = (if Dk.wk ⟨[(n0, b0, s0), (n1, b1, s1)], room, left, false⟩ then 0 else 12, ⟨[(n0, b0, s0), (n1, b1, s1), (k, b, 0)], room, Dk.lf ⟨[(n0, b0, s0), (n1, b1, s1)], room, left, false⟩, Dk.st ⟨[(n0, b0, s0), (n1, b1, s1)], room, left, false⟩⟩) := by
                unfold appendD
                rw [if_neg (by simp), if_neg hroom]
                simp [fget, fset, h0, h1]
              rw [hA] at hK hn
              clear hA
              refine ⟨none, (mfind_miss h0).trans ((mfind_miss h1).trans mfind_nil), ?_⟩
              refine ⟨fun _ => ?_, fun h => Bool.noConfusion (show true = false from h)⟩
              refine ⟨_, mset_miss h0 (mset_miss h1 (mset_nil)), ?_⟩
              refine ⟨(show (b.map (AV.int .u8)).length * 1 ≤ 140737488355328 by simp only [List.length_map]; omega), ?_⟩
              refine ⟨fun hw => ?_, fun hw => ?_⟩
              · have hw : Dk.wk ⟨[(n0, b0, s0), (n1, b1, s1)], room, left, false⟩ = false := by simpa using hw
                rw [hw] at hK
                refine ⟨[.cls 1000000000 999000000 ⟨70, 73, 5, [(n0, b0, s0), (n1, b1, s1), (k, b, 0)], room, Dk.lf ⟨[(n0, b0, s0), (n1, b1, s1)], room, left, false⟩, Dk.st ⟨[(n0, b0, s0), (n1, b1, s1)], room, left, false⟩, nb⟩ [999000001, 999000002, 36] [.own 999000000, .own 999000001, .own 49000]], ?_⟩
                refine ⟨rfl, _, rfl, ⟨rfl, rfl, (fun h => by cases h), ⟨rfl, rfl, (fun h => by cases h), ⟨rfl, rfl, (fun h => by cases h), trivial⟩⟩⟩, by kernel_rfl, hnb, ?_⟩
                refine ⟨1, rfl, ?_⟩
                exact hK
              · have hw : Dk.wk ⟨[(n0, b0, s0), (n1, b1, s1)], room, left, false⟩ = true := by simpa using hw
                rw [hw] at hK
                refine ⟨[.cls 1000000000 999000000 ⟨70, 73, 5, [(n0, b0, s0), (n1, b1, s1), (k, b, 0)], room, Dk.lf ⟨[(n0, b0, s0), (n1, b1, s1)], room, left, false⟩, Dk.st ⟨[(n0, b0, s0), (n1, b1, s1)], room, left, false⟩, nb⟩ [999000001, 999000002, 36] [.own 999000000, .own 999000001, .own 49000]], ?_⟩
                refine ⟨rfl, _, rfl, ⟨rfl, rfl, (fun h => by cases h), ⟨rfl, rfl, (fun h => by cases h), ⟨rfl, rfl, (fun h => by cases h), trivial⟩⟩⟩, by kernel_rfl, hnb, ?_⟩
                refine ⟨1, rfl, ?_⟩
                exact hK
        · by_cases h0 : k = n0
          · subst h0
            have hA : appendD ⟨[(k, b0, s0), (n1, b1, s1), (n2, b2, s2)], room, left, false⟩ k b = (if Dk.wk ⟨[(k, b0, s0), (n1, b1, s1), (n2, b2, s2)], room, left, false⟩ then 0 else 12, ⟨[(k, b0 ++ b, s0), (n1, b1, s1), (n2, b2, s2)], room, Dk.lf ⟨[(k, b0, s0), (n1, b1, s1), (n2, b2, s2)], room, left, false⟩, Dk.st ⟨[(k, b0, s0), (n1, b1, s1), (n2, b2, s2)], room, left, false⟩⟩) := by
              unfold appendD
              rw [if_neg (by simp), if_neg hroom]
              simp [fget, fset]
            rw [hA] at hK hn
            clear hA
            refine ⟨some (.ptr 999000001 0), mfind_hit, ?_⟩
            refine ⟨fun h => Bool.noConfusion (show false = true from h), fun _ => ?_⟩
            refine ⟨(show ((b0.map (AV.int .u8)).length + (b.map (AV.int .u8)).length) * 1 ≤ 140737488355328 by simp only [List.length_map]; omega), ?_⟩
            refine ⟨fun hw => ?_, fun hw => ?_⟩
            · have hw : Dk.wk ⟨[(k, b0, s0), (n1, b1, s1), (n2, b2, s2)], room, left, false⟩ = false := by simpa using hw
              rw [hw] at hK
              refine ⟨[.cls 1000000000 999000000 ⟨70, 73, 5, [(k, b0 ++ b, s0), (n1, b1, s1), (n2, b2, s2)], room, Dk.lf ⟨[(k, b0, s0), (n1, b1, s1), (n2, b2, s2)], room, left, false⟩, Dk.st ⟨[(k, b0, s0), (n1, b1, s1), (n2, b2, s2)], room, left, false⟩, nb⟩ [999000001, 999000002, 999000003] [.own 999000000, .own 999000001, .own 999000002]], ?_⟩
              refine ⟨rfl, _, rfl, ⟨rfl, app_box, (fun h => by cases h), ⟨rfl, rfl, (fun h => by cases h), ⟨rfl, rfl, (fun h => by cases h), trivial⟩⟩⟩, by kernel_rfl, hnb, ?_⟩
              refine ⟨1, rfl, ?_⟩
              exact hK
            · have hw : Dk.wk ⟨[(k, b0, s0), (n1, b1, s1), (n2, b2, s2)], room, left, false⟩ = true := by simpa using hw
              rw [hw] at hK
              refine ⟨[.cls 1000000000 999000000 ⟨70, 73, 5, [(k, b0 ++ b, s0), (n1, b1, s1), (n2, b2, s2)], room, Dk.lf ⟨[(k, b0, s0), (n1, b1, s1), (n2, b2, s2)], room, left, false⟩, Dk.st ⟨[(k, b0, s0), (n1, b1, s1), (n2, b2, s2)], room, left, false⟩, nb⟩ [999000001, 999000002, 999000003] [.own 999000000, .own 999000001, .own 999000002]], ?_⟩
              refine ⟨rfl, _, rfl, ⟨rfl, app_box, (fun h => by cases h), ⟨rfl, rfl, (fun h => by cases h), ⟨rfl, rfl, (fun h => by cases h), trivial⟩⟩⟩, by kernel_rfl, hnb, ?_⟩
              refine ⟨1, rfl, ?_⟩
              exact hK
          · by_cases h1 : k = n1
            · subst h1
              have hA : appendD ⟨[(n0, b0, s0), (k, b1, s1), (n2, b2, s2)], room, left, false⟩ k b = (if Dk.wk ⟨[(n0, b0, s0), (k, b1, s1), (n2, b2, s2)], room, left, false⟩ then 0 else 12, ⟨[(n0, b0, s0), (k, b1 ++ b, s1), (n2, b2, s2)], room, Dk.lf ⟨[(n0, b0, s0), (k, b1, s1), (n2, b2, s2)], room, left, false⟩, Dk.st ⟨[(n0, b0, s0), (k, b1, s1), (n2, b2, s2)], room, left, false⟩⟩) := by
                unfold appendD
                rw [if_neg (by simp), if_neg hroom]
                simp [fget, fset, h0]
              rw [hA] at hK hn
              clear hA
              refine ⟨some (.ptr 999000002 0), (mfind_miss h0).trans mfind_hit, ?_⟩
              refine ⟨fun h => Bool.noConfusion (show false = true from h), fun _ => ?_⟩
              refine ⟨(show ((b1.map (AV.int .u8)).length + (b.map (AV.int .u8)).length) * 1 ≤ 140737488355328 by simp only [List.length_map]; omega), ?_⟩
              refine ⟨fun hw => ?_, fun hw => ?_⟩
              · have hw : Dk.wk ⟨[(n0, b0, s0), (k, b1, s1), (n2, b2, s2)], room, left, false⟩ = false := by simpa using hw
                rw [hw] at hK
                refine ⟨[.cls 1000000000 999000000 ⟨70, 73, 5, [(n0, b0, s0), (k, b1 ++ b, s1), (n2, b2, s2)], room, Dk.lf ⟨[(n0, b0, s0), (k, b1, s1), (n2, b2, s2)], room, left, false⟩, Dk.st ⟨[(n0, b0, s0), (k, b1, s1), (n2, b2, s2)], room, left, false⟩, nb⟩ [999000001, 999000002, 999000003] [.own 999000000, .own 999000001, .own 999000002]], ?_⟩
                refine ⟨rfl, _, rfl, ⟨rfl, rfl, (fun h => by cases h), ⟨rfl, app_box, (fun h => by cases h), ⟨rfl, rfl, (fun h => by cases h), trivial⟩⟩⟩, by kernel_rfl, hnb, ?_⟩
                refine ⟨1, rfl, ?_⟩
                exact hK
              · have hw : Dk.wk ⟨[(n0, b0, s0), (k, b1, s1), (n2, b2, s2)], room, left, false⟩ = true := by simpa using hw
                rw [hw] at hK
                refine ⟨[.cls 1000000000 999000000 ⟨70, 73, 5, [(n0, b0, s0), (k, b1 ++ b, s1), (n2, b2, s2)], room, Dk.lf ⟨[(n0, b0, s0), (k, b1, s1), (n2, b2, s2)], room, left, false⟩, Dk.st ⟨[(n0, b0, s0), (k, b1, s1), (n2, b2, s2)], room, left, false⟩, nb⟩ [999000001, 999000002, 999000003] [.own 999000000, .own 999000001, .own 999000002]], ?_⟩
                refine ⟨rfl, _, rfl, ⟨rfl, rfl, (fun h => by cases h), ⟨rfl, app_box, (fun h => by cases h), ⟨rfl, rfl, (fun h => by cases h), trivial⟩⟩⟩, by kernel_rfl, hnb, ?_⟩
                refine ⟨1, rfl, ?_⟩
                exact hK
            · by_cases h2 : k = n2
              · subst h2
                have hA : appendD ⟨[(n0, b0, s0), (n1, b1, s1), (k, b2, s2)], room, left, false⟩ k b = (if Dk.wk ⟨[(n0, b0, s0), (n1, b1, s1), (k, b2, s2)], room, left, false⟩ then 0 else 12, ⟨[(n0, b0, s0), (n1, b1, s1), (k, b2 ++ b, s2)], room, Dk.lf ⟨[(n0, b0, s0), (n1, b1, s1), (k, b2, s2)], room, left, false⟩, Dk.st ⟨[(n0, b0, s0), (n1, b1, s1), (k, b2, s2)], room, left, false⟩⟩) := by
                  unfold appendD
                  rw [if_neg (by simp), if_neg hroom]
                  simp [fget, fset, h0, h1]
                rw [hA] at hK hn
                clear hA
                refine ⟨some (.ptr 999000003 0), (mfind_miss h0).trans ((mfind_miss h1).trans mfind_hit), ?_⟩
                refine ⟨fun h => Bool.noConfusion (show false = true from h), fun _ => ?_⟩
                refine ⟨(show ((b2.map (AV.int .u8)).length + (b.map (AV.int .u8)).length) * 1 ≤ 140737488355328 by simp only [List.length_map]; omega), ?_⟩
                refine ⟨fun hw => ?_, fun hw => ?_⟩
                · have hw : Dk.wk ⟨[(n0, b0, s0), (n1, b1, s1), (k, b2, s2)], room, left, false⟩ = false := by simpa using hw
                  rw [hw] at hK
                  refine ⟨[.cls 1000000000 999000000 ⟨70, 73, 5, [(n0, b0, s0), (n1, b1, s1), (k, b2 ++ b, s2)], room, Dk.lf ⟨[(n0, b0, s0), (n1, b1, s1), (k, b2, s2)], room, left, false⟩, Dk.st ⟨[(n0, b0, s0), (n1, b1, s1), (k, b2, s2)], room, left, false⟩, nb⟩ [999000001, 999000002, 999000003] [.own 999000000, .own 999000001, .own 999000002]], ?_⟩
                  refine ⟨rfl, _, rfl, ⟨rfl, rfl, (fun h => by cases h), ⟨rfl, rfl, (fun h => by cases h), ⟨rfl, app_box, (fun h => by cases h), trivial⟩⟩⟩, by kernel_rfl, hnb, ?_⟩
                  refine ⟨1, rfl, ?_⟩
                  exact hK
                · have hw : Dk.wk ⟨[(n0, b0, s0), (n1, b1, s1), (k, b2, s2)], room, left, false⟩ = true := by simpa using hw
                  rw [hw] at hK
                  refine ⟨[.cls 1000000000 999000000 ⟨70, 73, 5, [(n0, b0, s0), (n1, b1, s1), (k, b2 ++ b, s2)], room, Dk.lf ⟨[(n0, b0, s0), (n1, b1, s1), (k, b2, s2)], room, left, false⟩, Dk.st ⟨[(n0, b0, s0), (n1, b1, s1), (k, b2, s2)], room, left, false⟩, nb⟩ [999000001, 999000002, 999000003] [.own 999000000, .own 999000001, .own 999000002]], ?_⟩
                  refine ⟨rfl, _, rfl, ⟨rfl, rfl, (fun h => by cases h), ⟨rfl, rfl, (fun h => by cases h), ⟨rfl, app_box, (fun h => by cases h), trivial⟩⟩⟩, by kernel_rfl, hnb, ?_⟩
                  refine ⟨1, rfl, ?_⟩
                  exact hK
              · have hA : appendD ⟨[(n0, b0, s0), (n1, b1, s1), (n2, b2, s2)], room, left, false⟩ k b = (if Dk.wk ⟨[(n0, b0, s0), (n1, b1, s1), (n2, b2, s2)], room, left, false⟩ then 0 else 12, ⟨[(n0, b0, s0), (n1, b1, s1), (n2, b2, s2), (k, b, 0)], room, Dk.lf ⟨[(n0, b0, s0), (n1, b1, s1), (n2, b2, s2)], room, left, false⟩, Dk.st ⟨[(n0, b0, s0), (n1, b1, s1), (n2, b2, s2)], room, left, false⟩⟩) := by
                  unfold appendD
                  rw [if_neg (by simp), if_neg hroom]
                  simp [fget, fset, h0, h1, h2]
                rw [hA] at hK hn
                clear hA
                exact absurd hn (by simp)
    · refine ⟨[1000000000], [], [], 0, rfl, _, rfl, rfl, ⟨fs, room, left, false⟩, nb, hd, hnb, rfl, rfl, ?_⟩
      refine ⟨fun hg => ?_, fun hg => ?_⟩
      · have hg : IntKind.i64.wrap (((Dk.used ⟨fs, room, left, false⟩ : Nat) : Int) + ((b.map (AV.int .u8)).length : Nat)) > room := of_decide_eq_true hg
        rw [hwrap] at hg
        have hA : appendD ⟨fs, room, left, false⟩ k b = (8, ⟨fs, room, left, false⟩) := by unfold appendD; rw [if_neg (by simp), if_pos hg]
        rw [hA] at hK
        exact ⟨[], 1, rfl, hK⟩
      · have hg : ¬ IntKind.i64.wrap (((Dk.used ⟨fs, room, left, false⟩ : Nat) : Int) + ((b.map (AV.int .u8)).length : Nat)) > room := of_decide_eq_false hg
        rw [hwrap] at hg
        have hroom : ¬ ((Dk.used ⟨fs, room, left, false⟩ : Nat) : Int) + b.length > room := hg
        have hbl : b.length ≤ 262144 := by omega
        refine ⟨[1000000000], [], [], 0, rfl, _, rfl, rfl, ⟨fs, room, left, false⟩, ⟨hd.l0, hd.l1⟩, .inl ⟨nb, rfl, rfl, ?_⟩⟩
        rcases len3 hd.n with h | ⟨⟨n0, b0, s0⟩, h⟩ | ⟨⟨n0, b0, s0⟩, ⟨n1, b1, s1⟩, h⟩ | ⟨⟨n0, b0, s0⟩, ⟨n1, b1, s1⟩, ⟨n2, b2, s2⟩, h⟩
        all_goals
          have h : fs = _ := h
          subst h
          simp only [Dk.used, usedF] at hu0
        · have hA : appendD ⟨[], room, left, false⟩ k b = (if Dk.wk ⟨[], room, left, false⟩ then 0 else 12, ⟨[(k, b, 0)], room, Dk.lf ⟨[], room, left, false⟩, Dk.st ⟨[], room, left, false⟩⟩) := by
            unfold appendD
            rw [if_neg (by simp), if_neg hroom]
            simp [fget, fset]
          rw [hA] at hK hn
          clear hA
          refine ⟨none, mfind_nil, ?_⟩
          refine ⟨fun _ => ?_, fun h => Bool.noConfusion (show true = false from h)⟩
          refine ⟨_, mset_nil, ?_⟩
          refine ⟨(show (b.map (AV.int .u8)).length * 1 ≤ 140737488355328 by simp only [List.length_map]; omega), ?_⟩
          refine ⟨fun hw => ?_, fun hw => ?_⟩
          · have hw : Dk.wk ⟨[], room, left, false⟩ = false := by simpa using hw
            rw [hw] at hK
            refine ⟨[.cls 1000000000 999000000 ⟨70, 73, 5, [(k, b, 0)], room, Dk.lf ⟨[], room, left, false⟩, Dk.st ⟨[], room, left, false⟩, nb⟩ [36] [.own 49000]], ?_⟩
            refine ⟨rfl, _, rfl, ⟨rfl, rfl, (fun h => by cases h), trivial⟩, by kernel_rfl, hnb, ?_⟩
            refine ⟨1, rfl, ?_⟩
            exact hK
          · have hw : Dk.wk ⟨[], room, left, false⟩ = true := by simpa using hw
            rw [hw] at hK
            refine ⟨[.cls 1000000000 999000000 ⟨70, 73, 5, [(k, b, 0)], room, Dk.lf ⟨[], room, left, false⟩, Dk.st ⟨[], room, left, false⟩, nb⟩ [36] [.own 49000]], ?_⟩
            refine ⟨rfl, _, rfl, ⟨rfl, rfl, (fun h => by cases h), trivial⟩, by kernel_rfl, hnb, ?_⟩
            refine ⟨1, rfl, ?_⟩
            exact hK
        · by_cases h0 : k = n0
          · subst h0
            have hA : appendD ⟨[(k, b0, s0)], room, left, false⟩ k b = (if Dk.wk ⟨[(k, b0, s0)], room, left, false⟩ then 0 else 12, ⟨[(k, b0 ++ b, s0)], room, Dk.lf ⟨[(k, b0, s0)], room, left, false⟩, Dk.st ⟨[(k, b0, s0)], room, left, false⟩⟩) := by
              unfold appendD
              rw [if_neg (by simp), if_neg hroom]
              simp [fget, fset]
            rw [hA] at hK hn
            clear hA
            refine ⟨some (.ptr 999000001 0), mfind_hit, ?_⟩
            refine ⟨fun h => Bool.noConfusion (show false = true from h), fun _ => ?_⟩
            refine ⟨(show ((b0.map (AV.int .u8)).length + (b.map (AV.int .u8)).length) * 1 ≤ 140737488355328 by simp only [List.length_map]; omega), ?_⟩
            refine ⟨fun hw => ?_, fun hw => ?_⟩
            · have hw : Dk.wk ⟨[(k, b0, s0)], room, left, false⟩ = false := by simpa using hw
              rw [hw] at hK
              refine ⟨[.cls 1000000000 999000000 ⟨70, 73, 5, [(k, b0 ++ b, s0)], room, Dk.lf ⟨[(k, b0, s0)], room, left, false⟩, Dk.st ⟨[(k, b0, s0)], room, left, false⟩, nb⟩ [999000001] [.own 999000000]], ?_⟩
              refine ⟨rfl, _, rfl, ⟨rfl, app_box, (fun h => by cases h), trivial⟩, by kernel_rfl, hnb, ?_⟩
              refine ⟨1, rfl, ?_⟩
              exact hK
            · have hw : Dk.wk ⟨[(k, b0, s0)], room, left, false⟩ = true := by simpa using hw
              rw [hw] at hK
              refine ⟨[.cls 1000000000 999000000 ⟨70, 73, 5, [(k, b0 ++ b, s0)], room, Dk.lf ⟨[(k, b0, s0)], room, left, false⟩, Dk.st ⟨[(k, b0, s0)], room, left, false⟩, nb⟩ [999000001] [.own 999000000]], ?_⟩
              refine ⟨rfl, _, rfl, ⟨rfl, app_box, (fun h => by cases h), trivial⟩, by kernel_rfl, hnb, ?_⟩
              refine ⟨1, rfl, ?_⟩
              exact hK
          · have hA : appendD ⟨[(n0, b0, s0)], room, left, false⟩ k b = (if Dk.wk ⟨[(n0, b0, s0)], room, left, false⟩ then 0 else 12, ⟨[(n0, b0, s0), (k, b, 0)], room, Dk.lf ⟨[(n0, b0, s0)], room, left, false⟩, Dk.st ⟨[(n0, b0, s0)], room, left, false⟩⟩) := by
              unfold appendD
              rw [if_neg (by simp), if_neg hroom]
              simp [fget, fset, h0]
            rw [hA] at hK hn
            clear hA
            refine ⟨none, (mfind_miss h0).trans mfind_nil, ?_⟩
            refine ⟨fun _ => ?_, fun h => Bool.noConfusion (show true = false from h)⟩
            refine ⟨_, mset_miss h0 (mset_nil), ?_⟩
            refine ⟨(show (b.map (AV.int .u8)).length * 1 ≤ 140737488355328 by simp only [List.length_map]; omega), ?_⟩
            refine ⟨fun hw => ?_, fun hw => ?_⟩
            · have hw : Dk.wk ⟨[(n0, b0, s0)], room, left, false⟩ = false := by simpa using hw
              rw [hw] at hK
              refine ⟨[.cls 1000000000 999000000 ⟨70, 73, 5, [(n0, b0, s0), (k, b, 0)], room, Dk.lf ⟨[(n0, b0, s0)], room, left, false⟩, Dk.st ⟨[(n0, b0, s0)], room, left, false⟩, nb⟩ [999000001, 36] [.own 999000000, .own 49000]], ?_⟩
              refine ⟨rfl, _, rfl, ⟨rfl, rfl, (fun h => by cases h), ⟨rfl, rfl, (fun h => by cases h), trivial⟩⟩, by kernel_rfl, hnb, ?_⟩
              refine ⟨1, rfl, ?_⟩
              exact hK
            · have hw : Dk.wk ⟨[(n0, b0, s0)], room, left, false⟩ = true := by simpa using hw
              rw [hw] at hK
              refine ⟨[.cls 1000000000 999000000 ⟨70, 73, 5, [(n0, b0, s0), (k, b, 0)], room, Dk.lf ⟨[(n0, b0, s0)], room, left, false⟩, Dk.st ⟨[(n0, b0, s0)], room, left, false⟩, nb⟩ [999000001, 36] [.own 999000000, .own 49000]], ?_⟩
              refine ⟨rfl, _, rfl, ⟨rfl, rfl, (fun h => by cases h), ⟨rfl, rfl, (fun h => by cases h), trivial⟩⟩, by kernel_rfl, hnb, ?_⟩
              refine ⟨1, rfl, ?_⟩
              exact hK
        · by_cases h0 : k = n0
          · subst h0
            have hA : appendD ⟨[(k, b0, s0), (n1, b1, s1)], room, left, false⟩ k b = (if Dk.wk ⟨[(k, b0, s0), (n1, b1, s1)], room, left, false⟩ then 0 else 12, ⟨[(k, b0 ++ b, s0), (n1, b1, s1)], room, Dk.lf ⟨[(k, b0, s0), (n1, b1, s1)], room, left, false⟩, Dk.st ⟨[(k, b0, s0), (n1, b1, s1)], room, left, false⟩⟩) := by
              unfold appendD
              rw [if_neg (by simp), if_neg hroom]
              simp [fget, fset]
            rw [hA] at hK hn
            clear hA
            refine ⟨some (.ptr 999000001 0), mfind_hit, ?_⟩
            refine ⟨fun h => Bool.noConfusion (show false = true from h), fun _ => ?_⟩
            refine ⟨(show ((b0.map (AV.int .u8)).length + (b.map (AV.int .u8)).length) * 1 ≤ 140737488355328 by simp only [List.length_map]; omega), ?_⟩
            refine ⟨fun hw => ?_, fun hw => ?_⟩
            · have hw : Dk.wk ⟨[(k, b0, s0), (n1, b1, s1)], room, left, false⟩ = false := by simpa using hw
              rw [hw] at hK
              refine ⟨[.cls 1000000000 999000000 ⟨70, 73, 5, [(k, b0 ++ b, s0), (n1, b1, s1)], room, Dk.lf ⟨[(k, b0, s0), (n1, b1, s1)], room, left, false⟩, Dk.st ⟨[(k, b0, s0), (n1, b1, s1)], room, left, false⟩, nb⟩ [999000001, 999000002] [.own 999000000, .own 999000001]], ?_⟩
              refine ⟨rfl, _, rfl, ⟨rfl, app_box, (fun h => by cases h), ⟨rfl, rfl, (fun h => by cases h), trivial⟩⟩, by kernel_rfl, hnb, ?_⟩
              refine ⟨1, rfl, ?_⟩
              exact hK
            · have hw : Dk.wk ⟨[(k, b0, s0), (n1, b1, s1)], room, left, false⟩ = true := by simpa using hw
              rw [hw] at hK
              refine ⟨[.cls 1000000000 999000000 ⟨70, 73, 5, [(k, b0 ++ b, s0), (n1, b1, s1)], room, Dk.lf ⟨[(k, b0, s0), (n1, b1, s1)], room, left, false⟩, Dk.st ⟨[(k, b0, s0), (n1, b1, s1)], room, left, false⟩, nb⟩ [999000001, 999000002] [.own 999000000, .own 999000001]], ?_⟩
              refine ⟨rfl, _, rfl, ⟨rfl, app_box, (fun h => by cases h), ⟨rfl, rfl, (fun h => by cases h), trivial⟩⟩, by kernel_rfl, hnb, ?_⟩
              refine ⟨1, rfl, ?_⟩
              exact hK
          · by_cases h1 : k = n1
            · subst h1
              have hA : appendD ⟨[(n0, b0, s0), (k, b1, s1)], room, left, false⟩ k b = (if Dk.wk ⟨[(n0, b0, s0), (k, b1, s1)], room, left, false⟩ then 0 else 12, ⟨[(n0, b0, s0), (k, b1 ++ b, s1)], room, Dk.lf ⟨[(n0, b0, s0), (k, b1, s1)], room, left, false⟩, Dk.st ⟨[(n0, b0, s0), (k, b1, s1)], room, left, false⟩⟩) := by
                unfold appendD
                rw [if_neg (by simp), if_neg hroom]
                simp [fget, fset, h0]
              rw [hA] at hK hn
              clear hA
              refine ⟨some (.ptr 999000002 0), (mfind_miss h0).trans mfind_hit, ?_⟩
              refine ⟨fun h => Bool.noConfusion (show false = true from h), fun _ => ?_⟩
              refine ⟨(show ((b1.map (AV.int .u8)).length + (b.map (AV.int .u8)).length) * 1 ≤ 140737488355328 by simp only [List.length_map]; omega), ?_⟩
              refine ⟨fun hw => ?_, fun hw => ?_⟩
              · have hw : Dk.wk ⟨[(n0, b0, s0), (k, b1, s1)], room, left, false⟩ = false := by simpa using hw
                rw [hw] at hK
                refine ⟨[.cls 1000000000 999000000 ⟨70, 73, 5, [(n0, b0, s0), (k, b1 ++ b, s1)], room, Dk.lf ⟨[(n0, b0, s0), (k, b1, s1)], room, left, false⟩, Dk.st ⟨[(n0, b0, s0), (k, b1, s1)], room, left, false⟩, nb⟩ [999000001, 999000002] [.own 999000000, .own 999000001]], ?_⟩
                refine ⟨rfl, _, rfl, ⟨rfl, rfl, (fun h => by cases h), ⟨rfl, app_box, (fun h => by cases h), trivial⟩⟩, by kernel_rfl, hnb, ?_⟩
                refine ⟨1, rfl, ?_⟩
                exact hK
              · have hw : Dk.wk ⟨[(n0, b0, s0), (k, b1, s1)], room, left, false⟩ = true := by simpa using hw
                rw [hw] at hK
                refine ⟨[.cls 1000000000 999000000 ⟨70, 73, 5, [(n0, b0, s0), (k, b1 ++ b, s1)], room, Dk.lf ⟨[(n0, b0, s0), (k, b1, s1)], room, left, false⟩, Dk.st ⟨[(n0, b0, s0), (k, b1, s1)], room, left, false⟩, nb⟩ [999000001, 999000002] [.own 999000000, .own 999000001]], ?_⟩
                refine ⟨rfl, _, rfl, ⟨rfl, rfl, (fun h => by cases h), ⟨rfl, app_box, (fun h => by cases h), trivial⟩⟩, by kernel_rfl, hnb, ?_⟩
                refine ⟨1, rfl, ?_⟩
                exact hK
            · have hA : appendD ⟨[(n0, b0, s0), (n1, b1, s1)], room, left, false⟩ k b = (if Dk.wk ⟨[(n0, b0, s0), (n1, b1, s1)], room, left, false⟩ then 0 else 12, ⟨[(n0, b0, s0), (n1, b1, s1), (k, b, 0)], room, Dk.lf ⟨[(n0, b0, s0), (n1, b1, s1)], room, left, false⟩, Dk.st ⟨[(n0, b0, s0), (n1, b1, s1)], room, left, false⟩⟩) := by
                unfold appendD
                rw [if_neg (by simp), if_neg hroom]
                simp [fget, fset, h0, h1]
              rw [hA] at hK hn
              clear hA
              refine ⟨none, (mfind_miss h0).trans ((mfind_miss h1).trans mfind_nil), ?_⟩
              refine ⟨fun _ => ?_, fun h => Bool.noConfusion (show true = false from h)⟩
              refine ⟨_, mset_miss h0 (mset_miss h1 (mset_nil)), ?_⟩
              refine ⟨(show (b.map (AV.int .u8)).length * 1 ≤ 140737488355328 by simp only [List.length_map]; omega), ?_⟩
              refine ⟨fun hw => ?_, fun hw => ?_⟩
              · have hw : Dk.wk ⟨[(n0, b0, s0), (n1, b1, s1)], room, left, false⟩ = false := by simpa using hw
                rw [hw] at hK
                refine ⟨[.cls 1000000000 999000000 ⟨70, 73, 5, [(n0, b0, s0), (n1, b1, s1), (k, b, 0)], room, Dk.lf ⟨[(n0, b0, s0), (n1, b1, s1)], room, left, false⟩, Dk.st ⟨[(n0, b0, s0), (n1, b1, s1)], room, left, false⟩, nb⟩ [999000001, 999000002, 36] [.own 999000000, .own 999000001, .own 49000]], ?_⟩
                refine ⟨rfl, _, rfl, ⟨rfl, rfl, (fun h => by cases h), ⟨rfl, rfl, (fun h => by cases h), ⟨rfl, rfl, (fun h => by cases h), trivial⟩⟩⟩, by kernel_rfl, hnb, ?_⟩
                refine ⟨1, rfl, ?_⟩
                exact hK
              · have hw : Dk.wk ⟨[(n0, b0, s0), (n1, b1, s1)], room, left, false⟩ = true := by simpa using hw
                rw [hw] at hK
                refine ⟨[.cls 1000000000 999000000 ⟨70, 73, 5, [(n0, b0, s0), (n1, b1, s1), (k, b, 0)], room, Dk.lf ⟨[(n0, b0, s0), (n1, b1, s1)], room, left, false⟩, Dk.st ⟨[(n0, b0, s0), (n1, b1, s1)], room, left, false⟩, nb⟩ [999000001, 999000002, 36] [.own 999000000, .own 999000001, .own 49000]], ?_⟩
                refine ⟨rfl, _, rfl, ⟨rfl, rfl, (fun h => by cases h), ⟨rfl, rfl, (fun h => by cases h), ⟨rfl, rfl, (fun h => by cases h), trivial⟩⟩⟩, by kernel_rfl, hnb, ?_⟩
                refine ⟨1, rfl, ?_⟩
                exact hK
        · by_cases h0 : k = n0
          · subst h0
            have hA : appendD ⟨[(k, b0, s0), (n1, b1, s1), (n2, b2, s2)], room, left, false⟩ k b = (if Dk.wk ⟨[(k, b0, s0), (n1, b1, s1), (n2, b2, s2)], room, left, false⟩ then 0 else 12, ⟨[(k, b0 ++ b, s0), (n1, b1, s1), (n2, b2, s2)], room, Dk.lf ⟨[(k, b0, s0), (n1, b1, s1), (n2, b2, s2)], room, left, false⟩, Dk.st ⟨[(k, b0, s0), (n1, b1, s1), (n2, b2, s2)], room, left, false⟩⟩) := by
              unfold appendD
              rw [if_neg (by simp), if_neg hroom]
              simp [fget, fset]
            rw [hA] at hK hn
            clear hA
            refine ⟨some (.ptr 999000001 0), mfind_hit, ?_⟩
            refine ⟨fun h => Bool.noConfusion (show false = true from h), fun _ => ?_⟩
            refine ⟨(show ((b0.map (AV.int .u8)).length + (b.map (AV.int .u8)).length) * 1 ≤ 140737488355328 by simp only [List.length_map]; omega), ?_⟩
            refine ⟨fun hw => ?_, fun hw => ?_⟩
            · have hw : Dk.wk ⟨[(k, b0, s0), (n1, b1, s1), (n2, b2, s2)], room, left, false⟩ = false := by simpa using hw
              rw [hw] at hK
              refine ⟨[.cls 1000000000 999000000 ⟨70, 73, 5, [(k, b0 ++ b, s0), (n1, b1, s1), (n2, b2, s2)], room, Dk.lf ⟨[(k, b0, s0), (n1, b1, s1), (n2, b2, s2)], room, left, false⟩, Dk.st ⟨[(k, b0, s0), (n1, b1, s1), (n2, b2, s2)], room, left, false⟩, nb⟩ [999000001, 999000002, 999000003] [.own 999000000, .own 999000001, .own 999000002]], ?_⟩
              refine ⟨rfl, _, rfl, ⟨rfl, app_box, (fun h => by cases h), ⟨rfl, rfl, (fun h => by cases h), ⟨rfl, rfl, (fun h => by cases h), trivial⟩⟩⟩, by kernel_rfl, hnb, ?_⟩
              refine ⟨1, rfl, ?_⟩
              exact hK
            · have hw : Dk.wk ⟨[(k, b0, s0), (n1, b1, s1), (n2, b2, s2)], room, left, false⟩ = true := by simpa using hw
              rw [hw] at hK
              refine ⟨[.cls 1000000000 999000000 ⟨70, 73, 5, [(k, b0 ++ b, s0), (n1, b1, s1), (n2, b2, s2)], room, Dk.lf ⟨[(k, b0, s0), (n1, b1, s1), (n2, b2, s2)], room, left, false⟩, Dk.st ⟨[(k, b0, s0), (n1, b1, s1), (n2, b2, s2)], room, left, false⟩, nb⟩ [999000001, 999000002, 999000003] [.own 999000000, .own 999000001, .own 999000002]], ?_⟩
              refine ⟨rfl, _, rfl, ⟨rfl, app_box, (fun h => by cases h), ⟨rfl, rfl, (fun h => by cases h), ⟨rfl, rfl, (fun h => by cases h), trivial⟩⟩⟩, by kernel_rfl, hnb, ?_⟩
              refine ⟨1, rfl, ?_⟩
              exact hK
          · by_cases h1 : k = n1
            · subst h1
              have hA : appendD ⟨[(n0, b0, s0), (k, b1, s1), (n2, b2, s2)], room, left, false⟩ k b = (if Dk.wk ⟨[(n0, b0, s0), (k, b1, s1), (n2, b2, s2)], room, left, false⟩ then 0 else 12, ⟨[(n0, b0, s0), (k, b1 ++ b, s1), (n2, b2, s2)], room, Dk.lf ⟨[(n0, b0, s0), (k, b1, s1), (n2, b2, s2)], room, left, false⟩, Dk.st ⟨[(n0, b0, s0), (k, b1, s1), (n2, b2, s2)], room, left, false⟩⟩) := by
                unfold appendD
                rw [if_neg (by simp), if_neg hroom]
                simp [fget, fset, h0]
              rw [hA] at hK hn
              clear hA
              refine ⟨some (.ptr 999000002 0), (mfind_miss h0).trans mfind_hit, ?_⟩
              refine ⟨fun h => Bool.noConfusion (show false = true from h), fun _ => ?_⟩
              refine ⟨(show ((b1.map (AV.int .u8)).length + (b.map (AV.int .u8)).length) * 1 ≤ 140737488355328 by simp only [List.length_map]; omega), ?_⟩
              refine ⟨fun hw => ?_, fun hw => ?_⟩
              · have hw : Dk.wk ⟨[(n0, b0, s0), (k, b1, s1), (n2, b2, s2)], room, left, false⟩ = false := by simpa using hw
                rw [hw] at hK
                refine ⟨[.cls 1000000000 999000000 ⟨70, 73, 5, [(n0, b0, s0), (k, b1 ++ b, s1), (n2, b2, s2)], room, Dk.lf ⟨[(n0, b0, s0), (k, b1, s1), (n2, b2, s2)], room, left, false⟩, Dk.st ⟨[(n0, b0, s0), (k, b1, s1), (n2, b2, s2)], room, left, false⟩, nb⟩ [999000001, 999000002, 999000003] [.own 999000000, .own 999000001, .own 999000002]], ?_⟩
                refine ⟨rfl, _, rfl, ⟨rfl, rfl, (fun h => by cases h), ⟨rfl, app_box, (fun h => by cases h), ⟨rfl, rfl, (fun h => by cases h), trivial⟩⟩⟩, by kernel_rfl, hnb, ?_⟩
                refine ⟨1, rfl, ?_⟩
                exact hK
              · have hw : Dk.wk ⟨[(n0, b0, s0), (k, b1, s1), (n2, b2, s2)], room, left, false⟩ = true := by simpa using hw
                rw [hw] at hK
                refine ⟨[.cls 1000000000 999000000 ⟨70, 73, 5, [(n0, b0, s0), (k, b1 ++ b, s1), (n2, b2, s2)], room, Dk.lf ⟨[(n0, b0, s0), (k, b1, s1), (n2, b2, s2)], room, left, false⟩, Dk.st ⟨[(n0, b0, s0), (k, b1, s1), (n2, b2, s2)], room, left, false⟩, nb⟩ [999000001, 999000002, 999000003] [.own 999000000, .own 999000001, .own 999000002]], ?_⟩
                refine ⟨rfl, _, rfl, ⟨rfl, rfl, (fun h => by cases h), ⟨rfl, app_box, (fun h => by cases h), ⟨rfl, rfl, (fun h => by cases h), trivial⟩⟩⟩, by kernel_rfl, hnb, ?_⟩
                refine ⟨1, rfl, ?_⟩
                exact hK
            · by_cases h2 : k = n2
              · subst h2
                have hA : appendD ⟨[(n0, b0, s0), (n1, b1, s1), (k, b2, s2)], room, left, false⟩ k b = (if Dk.wk ⟨[(n0, b0, s0), (n1, b1, s1), (k, b2, s2)], room, left, false⟩ then 0 else 12, ⟨[(n0, b0, s0), (n1, b1, s1), (k, b2 ++ b, s2)], room, Dk.lf ⟨[(n0, b0, s0), (n1, b1, s1), (k, b2, s2)], room, left, false⟩, Dk.st ⟨[(n0, b0, s0), (n1, b1, s1), (k, b2, s2)], room, left, false⟩⟩) := by
                  unfold appendD
                  rw [if_neg (by simp), if_neg hroom]
                  simp [fget, fset, h0, h1]
                rw [hA] at hK hn
                clear hA
                refine ⟨some (.ptr 999000003 0), (mfind_miss h0).trans ((mfind_miss h1).trans mfind_hit), ?_⟩
                refine ⟨fun h => Bool.noConfusion (show false = true from h), fun _ => ?_⟩
                refine ⟨(show ((b2.map (AV.int .u8)).length + (b.map (AV.int .u8)).length) * 1 ≤ 140737488355328 by simp only [List.length_map]; omega), ?_⟩
                refine ⟨fun hw => ?_, fun hw => ?_⟩
                · have hw : Dk.wk ⟨[(n0, b0, s0), (n1, b1, s1), (k, b2, s2)], room, left, false⟩ = false := by simpa using hw
                  rw [hw] at hK
                  refine ⟨[.cls 1000000000 999000000 ⟨70, 73, 5, [(n0, b0, s0), (n1, b1, s1), (k, b2 ++ b, s2)], room, Dk.lf ⟨[(n0, b0, s0), (n1, b1, s1), (k, b2, s2)], room, left, false⟩, Dk.st ⟨[(n0, b0, s0), (n1, b1, s1), (k, b2, s2)], room, left, false⟩, nb⟩ [999000001, 999000002, 999000003] [.own 999000000, .own 999000001, .own 999000002]], ?_⟩
                  refine ⟨rfl, _, rfl, ⟨rfl, rfl, (fun h => by cases h), ⟨rfl, rfl, (fun h => by cases h), ⟨rfl, app_box, (fun h => by cases h), trivial⟩⟩⟩, by kernel_rfl, hnb, ?_⟩
                  refine ⟨1, rfl, ?_⟩
                  exact hK
                · have hw : Dk.wk ⟨[(n0, b0, s0), (n1, b1, s1), (k, b2, s2)], room, left, false⟩ = true := by simpa using hw
                  rw [hw] at hK
                  refine ⟨[.cls 1000000000 999000000 ⟨70, 73, 5, [(n0, b0, s0), (n1, b1, s1), (k, b2 ++ b, s2)], room, Dk.lf ⟨[(n0, b0, s0), (n1, b1, s1), (k, b2, s2)], room, left, false⟩, Dk.st ⟨[(n0, b0, s0), (n1, b1, s1), (k, b2, s2)], room, left, false⟩, nb⟩ [999000001, 999000002, 999000003] [.own 999000000, .own 999000001, .own 999000002]], ?_⟩
                  refine ⟨rfl, _, rfl, ⟨rfl, rfl, (fun h => by cases h), ⟨rfl, rfl, (fun h => by cases h), ⟨rfl, app_box, (fun h => by cases h), trivial⟩⟩⟩, by kernel_rfl, hnb, ?_⟩
                  refine ⟨1, rfl, ?_⟩
                  exact hK
              · have hA : appendD ⟨[(n0, b0, s0), (n1, b1, s1), (n2, b2, s2)], room, left, false⟩ k b = (if Dk.wk ⟨[(n0, b0, s0), (n1, b1, s1), (n2, b2, s2)], room, left, false⟩ then 0 else 12, ⟨[(n0, b0, s0), (n1, b1, s1), (n2, b2, s2), (k, b, 0)], room, Dk.lf ⟨[(n0, b0, s0), (n1, b1, s1), (n2, b2, s2)], room, left, false⟩, Dk.st ⟨[(n0, b0, s0), (n1, b1, s1), (n2, b2, s2)], room, left, false⟩⟩) := by
                  unfold appendD
                  rw [if_neg (by simp), if_neg hroom]
                  simp [fget, fset, h0, h1, h2]
                rw [hA] at hK hn
                clear hA
                exact absurd hn (by simp)
end Go.Proofs.YtbpcofnhndgoeaaDoor.A
