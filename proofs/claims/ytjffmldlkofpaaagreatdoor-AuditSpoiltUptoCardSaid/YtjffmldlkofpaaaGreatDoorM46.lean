/- hawalalaw20: Spoil, AuditOne, AuditSpoilt. -/
import Derived.Test.YtjffmldlkofpaaaGreatDoorM45
import Derived.Test.YtjffmldlkofpaaaGreatDoorU11
namespace Go.Proofs.YtjffmldlkofpaaaGreatDoor.A
open Go Q
theorem modify_mapG {α : Type} {f : α → AV} {l : List α} {i : Nat} {a : α} (h : l[i]? = some a) (g : AV → AV) (x : α) (hg : g (f a) = f x) : (l.map f).modify i g = (l.set i x).map f := by
  apply List.ext_getElem?
  intro j
  rw [List.getElem?_modify, List.getElem?_map, List.getElem?_map, List.getElem?_set]
  by_cases hj : i = j
  · subst hj
    obtain ⟨hl, he⟩ := List.getElem?_eq_some_iff.1 h
    simp [hl]
    rw [he]
    exact hg
  · simp [hj]
/-- What a spoilt state is like. -/
structure SpS (s : Sta) (how : Int) (t : Sta) : Prop where
  la : t.accs.length = s.accs.length
  lp : t.pays.length = s.pays.length
  ls : t.sags.length ≤ s.sags.length + 1
  lk : t.kns.length ≤ s.kns.length + 1
  z : how.tmod 8 = 0 → ∃ (k : Nat) (a : Acc), s.accs[k]? = some a ∧ t = withA s (s.accs.set k ⟨a.cur, w64 (a.bal + 1), a.held⟩)
  o : how.tmod 8 = 1 → ∃ (k : Nat) (a : Acc), s.accs[k]? = some a ∧ t = withA s (s.accs.set k ⟨a.cur, a.bal, w64 (a.held + 1)⟩)
structure SpZ (s : Sta) : Prop where
  a0 : 1 ≤ s.accs.length
  la : s.accs.length ≤ 64
  lp : s.pays.length ≤ 1999900
  ls : s.sags.length ≤ 18
  lk : s.kns.length ≤ 258
def staO (a p g k : List AV) (now : Int) : AV := .agg [.sl (.own 10000) 65 a, .sl (.own 14000) 90 p, .sl (.own 18000) 47 g, .sl (.own 22000) 63 k, .int .i64 now]
abbrev staO' (t : Sta) : AV := staO (t.accs.map accA) (t.pays.map payA) (t.sags.map sagA) (t.kns.map knoA) t.now
def spoilC0 (args : List AV) (bs : List Box) (K : AV → List Box → Prop) : Prop := bs = [] ∧ ∃ (s : Sta) (how at_ : Int), args = [staA s, .int .u8 how, .int .u8 at_] ∧ SpZ s ∧ u8I how ∧ u8I at_ ∧ ∀ t, SpS s how t → K (staO' t) []
def spoilC (args : List AV) (bs : List Box) (K : AV → List Box → Prop) : Prop := bs = [] ∧ ∃ (s : Sta) (how at_ : Int), args = [staA s, .int .u8 how, .int .u8 at_] ∧ SpZ s ∧ u8I how ∧ u8I at_ ∧ ∀ t, SpS s how t → K (staA t) []
theorem at_raw {α : Type} {l : List α} {f : α → AV} (h : 0 < l.length) {at_ : Int} (ha : u8I at_) : (((l.map f).length : Nat) : Int) ≠ 0 ∧ 0 ≤ (IntKind.i64.wrap at_).tmod (((l.map f).length : Nat) : Int) ∧ ∃ a, l[((IntKind.i64.wrap at_).tmod (((l.map f).length : Nat) : Int)).toNat]? = some a := by
  have a0 := ha.1
  have a1 := ha.2
  have hw : IntKind.i64.wrap at_ = at_ := wrap_of (by omega) (by omega)
  rw [hw, List.length_map]
  have h0 := Int.tmod_nonneg (l.length : Int) a0
  have h1 := Int.tmod_lt_of_pos at_ (show (0 : Int) < l.length by omega)
  exact ⟨by omega, h0, _, List.getElem?_eq_getElem (by omega)⟩
def plSp : Nat → Plan
  | 15 => (.take 0 (.take 1 (.take 2 (.take 3 (.take 4 (.take 5 (.take 6 (.take 7 (.take 8 (.take 9 (.last 10 (.last 11 (.cut 12 (.take 13 (.cut 14 .done)))))))))))))))
  | 19 => (.take 0 (.take 1 (.take 2 (.take 3 (.take 4 (.take 5 (.take 6 (.take 7 (.take 8 (.take 9 (.last 10 (.last 11 (.cut 12 (.take 13 (.cut 14 .done)))))))))))))))
  | k => pl29 k
set_option maxRecDepth 200000 in
set_option maxHeartbeats 25600000 in
theorem spoil_ok0 : FnOk Tryz.prog tab 29 spoilC0 := by
  refine fn_ok (E := R0_E plSp) tab_is R0_ok (R0_J _) Tryz.func29 rfl rfl (by kernel_rfl) ?_
  rintro args bs K ⟨rfl, s, how, at_, rfl, hz, hh, ha, hK⟩
  refine ⟨rfl, ?_⟩
  have hla := hz.la
  have hlp := hz.lp
  have hls := hz.ls
  have hlk := hz.lk
  have d8 : (8 : Int) ≠ 0 := by decide
  have d20 : (20 : Int) ≠ 0 := by decide
  have bA : (s.accs.map accA).length * 24 ≤ 140737488355328 := by rw [List.length_map]; omega
  have bP : (s.pays.map payA).length * 64 ≤ 140737488355328 := by rw [List.length_map]; omega
  have bG : (s.sags.map sagA).length * 88 ≤ 140737488355328 := by rw [List.length_map]; omega
  have bK : (s.kns.map knoA).length * 80 ≤ 140737488355328 := by rw [List.length_map]; omega
  have bG1 : ((s.sags.map sagA).length + 1) * 88 ≤ 140737488355328 := by rw [List.length_map]; omega
  have bK1 : ((s.kns.map knoA).length + 1) * 80 ≤ 140737488355328 := by rw [List.length_map]; omega
  have same : SpS s how s → K (staO' s) [] := fun h => hK s h
  refine ⟨bA, ?_⟩
  refine ⟨bP, ?_⟩
  refine ⟨bG, ?_⟩
  refine ⟨bK, ?_⟩
  have h0 := Int.tmod_nonneg (8 : Int) hh.1
  have h8 := Int.tmod_lt_of_pos how (show (0 : Int) < 8 by decide)
  have hc : how.tmod 8 = 0 ∨ how.tmod 8 = 1 ∨ how.tmod 8 = 2 ∨ how.tmod 8 = 3 ∨ how.tmod 8 = 4 ∨ how.tmod 8 = 5 ∨ how.tmod 8 = 6 ∨ how.tmod 8 = 7 := by omega
  rcases hc with hc | hc | hc | hc | hc | hc | hc | hc
  · have hcc := hc
    have e0 : (how.tmod 8 == 0) = true := by rw [hc]; rfl
    have e1 : (how.tmod 8 == 1) = false := by rw [hc]; rfl
    have e2 : (how.tmod 8 == 2) = false := by rw [hc]; rfl
    have e3 : (how.tmod 8 == 3) = false := by rw [hc]; rfl
    have e4 : (how.tmod 8 == 4) = false := by rw [hc]; rfl
    have e5 : (how.tmod 8 == 5) = false := by rw [hc]; rfl
    have e6 : (how.tmod 8 == 6) = false := by rw [hc]; rfl
    have e7 : (how.tmod 8 == 7) = false := by rw [hc]; rfl
    have hn : 0 < s.accs.length := hz.a0
    obtain ⟨hn0, hm0, a, hg⟩ := at_raw (f := accA) hn ha
    have hx := map_of (f := accA) hg
    have hput : ((s.accs.map accA).modify (((IntKind.i64.wrap at_).tmod (((s.accs.map accA).length : Nat) : Int)).toNat) (fun x => x.ofCells (putCells x.cells 1 [.int .i64 (IntKind.i64.wrap (a.bal + 1))]))) = (s.accs.set (((IntKind.i64.wrap at_).tmod (((s.accs.map accA).length : Nat) : Int)).toNat) ⟨a.cur, IntKind.i64.wrap (a.bal + 1), a.held⟩).map accA := modify_mapG hg _ _ rfl
    have hend : K (staO ((s.accs.map accA).modify (((IntKind.i64.wrap at_).tmod (((s.accs.map accA).length : Nat) : Int)).toNat) (fun x => x.ofCells (putCells x.cells 1 [.int .i64 (IntKind.i64.wrap (a.bal + 1))]))) (s.pays.map payA) (s.sags.map sagA) (s.kns.map knoA) s.now) [] := by
      rw [hput]
      exact hK ⟨s.accs.set (((IntKind.i64.wrap at_).tmod (((s.accs.map accA).length : Nat) : Int)).toNat) ⟨a.cur, IntKind.i64.wrap (a.bal + 1), a.held⟩, s.pays, s.sags, s.kns, s.now⟩ ⟨List.length_set .., rfl, Nat.le_succ _, Nat.le_succ _, fun _ => ⟨_, a, hg, rfl⟩, fun h => absurd (hc.symm.trans h) (by decide)⟩
    repeat' first
      | (exact hend)
      | (refine ⟨d8, ?_⟩)
      | (refine ⟨fun _ => ?_, fun h => absurd (e0.symm.trans h) (by decide)⟩)
      | (refine ⟨hn0, ?_⟩)
      | (refine ⟨_, hm0, hx, ?_⟩)
      | (refine ⟨d20, ?_⟩)
      | (refine ⟨fun _ => ?_, fun h => Bool.noConfusion (show true = false from h)⟩)
      | (refine ⟨fun h => Bool.noConfusion (show false = true from h), fun _ => ?_⟩)
      | (refine And.intro ?_ ?_)
  · have hcc := hc
    have e0 : (how.tmod 8 == 0) = false := by rw [hc]; rfl
    have e1 : (how.tmod 8 == 1) = true := by rw [hc]; rfl
    have e2 : (how.tmod 8 == 2) = false := by rw [hc]; rfl
    have e3 : (how.tmod 8 == 3) = false := by rw [hc]; rfl
    have e4 : (how.tmod 8 == 4) = false := by rw [hc]; rfl
    have e5 : (how.tmod 8 == 5) = false := by rw [hc]; rfl
    have e6 : (how.tmod 8 == 6) = false := by rw [hc]; rfl
    have e7 : (how.tmod 8 == 7) = false := by rw [hc]; rfl
    have hn : 0 < s.accs.length := hz.a0
    obtain ⟨hn0, hm0, a, hg⟩ := at_raw (f := accA) hn ha
    have hx := map_of (f := accA) hg
    have hput : ((s.accs.map accA).modify (((IntKind.i64.wrap at_).tmod (((s.accs.map accA).length : Nat) : Int)).toNat) (fun x => x.ofCells (putCells x.cells 2 [.int .i64 (IntKind.i64.wrap (a.held + 1))]))) = (s.accs.set (((IntKind.i64.wrap at_).tmod (((s.accs.map accA).length : Nat) : Int)).toNat) ⟨a.cur, a.bal, IntKind.i64.wrap (a.held + 1)⟩).map accA := modify_mapG hg _ _ rfl
    have hend : K (staO ((s.accs.map accA).modify (((IntKind.i64.wrap at_).tmod (((s.accs.map accA).length : Nat) : Int)).toNat) (fun x => x.ofCells (putCells x.cells 2 [.int .i64 (IntKind.i64.wrap (a.held + 1))]))) (s.pays.map payA) (s.sags.map sagA) (s.kns.map knoA) s.now) [] := by
      rw [hput]
      exact hK ⟨s.accs.set (((IntKind.i64.wrap at_).tmod (((s.accs.map accA).length : Nat) : Int)).toNat) ⟨a.cur, a.bal, IntKind.i64.wrap (a.held + 1)⟩, s.pays, s.sags, s.kns, s.now⟩ ⟨List.length_set .., rfl, Nat.le_succ _, Nat.le_succ _, fun h => absurd (hc.symm.trans h) (by decide), fun _ => ⟨_, a, hg, rfl⟩⟩
    repeat' first
      | (exact hend)
      | (refine ⟨d8, ?_⟩)
      | (refine ⟨fun h => absurd (e0.symm.trans h) (by decide), fun _ => ?_⟩)
      | (refine ⟨fun _ => ?_, fun h => absurd (e1.symm.trans h) (by decide)⟩)
      | (refine ⟨hn0, ?_⟩)
      | (refine ⟨_, hm0, hx, ?_⟩)
      | (refine ⟨d20, ?_⟩)
      | (refine ⟨fun _ => ?_, fun h => Bool.noConfusion (show true = false from h)⟩)
      | (refine ⟨fun h => Bool.noConfusion (show false = true from h), fun _ => ?_⟩)
      | (refine And.intro ?_ ?_)
  · have hcc := hc
    have e0 : (how.tmod 8 == 0) = false := by rw [hc]; rfl
    have e1 : (how.tmod 8 == 1) = false := by rw [hc]; rfl
    have e2 : (how.tmod 8 == 2) = true := by rw [hc]; rfl
    have e3 : (how.tmod 8 == 3) = false := by rw [hc]; rfl
    have e4 : (how.tmod 8 == 4) = false := by rw [hc]; rfl
    have e5 : (how.tmod 8 == 5) = false := by rw [hc]; rfl
    have e6 : (how.tmod 8 == 6) = false := by rw [hc]; rfl
    have e7 : (how.tmod 8 == 7) = false := by rw [hc]; rfl
    by_cases hn : 0 < s.pays.length
    · have hgt : decide (((s.pays.map payA).length : Nat) > (0 : Int)) = true := by rw [List.length_map]; exact decide_eq_true (by omega)
      obtain ⟨hn0, hm0, a, hg⟩ := at_raw (f := payA) hn ha
      have hx := map_of (f := payA) hg
      have hput : ((s.pays.map payA).modify (((IntKind.i64.wrap at_).tmod (((s.pays.map payA).length : Nat) : Int)).toNat) (fun x => x.ofCells (putCells x.cells 4 [.int .i64 (IntKind.i64.wrap (a.refu + 500))]))) = (s.pays.set (((IntKind.i64.wrap at_).tmod (((s.pays.map payA).length : Nat) : Int)).toNat) ⟨a.src, a.dst, a.auth, a.capt, IntKind.i64.wrap (a.refu + 500), a.chrg, a.til, a.stage⟩).map payA := modify_mapG hg _ _ rfl
      have hend : K (staO (s.accs.map accA) ((s.pays.map payA).modify (((IntKind.i64.wrap at_).tmod (((s.pays.map payA).length : Nat) : Int)).toNat) (fun x => x.ofCells (putCells x.cells 4 [.int .i64 (IntKind.i64.wrap (a.refu + 500))]))) (s.sags.map sagA) (s.kns.map knoA) s.now) [] := by
        rw [hput]
        exact hK ⟨s.accs, s.pays.set (((IntKind.i64.wrap at_).tmod (((s.pays.map payA).length : Nat) : Int)).toNat) ⟨a.src, a.dst, a.auth, a.capt, IntKind.i64.wrap (a.refu + 500), a.chrg, a.til, a.stage⟩, s.sags, s.kns, s.now⟩ ⟨rfl, List.length_set .., Nat.le_succ _, Nat.le_succ _, fun h => absurd (hc.symm.trans h) (by decide), fun h => absurd (hc.symm.trans h) (by decide)⟩
      repeat' first
        | (exact hend)
        | (refine ⟨d8, ?_⟩)
        | (refine ⟨fun h => absurd (e0.symm.trans h) (by decide), fun _ => ?_⟩)
        | (refine ⟨fun h => absurd (e1.symm.trans h) (by decide), fun _ => ?_⟩)
        | (refine ⟨fun _ => ?_, fun h => absurd (e2.symm.trans h) (by decide)⟩)
        | (refine ⟨hn0, ?_⟩)
        | (refine ⟨_, hm0, hx, ?_⟩)
        | (refine ⟨d20, ?_⟩)
        | (refine ⟨fun _ => ?_, fun h => absurd (hgt.symm.trans h) (by decide)⟩)
        | (refine ⟨fun _ => ?_, fun h => Bool.noConfusion (show true = false from h)⟩)
        | (refine ⟨fun h => Bool.noConfusion (show false = true from h), fun _ => ?_⟩)
        | (refine And.intro ?_ ?_)
    · have hgt : decide (((s.pays.map payA).length : Nat) > (0 : Int)) = false := by rw [List.length_map]; exact decide_eq_false (by omega)
      have hend : K (staO' s) [] := hK s ⟨rfl, rfl, Nat.le_succ _, Nat.le_succ _, fun h => absurd (hc.symm.trans h) (by decide), fun h => absurd (hc.symm.trans h) (by decide)⟩
      repeat' first
        | (exact hend)
        | (refine ⟨d8, ?_⟩)
        | (refine ⟨fun h => absurd (e0.symm.trans h) (by decide), fun _ => ?_⟩)
        | (refine ⟨fun h => absurd (e1.symm.trans h) (by decide), fun _ => ?_⟩)
        | (refine ⟨fun _ => ?_, fun h => absurd (e2.symm.trans h) (by decide)⟩)
        | (refine ⟨fun h => absurd (e3.symm.trans h) (by decide), fun _ => ?_⟩)
        | (refine ⟨fun h => absurd (e4.symm.trans h) (by decide), fun _ => ?_⟩)
        | (refine ⟨fun h => absurd (e5.symm.trans h) (by decide), fun _ => ?_⟩)
        | (refine ⟨fun h => absurd (e6.symm.trans h) (by decide), fun _ => ?_⟩)
        | (refine ⟨fun h => absurd (e7.symm.trans h) (by decide), fun _ => ?_⟩)
        | (refine ⟨fun h => absurd (hgt.symm.trans h) (by decide), fun _ => ?_⟩)
        | (refine ⟨fun _ => ?_, fun h => Bool.noConfusion (show true = false from h)⟩)
        | (refine ⟨fun h => Bool.noConfusion (show false = true from h), fun _ => ?_⟩)
        | (refine And.intro ?_ ?_)
  · have hcc := hc
    have e0 : (how.tmod 8 == 0) = false := by rw [hc]; rfl
    have e1 : (how.tmod 8 == 1) = false := by rw [hc]; rfl
    have e2 : (how.tmod 8 == 2) = false := by rw [hc]; rfl
    have e3 : (how.tmod 8 == 3) = true := by rw [hc]; rfl
    have e4 : (how.tmod 8 == 4) = false := by rw [hc]; rfl
    have e5 : (how.tmod 8 == 5) = false := by rw [hc]; rfl
    have e6 : (how.tmod 8 == 6) = false := by rw [hc]; rfl
    have e7 : (how.tmod 8 == 7) = false := by rw [hc]; rfl
    by_cases hn : 0 < s.sags.length
    · have hgt : decide (((s.sags.map sagA).length : Nat) > (0 : Int)) = true := by rw [List.length_map]; exact decide_eq_true (by omega)
      obtain ⟨hn0, hm0, a, hg⟩ := at_raw (f := sagA) hn ha
      have hx := map_of (f := sagA) hg
      have hput : ((s.sags.map sagA).modify (((IntKind.i64.wrap at_).tmod (((s.sags.map sagA).length : Nat) : Int)).toNat) (fun x => x.ofCells (putCells x.cells 8 [.int .i64 (IntKind.i64.wrap (a.leg + 3))]))) = (s.sags.set (((IntKind.i64.wrap at_).tmod (((s.sags.map sagA).length : Nat) : Int)).toNat) ⟨a.req, a.phase, IntKind.i64.wrap (a.leg + 3), a.tries, a.why⟩).map sagA := modify_mapG hg _ _ rfl
      have hend : K (staO (s.accs.map accA) (s.pays.map payA) ((s.sags.map sagA).modify (((IntKind.i64.wrap at_).tmod (((s.sags.map sagA).length : Nat) : Int)).toNat) (fun x => x.ofCells (putCells x.cells 8 [.int .i64 (IntKind.i64.wrap (a.leg + 3))]))) (s.kns.map knoA) s.now) [] := by
        rw [hput]
        exact hK ⟨s.accs, s.pays, s.sags.set (((IntKind.i64.wrap at_).tmod (((s.sags.map sagA).length : Nat) : Int)).toNat) ⟨a.req, a.phase, IntKind.i64.wrap (a.leg + 3), a.tries, a.why⟩, s.kns, s.now⟩ ⟨rfl, rfl, Nat.le_succ_of_le (Nat.le_of_eq (List.length_set ..)), Nat.le_succ _, fun h => absurd (hc.symm.trans h) (by decide), fun h => absurd (hc.symm.trans h) (by decide)⟩
      repeat' first
        | (exact hend)
        | (refine ⟨d8, ?_⟩)
        | (refine ⟨fun h => absurd (e0.symm.trans h) (by decide), fun _ => ?_⟩)
        | (refine ⟨fun h => absurd (e1.symm.trans h) (by decide), fun _ => ?_⟩)
        | (refine ⟨fun h => absurd (e2.symm.trans h) (by decide), fun _ => ?_⟩)
        | (refine ⟨fun _ => ?_, fun h => absurd (e3.symm.trans h) (by decide)⟩)
        | (refine ⟨hn0, ?_⟩)
        | (refine ⟨_, hm0, hx, ?_⟩)
        | (refine ⟨d20, ?_⟩)
        | (refine ⟨fun _ => ?_, fun h => absurd (hgt.symm.trans h) (by decide)⟩)
        | (refine ⟨fun _ => ?_, fun h => Bool.noConfusion (show true = false from h)⟩)
        | (refine ⟨fun h => Bool.noConfusion (show false = true from h), fun _ => ?_⟩)
        | (refine And.intro ?_ ?_)
    · have hgt : decide (((s.sags.map sagA).length : Nat) > (0 : Int)) = false := by rw [List.length_map]; exact decide_eq_false (by omega)
      have hend : K (staO' s) [] := hK s ⟨rfl, rfl, Nat.le_succ _, Nat.le_succ _, fun h => absurd (hc.symm.trans h) (by decide), fun h => absurd (hc.symm.trans h) (by decide)⟩
      repeat' first
        | (exact hend)
        | (refine ⟨d8, ?_⟩)
        | (refine ⟨fun h => absurd (e0.symm.trans h) (by decide), fun _ => ?_⟩)
        | (refine ⟨fun h => absurd (e1.symm.trans h) (by decide), fun _ => ?_⟩)
        | (refine ⟨fun h => absurd (e2.symm.trans h) (by decide), fun _ => ?_⟩)
        | (refine ⟨fun _ => ?_, fun h => absurd (e3.symm.trans h) (by decide)⟩)
        | (refine ⟨fun h => absurd (e4.symm.trans h) (by decide), fun _ => ?_⟩)
        | (refine ⟨fun h => absurd (e5.symm.trans h) (by decide), fun _ => ?_⟩)
        | (refine ⟨fun h => absurd (e6.symm.trans h) (by decide), fun _ => ?_⟩)
        | (refine ⟨fun h => absurd (e7.symm.trans h) (by decide), fun _ => ?_⟩)
        | (refine ⟨fun h => absurd (hgt.symm.trans h) (by decide), fun _ => ?_⟩)
        | (refine ⟨fun _ => ?_, fun h => Bool.noConfusion (show true = false from h)⟩)
        | (refine ⟨fun h => Bool.noConfusion (show false = true from h), fun _ => ?_⟩)
        | (refine And.intro ?_ ?_)
  · have hcc := hc
    have e0 : (how.tmod 8 == 0) = false := by rw [hc]; rfl
    have e1 : (how.tmod 8 == 1) = false := by rw [hc]; rfl
    have e2 : (how.tmod 8 == 2) = false := by rw [hc]; rfl
    have e3 : (how.tmod 8 == 3) = false := by rw [hc]; rfl
    have e4 : (how.tmod 8 == 4) = true := by rw [hc]; rfl
    have e5 : (how.tmod 8 == 5) = false := by rw [hc]; rfl
    have e6 : (how.tmod 8 == 6) = false := by rw [hc]; rfl
    have e7 : (how.tmod 8 == 7) = false := by rw [hc]; rfl
    by_cases hn : 0 < s.kns.length
    · have hgt : decide (((s.kns.map knoA).length : Nat) > (0 : Int)) = true := by rw [List.length_map]; exact decide_eq_true (by omega)
      obtain ⟨hn0, hm0, a, hg⟩ := at_raw (f := knoA) hn ha
      have hx := map_of (f := knoA) hg
      have hend : K (staO (s.accs.map accA) (s.pays.map payA) (s.sags.map sagA) ((s.kns.map knoA) ++ [knoA a]) s.now) [] := by
        have e : ((s.kns.map knoA) ++ [knoA a]) = (s.kns ++ [a]).map knoA := by rw [List.map_append]; rfl
        rw [e]
        exact hK ⟨s.accs, s.pays, s.sags, s.kns ++ [a], s.now⟩ ⟨rfl, rfl, Nat.le_succ _, by show (s.kns ++ [a]).length ≤ _; simp, fun h => absurd (hc.symm.trans h) (by decide), fun h => absurd (hc.symm.trans h) (by decide)⟩
      repeat' first
        | (exact hend)
        | (refine ⟨d8, ?_⟩)
        | (refine ⟨fun h => absurd (e0.symm.trans h) (by decide), fun _ => ?_⟩)
        | (refine ⟨fun h => absurd (e1.symm.trans h) (by decide), fun _ => ?_⟩)
        | (refine ⟨fun h => absurd (e2.symm.trans h) (by decide), fun _ => ?_⟩)
        | (refine ⟨fun h => absurd (e3.symm.trans h) (by decide), fun _ => ?_⟩)
        | (refine ⟨fun _ => ?_, fun h => absurd (e4.symm.trans h) (by decide)⟩)
        | (refine ⟨hn0, ?_⟩)
        | (refine ⟨_, hm0, hx, ?_⟩)
        | (refine ⟨bK1, ?_⟩)
        | (refine ⟨fun _ => ?_, fun h => absurd (hgt.symm.trans h) (by decide)⟩)
        | (refine ⟨fun _ => ?_, fun h => Bool.noConfusion (show true = false from h)⟩)
        | (refine ⟨fun h => Bool.noConfusion (show false = true from h), fun _ => ?_⟩)
        | (refine And.intro ?_ ?_)
    · have hgt : decide (((s.kns.map knoA).length : Nat) > (0 : Int)) = false := by rw [List.length_map]; exact decide_eq_false (by omega)
      have hend : K (staO' s) [] := hK s ⟨rfl, rfl, Nat.le_succ _, Nat.le_succ _, fun h => absurd (hc.symm.trans h) (by decide), fun h => absurd (hc.symm.trans h) (by decide)⟩
      repeat' first
        | (exact hend)
        | (refine ⟨d8, ?_⟩)
        | (refine ⟨fun h => absurd (e0.symm.trans h) (by decide), fun _ => ?_⟩)
        | (refine ⟨fun h => absurd (e1.symm.trans h) (by decide), fun _ => ?_⟩)
        | (refine ⟨fun h => absurd (e2.symm.trans h) (by decide), fun _ => ?_⟩)
        | (refine ⟨fun h => absurd (e3.symm.trans h) (by decide), fun _ => ?_⟩)
        | (refine ⟨fun _ => ?_, fun h => absurd (e4.symm.trans h) (by decide)⟩)
        | (refine ⟨fun h => absurd (e5.symm.trans h) (by decide), fun _ => ?_⟩)
        | (refine ⟨fun h => absurd (e6.symm.trans h) (by decide), fun _ => ?_⟩)
        | (refine ⟨fun h => absurd (e7.symm.trans h) (by decide), fun _ => ?_⟩)
        | (refine ⟨fun h => absurd (hgt.symm.trans h) (by decide), fun _ => ?_⟩)
        | (refine ⟨fun _ => ?_, fun h => Bool.noConfusion (show true = false from h)⟩)
        | (refine ⟨fun h => Bool.noConfusion (show false = true from h), fun _ => ?_⟩)
        | (refine And.intro ?_ ?_)
  · have hcc := hc
    have e0 : (how.tmod 8 == 0) = false := by rw [hc]; rfl
    have e1 : (how.tmod 8 == 1) = false := by rw [hc]; rfl
    have e2 : (how.tmod 8 == 2) = false := by rw [hc]; rfl
    have e3 : (how.tmod 8 == 3) = false := by rw [hc]; rfl
    have e4 : (how.tmod 8 == 4) = false := by rw [hc]; rfl
    have e5 : (how.tmod 8 == 5) = true := by rw [hc]; rfl
    have e6 : (how.tmod 8 == 6) = false := by rw [hc]; rfl
    have e7 : (how.tmod 8 == 7) = false := by rw [hc]; rfl
    by_cases hn : 0 < s.kns.length
    · have hgt : decide (((s.kns.map knoA).length : Nat) > (0 : Int)) = true := by rw [List.length_map]; exact decide_eq_true (by omega)
      obtain ⟨hn0, hm0, a, hg⟩ := at_raw (f := knoA) hn ha
      have hx := map_of (f := knoA) hg
      have hput : ((s.kns.map knoA).modify (((IntKind.i64.wrap at_).tmod (((s.kns.map knoA).length : Nat) : Int)).toNat) (fun x => x.ofCells (putCells x.cells 9 [.bool (!a.told)]))) = (s.kns.set (((IntKind.i64.wrap at_).tmod (((s.kns.map knoA).length : Nat) : Int)).toNat) ⟨a.req, a.err, a.id, !a.told⟩).map knoA := modify_mapG hg _ _ rfl
      have hend : K (staO (s.accs.map accA) (s.pays.map payA) (s.sags.map sagA) ((s.kns.map knoA).modify (((IntKind.i64.wrap at_).tmod (((s.kns.map knoA).length : Nat) : Int)).toNat) (fun x => x.ofCells (putCells x.cells 9 [.bool (!a.told)]))) s.now) [] := by
        rw [hput]
        exact hK ⟨s.accs, s.pays, s.sags, s.kns.set (((IntKind.i64.wrap at_).tmod (((s.kns.map knoA).length : Nat) : Int)).toNat) ⟨a.req, a.err, a.id, !a.told⟩, s.now⟩ ⟨rfl, rfl, Nat.le_succ _, Nat.le_succ_of_le (Nat.le_of_eq (List.length_set ..)), fun h => absurd (hc.symm.trans h) (by decide), fun h => absurd (hc.symm.trans h) (by decide)⟩
      repeat' first
        | (exact hend)
        | (refine ⟨d8, ?_⟩)
        | (refine ⟨fun h => absurd (e0.symm.trans h) (by decide), fun _ => ?_⟩)
        | (refine ⟨fun h => absurd (e1.symm.trans h) (by decide), fun _ => ?_⟩)
        | (refine ⟨fun h => absurd (e2.symm.trans h) (by decide), fun _ => ?_⟩)
        | (refine ⟨fun h => absurd (e3.symm.trans h) (by decide), fun _ => ?_⟩)
        | (refine ⟨fun h => absurd (e4.symm.trans h) (by decide), fun _ => ?_⟩)
        | (refine ⟨fun _ => ?_, fun h => absurd (e5.symm.trans h) (by decide)⟩)
        | (refine ⟨hn0, ?_⟩)
        | (refine ⟨_, hm0, hx, ?_⟩)
        | (refine ⟨d20, ?_⟩)
        | (refine ⟨fun _ => ?_, fun h => absurd (hgt.symm.trans h) (by decide)⟩)
        | (refine ⟨fun _ => ?_, fun h => Bool.noConfusion (show true = false from h)⟩)
        | (refine ⟨fun h => Bool.noConfusion (show false = true from h), fun _ => ?_⟩)
        | (refine And.intro ?_ ?_)
    · have hgt : decide (((s.kns.map knoA).length : Nat) > (0 : Int)) = false := by rw [List.length_map]; exact decide_eq_false (by omega)
      have hend : K (staO' s) [] := hK s ⟨rfl, rfl, Nat.le_succ _, Nat.le_succ _, fun h => absurd (hc.symm.trans h) (by decide), fun h => absurd (hc.symm.trans h) (by decide)⟩
      repeat' first
        | (exact hend)
        | (refine ⟨d8, ?_⟩)
        | (refine ⟨fun h => absurd (e0.symm.trans h) (by decide), fun _ => ?_⟩)
        | (refine ⟨fun h => absurd (e1.symm.trans h) (by decide), fun _ => ?_⟩)
        | (refine ⟨fun h => absurd (e2.symm.trans h) (by decide), fun _ => ?_⟩)
        | (refine ⟨fun h => absurd (e3.symm.trans h) (by decide), fun _ => ?_⟩)
        | (refine ⟨fun h => absurd (e4.symm.trans h) (by decide), fun _ => ?_⟩)
        | (refine ⟨fun _ => ?_, fun h => absurd (e5.symm.trans h) (by decide)⟩)
        | (refine ⟨fun h => absurd (e6.symm.trans h) (by decide), fun _ => ?_⟩)
        | (refine ⟨fun h => absurd (e7.symm.trans h) (by decide), fun _ => ?_⟩)
        | (refine ⟨fun h => absurd (hgt.symm.trans h) (by decide), fun _ => ?_⟩)
        | (refine ⟨fun _ => ?_, fun h => Bool.noConfusion (show true = false from h)⟩)
        | (refine ⟨fun h => Bool.noConfusion (show false = true from h), fun _ => ?_⟩)
        | (refine And.intro ?_ ?_)
  · have hcc := hc
    have e0 : (how.tmod 8 == 0) = false := by rw [hc]; rfl
    have e1 : (how.tmod 8 == 1) = false := by rw [hc]; rfl
    have e2 : (how.tmod 8 == 2) = false := by rw [hc]; rfl
    have e3 : (how.tmod 8 == 3) = false := by rw [hc]; rfl
    have e4 : (how.tmod 8 == 4) = false := by rw [hc]; rfl
    have e5 : (how.tmod 8 == 5) = false := by rw [hc]; rfl
    have e6 : (how.tmod 8 == 6) = true := by rw [hc]; rfl
    have e7 : (how.tmod 8 == 7) = false := by rw [hc]; rfl
    by_cases hn : 0 < s.sags.length
    · have hgt : decide (((s.sags.map sagA).length : Nat) > (0 : Int)) = true := by rw [List.length_map]; exact decide_eq_true (by omega)
      obtain ⟨hn0, hm0, a, hg⟩ := at_raw (f := sagA) hn ha
      have hx := map_of (f := sagA) hg
      have hend : K (staO (s.accs.map accA) (s.pays.map payA) ((s.sags.map sagA) ++ [sagA a]) (s.kns.map knoA) s.now) [] := by
        have e : ((s.sags.map sagA) ++ [sagA a]) = (s.sags ++ [a]).map sagA := by rw [List.map_append]; rfl
        rw [e]
        exact hK ⟨s.accs, s.pays, s.sags ++ [a], s.kns, s.now⟩ ⟨rfl, rfl, by show (s.sags ++ [a]).length ≤ _; simp, Nat.le_succ _, fun h => absurd (hc.symm.trans h) (by decide), fun h => absurd (hc.symm.trans h) (by decide)⟩
      repeat' first
        | (exact hend)
        | (refine ⟨d8, ?_⟩)
        | (refine ⟨fun h => absurd (e0.symm.trans h) (by decide), fun _ => ?_⟩)
        | (refine ⟨fun h => absurd (e1.symm.trans h) (by decide), fun _ => ?_⟩)
        | (refine ⟨fun h => absurd (e2.symm.trans h) (by decide), fun _ => ?_⟩)
        | (refine ⟨fun h => absurd (e3.symm.trans h) (by decide), fun _ => ?_⟩)
        | (refine ⟨fun h => absurd (e4.symm.trans h) (by decide), fun _ => ?_⟩)
        | (refine ⟨fun h => absurd (e5.symm.trans h) (by decide), fun _ => ?_⟩)
        | (refine ⟨fun _ => ?_, fun h => absurd (e6.symm.trans h) (by decide)⟩)
        | (refine ⟨hn0, ?_⟩)
        | (refine ⟨_, hm0, hx, ?_⟩)
        | (refine ⟨bG1, ?_⟩)
        | (refine ⟨fun _ => ?_, fun h => absurd (hgt.symm.trans h) (by decide)⟩)
        | (refine ⟨fun _ => ?_, fun h => Bool.noConfusion (show true = false from h)⟩)
        | (refine ⟨fun h => Bool.noConfusion (show false = true from h), fun _ => ?_⟩)
        | (refine And.intro ?_ ?_)
    · have hgt : decide (((s.sags.map sagA).length : Nat) > (0 : Int)) = false := by rw [List.length_map]; exact decide_eq_false (by omega)
      have hend : K (staO' s) [] := hK s ⟨rfl, rfl, Nat.le_succ _, Nat.le_succ _, fun h => absurd (hc.symm.trans h) (by decide), fun h => absurd (hc.symm.trans h) (by decide)⟩
      repeat' first
        | (exact hend)
        | (refine ⟨d8, ?_⟩)
        | (refine ⟨fun h => absurd (e0.symm.trans h) (by decide), fun _ => ?_⟩)
        | (refine ⟨fun h => absurd (e1.symm.trans h) (by decide), fun _ => ?_⟩)
        | (refine ⟨fun h => absurd (e2.symm.trans h) (by decide), fun _ => ?_⟩)
        | (refine ⟨fun h => absurd (e3.symm.trans h) (by decide), fun _ => ?_⟩)
        | (refine ⟨fun h => absurd (e4.symm.trans h) (by decide), fun _ => ?_⟩)
        | (refine ⟨fun h => absurd (e5.symm.trans h) (by decide), fun _ => ?_⟩)
        | (refine ⟨fun _ => ?_, fun h => absurd (e6.symm.trans h) (by decide)⟩)
        | (refine ⟨fun h => absurd (e7.symm.trans h) (by decide), fun _ => ?_⟩)
        | (refine ⟨fun h => absurd (hgt.symm.trans h) (by decide), fun _ => ?_⟩)
        | (refine ⟨fun _ => ?_, fun h => Bool.noConfusion (show true = false from h)⟩)
        | (refine ⟨fun h => Bool.noConfusion (show false = true from h), fun _ => ?_⟩)
        | (refine And.intro ?_ ?_)
  · have hcc := hc
    have e0 : (how.tmod 8 == 0) = false := by rw [hc]; rfl
    have e1 : (how.tmod 8 == 1) = false := by rw [hc]; rfl
    have e2 : (how.tmod 8 == 2) = false := by rw [hc]; rfl
    have e3 : (how.tmod 8 == 3) = false := by rw [hc]; rfl
    have e4 : (how.tmod 8 == 4) = false := by rw [hc]; rfl
    have e5 : (how.tmod 8 == 5) = false := by rw [hc]; rfl
    have e6 : (how.tmod 8 == 6) = false := by rw [hc]; rfl
    have e7 : (how.tmod 8 == 7) = true := by rw [hc]; rfl
    by_cases hn : 0 < s.pays.length
    · have hgt : decide (((s.pays.map payA).length : Nat) > (0 : Int)) = true := by rw [List.length_map]; exact decide_eq_true (by omega)
      obtain ⟨hn0, hm0, a, hg⟩ := at_raw (f := payA) hn ha
      have hx := map_of (f := payA) hg
      have hput : ((s.pays.map payA).modify (((IntKind.i64.wrap at_).tmod (((s.pays.map payA).length : Nat) : Int)).toNat) (fun x => x.ofCells (putCells x.cells 1 [.int .i64 ((IntKind.i64.wrap at_).tmod 20)]))) = (s.pays.set (((IntKind.i64.wrap at_).tmod (((s.pays.map payA).length : Nat) : Int)).toNat) ⟨a.src, (IntKind.i64.wrap at_).tmod 20, a.auth, a.capt, a.refu, a.chrg, a.til, a.stage⟩).map payA := modify_mapG hg _ _ rfl
      have hend : K (staO (s.accs.map accA) ((s.pays.map payA).modify (((IntKind.i64.wrap at_).tmod (((s.pays.map payA).length : Nat) : Int)).toNat) (fun x => x.ofCells (putCells x.cells 1 [.int .i64 ((IntKind.i64.wrap at_).tmod 20)]))) (s.sags.map sagA) (s.kns.map knoA) s.now) [] := by
        rw [hput]
        exact hK ⟨s.accs, s.pays.set (((IntKind.i64.wrap at_).tmod (((s.pays.map payA).length : Nat) : Int)).toNat) ⟨a.src, (IntKind.i64.wrap at_).tmod 20, a.auth, a.capt, a.refu, a.chrg, a.til, a.stage⟩, s.sags, s.kns, s.now⟩ ⟨rfl, List.length_set .., Nat.le_succ _, Nat.le_succ _, fun h => absurd (hc.symm.trans h) (by decide), fun h => absurd (hc.symm.trans h) (by decide)⟩
      repeat' first
        | (exact hend)
        | (refine ⟨d8, ?_⟩)
        | (refine ⟨fun h => absurd (e0.symm.trans h) (by decide), fun _ => ?_⟩)
        | (refine ⟨fun h => absurd (e1.symm.trans h) (by decide), fun _ => ?_⟩)
        | (refine ⟨fun h => absurd (e2.symm.trans h) (by decide), fun _ => ?_⟩)
        | (refine ⟨fun h => absurd (e3.symm.trans h) (by decide), fun _ => ?_⟩)
        | (refine ⟨fun h => absurd (e4.symm.trans h) (by decide), fun _ => ?_⟩)
        | (refine ⟨fun h => absurd (e5.symm.trans h) (by decide), fun _ => ?_⟩)
        | (refine ⟨fun h => absurd (e6.symm.trans h) (by decide), fun _ => ?_⟩)
        | (refine ⟨fun _ => ?_, fun h => absurd (e7.symm.trans h) (by decide)⟩)
        | (refine ⟨hn0, ?_⟩)
        | (refine ⟨_, hm0, hx, ?_⟩)
        | (refine ⟨d20, ?_⟩)
        | (refine ⟨fun _ => ?_, fun h => absurd (hgt.symm.trans h) (by decide)⟩)
        | (refine ⟨fun _ => ?_, fun h => Bool.noConfusion (show true = false from h)⟩)
        | (refine ⟨fun h => Bool.noConfusion (show false = true from h), fun _ => ?_⟩)
        | (refine And.intro ?_ ?_)
    · have hgt : decide (((s.pays.map payA).length : Nat) > (0 : Int)) = false := by rw [List.length_map]; exact decide_eq_false (by omega)
      have hend : K (staO' s) [] := hK s ⟨rfl, rfl, Nat.le_succ _, Nat.le_succ _, fun h => absurd (hc.symm.trans h) (by decide), fun h => absurd (hc.symm.trans h) (by decide)⟩
      repeat' first
        | (exact hend)
        | (refine ⟨d8, ?_⟩)
        | (refine ⟨fun h => absurd (e0.symm.trans h) (by decide), fun _ => ?_⟩)
        | (refine ⟨fun h => absurd (e1.symm.trans h) (by decide), fun _ => ?_⟩)
        | (refine ⟨fun h => absurd (e2.symm.trans h) (by decide), fun _ => ?_⟩)
        | (refine ⟨fun h => absurd (e3.symm.trans h) (by decide), fun _ => ?_⟩)
        | (refine ⟨fun h => absurd (e4.symm.trans h) (by decide), fun _ => ?_⟩)
        | (refine ⟨fun h => absurd (e5.symm.trans h) (by decide), fun _ => ?_⟩)
        | (refine ⟨fun h => absurd (e6.symm.trans h) (by decide), fun _ => ?_⟩)
        | (refine ⟨fun _ => ?_, fun h => absurd (e7.symm.trans h) (by decide)⟩)
        | (refine ⟨fun h => absurd (hgt.symm.trans h) (by decide), fun _ => ?_⟩)
        | (refine ⟨fun _ => ?_, fun h => Bool.noConfusion (show true = false from h)⟩)
        | (refine ⟨fun h => Bool.noConfusion (show false = true from h), fun _ => ?_⟩)
        | (refine And.intro ?_ ?_)
theorem spoil_ok : FnOk Tryz.prog tab 29 spoilC := spoil_ok0.frz.mono (by
  rintro args bs K ⟨rfl, s, how, at_, rfl, hz, hh, ha, hK⟩
  exact ⟨rfl, rfl, s, how, at_, rfl, hz, hh, ha, fun t ht => ⟨staA t, by kernel_rfl, hK t ht⟩⟩)
/-! ### AuditOne -/
theorem EngG.sp {s : Sta} (h : EngG s) : SpZ s := ⟨by have := h.g.acs.n; omega, h.e.z.la, h.e.z.lp, by have := h.e.z.ls; omega, by have := h.e.z.lk; omega⟩
theorem SpS.small {s t : Sta} {how : Int} (hz : SpZ s) (h : SpS s how t) : Small t := by
  have := h.la; have := h.lp; have := h.ls; have := h.lk
  have := hz.la; have := hz.lp; have := hz.ls; have := hz.lk
  exact ⟨by omega, by omega, by omega, by omega, by omega⟩
theorem spoil_bal {X : Int} {s t : Sta} (hG : EngG s) (hB : EngB X s) (hX : X ≤ 1000000000000000) {k : Nat} {a : Acc} (ha : s.accs[k]? = some a) (ht : t = withA s (s.accs.set k ⟨a.cur, w64 (a.bal + 1), a.held⟩)) : ∃ r, faults t = 1 :: r := by
  have hR := hG.g.acs.ok k a ha
  have hbl := hB.bx k a ha
  have hw : w64 (a.bal + 1) = a.bal + 1 := w64_of (by omega) (by omega)
  have hl := hG.e.z.la
  have hz : zeroT (sumsL t.accs) = false := by
    have hb : ∀ x ∈ t.accs, BalB x.bal := fun x hx => by
      rw [ht] at hx
      rcases List.mem_or_eq_of_mem_set hx with hx | rfl
      · obtain ⟨i, hi⟩ := List.mem_iff_getElem?.1 hx
        exact (hG.g.acs.ok i x hi).b
      · show BalB (w64 (a.bal + 1))
        rw [hw]; exact ⟨by omega, by omega⟩
    have hlen : t.accs.length ≤ 64 := by rw [ht]; show (s.accs.set _ _).length ≤ 64; rw [List.length_set]; exact hl
    unfold sumsL
    rw [sums_fold (X := 0) hb ⟨by decide, by decide⟩ ⟨by decide, by decide⟩ ⟨by decide, by decide⟩ (by omega)]
    have cur : ∀ c, 0 ≤ c → c ≤ 2 → curBal t.accs c = if a.cur = c then 1 else 0 := fun c c0 c2 => by
      rw [ht]
      show curBal (s.accs.set k _) c = _
      unfold curBal
      rw [sumI_set (balIn c) _ ha]
      have := hG.g.acs.sum c c0 c2
      unfold curBal at this
      rw [this, hw]
      unfold balIn
      simp only
      split <;> omega
    rw [cur 0 (by decide) (by decide), cur 1 (by decide) (by decide), cur 2 (by decide) (by decide)]
    obtain ⟨c0, c2⟩ := hR.c
    have hc : a.cur = 0 ∨ a.cur = 1 ∨ a.cur = 2 := by omega
    rcases hc with hc | hc | hc <;> rw [hc] <;> rfl
  refine ⟨faultsOf ((cks t).tail), ?_⟩
  unfold faults cks
  rw [hz]
  rfl
theorem spoil_held {s t : Sta} (hG : EngG s) {k : Nat} {a : Acc} (ha : s.accs[k]? = some a) (ht : t = withA s (s.accs.set k ⟨a.cur, a.bal, w64 (a.held + 1)⟩)) : (5 : Int) ∈ faults t := by
  have hR := (hG.g.acs.ok k a ha).held
  have hw : w64 (a.held + 1) = a.held + 1 := w64_of (by omega) (by omega)
  have hH : heldL t = heldL s := by
    rw [ht]
    unfold heldL
    show List.foldl addG (List.foldl addP (List.replicate (s.accs.set k _).length 0) s.pays) s.sags = _
    rw [List.length_set]
  have hf : holdsOk t = false := by
    unfold holdsOk
    rw [hH, heldL_of hG.g]
    refine decide_eq_false fun e => ?_
    have := congrArg (fun l => l[k]?) e
    rw [ht] at this
    simp only [List.getElem?_map] at this
    rw [show (withA s (s.accs.set k ⟨a.cur, a.bal, w64 (a.held + 1)⟩)).accs[k]? = some ⟨a.cur, a.bal, w64 (a.held + 1)⟩ by
      show (s.accs.set k _)[k]? = _
      rw [List.getElem?_set, if_pos rfl, if_pos (List.getElem?_eq_some_iff.1 ha).1], ha] at this
    have : w64 (a.held + 1) = a.held := by simpa using this
    omega
  unfold faults faultsOf
  refine List.mem_map.2 ⟨(false, 5), List.mem_filter.2 ⟨?_, rfl⟩, rfl⟩
  unfold cks
  rw [hf]
  simp
def aoneC (args : List AV) (bs : List Box) (K : AV → List Box → Prop) : Prop := bs = [] ∧ ∃ (b : Book) (ps : List Paid) (l : List Act) (at_ : Int), args = [bkA b, padS ps, actsS l, .int .u8 at_] ∧ b.Ok ∧ (∀ p ∈ ps, p.In) ∧ ps.length ≤ 1999900 ∧ (∀ a ∈ l, a.In) ∧ l.length ≤ 1999900 ∧ u8I at_ ∧ K (.bool true) []
def RAO : Contract
  | 27 => awakeC
  | 15 => someC
  | 29 => spoilC
  | 28 => checkC
  | _ => fun _ _ _ => False
theorem RAO_ok : CallOk Tryz.prog tab RAO := by
  intro f args bs K h
  unfold RAO at h
  split at h
  · exact ⟨_, h, awake_ok⟩
  · exact ⟨_, h, some_ok⟩
  · exact ⟨_, h, spoil_ok⟩
  · exact ⟨_, h, check_ok⟩
  · exact h.elim
def RAO_E (pl : Nat → Plan) : En := ⟨tab, RAO, fun _ => none, 0, pl⟩
theorem RAO_J (pl : Nat → Plan) : JOk Tryz.prog (RAO_E pl).T (RAO_E pl).J := fun _ _ h => by cases h
set_option maxRecDepth 200000 in
set_option maxHeartbeats 12800000 in
theorem aone_ok : FnOk Tryz.prog tab 11 aoneC := by
  refine fn_ok (E := RAO_E pl11) tab_is RAO_ok (RAO_J _) Tryz.func11 rfl rfl (by kernel_rfl) ?_
  rintro args bs K ⟨rfl, b, ps, l, at_, rfl, hb, hps, hpl, hl, hll, ha, hK⟩
  refine ⟨rfl, ?_⟩
  refine ⟨rfl, rfl, ?_⟩
  refine ⟨fun h => Bool.noConfusion (show false = true from h), fun _ => ?_⟩
  refine ⟨rfl, b, ps, l, rfl, hb, hps, hpl, hl, hll, ?_⟩
  obtain ⟨hG, hB⟩ := some_GB hb hps hpl hl
  have hX : (600000 : Int) + 1600000 * l.length ≤ 1000000000000000 := by omega
  generalize (600000 : Int) + 1600000 * l.length = X at hB hX
  generalize someM b ps l = s at hG hB ⊢
  have hz := hG.sp
  refine ⟨rfl, s, 0, at_, rfl, hz, ⟨by decide, by decide⟩, ha, fun t ht => ?_⟩
  have st := ht.small hz
  obtain ⟨k, a, hk, hte⟩ := ht.z rfl
  obtain ⟨r, hr⟩ := spoil_bal hG hB hX hk hte
  refine ⟨rfl, t, rfl, st, ?_⟩
  rw [hr]
  refine ⟨rfl, s, 1, at_, rfl, hz, ⟨by decide, by decide⟩, ha, fun u hu => ?_⟩
  have su := hu.small hz
  obtain ⟨k2, a2, hk2, hue⟩ := hu.o rfl
  have h5 := spoil_held hG hk2 hue
  have h6 := faults_len u
  refine ⟨rfl, u, rfl, su, ?_⟩
  have c1 : ((((iA (1 :: r)).length : Nat) : Int) == 0) = false := by rw [iA_len, List.length_cons]; exact decide_eq_false (by omega)
  have hx0 : (iA (1 :: r))[(0 : Int).toNat]? = some (.int .i64 1) := rfl
  refine ⟨fun h => absurd (c1.symm.trans h) (by decide), fun _ => ?_⟩
  refine ⟨_, Int.le_refl 0, hx0, ?_⟩
  refine ⟨fun h => Bool.noConfusion (show false = true from h), fun _ => ?_⟩
  generalize faults u = y at h5 h6 ⊢
  refine ⟨fun mm st => ∃ (i : Nat), (i ≤ y.length ∧ (5 : Int) ∉ y.take i) ∧ y.length - i = mm ∧ st.t 37 = .sl .fz 86 (iA y) ∧ st.t 38 = .int .i64 ((iA y).length : Nat) ∧ st.t 39 = .int .i64 i,
    ⟨_, 0, ⟨Nat.zero_le _, by simp⟩, rfl, rfl, rfl, rfl⟩, ?_⟩
  rintro _ ⟨t1, h1⟩ ⟨i, ⟨hi, hX⟩, rfl, e37, e38, e39⟩
  have e37 : t1 37 = .sl .fz 86 (iA y) := e37
  have e38 : t1 38 = .int .i64 ((iA y).length : Nat) := e38
  have e39 : t1 39 = .int .i64 i := e39
  rw [← updL_has t1 [(37, .sl .fz 86 (iA y)), (38, .int .i64 ((iA y).length : Nat)), (39, .int .i64 i)] ⟨e37, e38, e39, trivial⟩]
  constructor
  · intro hb'
    have hi' : i < y.length := by have := decT hb'; rw [iA_len] at this; omega
    have w : IntKind.i64.wrap ((i : Int) + 1) = ((i + 1 : Nat) : Int) := by rw [wrap_of] <;> omega
    have hlt : y.length - (i + 1) < y.length - i := by omega
    obtain ⟨x, hx⟩ : ∃ x, y[i]? = some x := ⟨_, List.getElem?_eq_getElem hi'⟩
    refine ⟨_, Int.natCast_nonneg i, (by rw [show ((i : Nat) : Int).toNat = i by omega]; exact iA_of hx), ?_⟩
    refine ⟨fun _ => hK, fun hne => ?_⟩
    have hne : ¬ x = 5 := beqF hne
    refine ⟨_, hlt, i + 1, ⟨hi', ?_⟩, rfl, rfl, rfl, congrArg (AV.int .i64) w⟩
    rw [List.take_add_one, hx]
    simp only [Option.toList_some, List.mem_append, List.mem_singleton, not_or]
    exact ⟨hX, fun e => hne e.symm⟩
  · intro hb'
    have hi' : i = y.length := by have := decF hb'; rw [iA_len] at this; omega
    rw [hi', List.take_length] at hX
    exact absurd h5 hX
/-! ### AuditSpoilt -/
def aspoC (args : List AV) (bs : List Box) (K : AV → List Box → Prop) : Prop := bs = [] ∧ ∃ (b : Book) (ps : List Paid) (l : List Act) (how at_ again : Int), args = [bkA b, padS ps, actsS l, .int .u8 how, .int .u8 at_, .int .u8 again] ∧ b.Ok ∧ (∀ p ∈ ps, p.In) ∧ ps.length ≤ 1999900 ∧ (∀ a ∈ l, a.In) ∧ l.length ≤ 1999900 ∧ u8I how ∧ u8I at_ ∧ u8I again ∧ K (.bool true) []
theorem SpS.z' {s t : Sta} {how : Int} (hz : SpZ s) (hs : s.sags.length ≤ 16) (hk : s.kns.length ≤ 256) (h : SpS s how t) : SpZ t := ⟨by rw [h.la]; exact hz.a0, by rw [h.la]; exact hz.la, by rw [h.lp]; exact hz.lp, by have := h.ls; omega, by have := h.lk; omega⟩
theorem take_eq_next {l m : List Int} {i : Nat} {x y : Int} (hx : l[i]? = some x) (hy : m[i]? = some y) : decide (l.take (i + 1) = m.take (i + 1)) = (decide (l.take i = m.take i) && (x == y)) := by
  rw [List.take_add_one, hx, List.take_add_one, hy]
  have hl := (List.getElem?_eq_some_iff.1 hx).1
  have hm := (List.getElem?_eq_some_iff.1 hy).1
  have : (l.take i ++ (some x).toList = m.take i ++ (some y).toList) ↔ (l.take i = m.take i ∧ x = y) := by
    constructor
    · intro h
      obtain ⟨h1, h2⟩ := List.append_inj h (by simp; omega)
      exact ⟨h1, by simpa using h2⟩
    · rintro ⟨h1, h2⟩
      rw [h1, h2]
  rw [show decide (l.take i ++ (some x).toList = m.take i ++ (some y).toList) = decide (l.take i = m.take i ∧ x = y) from decide_eq_decide.2 this]
  by_cases h1 : l.take i = m.take i <;> by_cases h2 : x = y <;> simp [h1, h2]
def RAS : Contract
  | 27 => awakeC
  | 15 => someC
  | 29 => spoilC
  | 30 => heldC
  | 31 => heldC
  | 28 => checkC
  | 33 => refC
  | 32 => sameC
  | 34 => quietC
  | _ => fun _ _ _ => False
theorem RAS_ok : CallOk Tryz.prog tab RAS := by
  intro f args bs K h
  unfold RAS at h
  split at h
  · exact ⟨_, h, awake_ok⟩
  · exact ⟨_, h, some_ok⟩
  · exact ⟨_, h, spoil_ok⟩
  · exact ⟨_, h, held_ok⟩
  · exact ⟨_, h, heldR_okL⟩
  · exact ⟨_, h, check_ok⟩
  · exact ⟨_, h, refck_ok⟩
  · exact ⟨_, h, same_ok⟩
  · exact ⟨_, h, quiet_ok⟩
  · exact h.elim
def RAS_E (pl : Nat → Plan) : En := ⟨tab, RAS, fun _ => none, 0, pl⟩
theorem RAS_J (pl : Nat → Plan) : JOk Tryz.prog (RAS_E pl).T (RAS_E pl).J := fun _ _ h => by cases h
set_option maxRecDepth 200000 in
set_option maxHeartbeats 25600000 in
theorem aspo_ok : FnOk Tryz.prog tab 10 aspoC := by
  refine fn_ok (E := RAS_E pl10) tab_is RAS_ok (RAS_J _) Tryz.func10 rfl rfl (by kernel_rfl) ?_
  rintro args bs K ⟨rfl, b, ps, l, how, at_, again, rfl, hb, hps, hpl, hl, hll, hho, ha, hag, hK⟩
  refine ⟨rfl, ?_⟩
  have fin : ∀ c, c = true → K (.bool c) [] := fun c e => e ▸ hK
  refine ⟨rfl, rfl, ?_⟩
  refine ⟨fun h => Bool.noConfusion (show false = true from h), fun _ => ?_⟩
  refine ⟨rfl, b, ps, l, rfl, hb, hps, hpl, hl, hll, ?_⟩
  have hG := (some_GB hb hps hpl hl).1
  generalize someM b ps l = s at hG ⊢
  have hz := hG.sp
  refine ⟨rfl, s, how, at_, rfl, hz, hho, ha, fun t0 ht0 => ?_⟩
  have hz1 := ht0.z' hz hG.e.z.ls hG.e.z.lk
  refine ⟨rfl, t0, again, at_, rfl, hz1, hag, ha, fun t ht => ?_⟩
  have st := ht.small hz1
  have hla : t.accs.length ≤ 64 := by rw [ht.la]; exact hz1.la
  have h6 := faults_len t
  refine ⟨rfl, t, rfl, st, ?_⟩
  refine ⟨rfl, t, rfl, st, ?_⟩
  have c1 : ((((iA (heldL t)).length : Nat) : Int) != ((iA (heldL t)).length : Nat)) = false := by simp
  refine ⟨fun h => absurd (c1.symm.trans h) (by decide), fun _ => ?_⟩
  have q0 : ((((t.sags.map sagA).length : Nat) : Int) == 0) = decide (t.sags.length = 0) := by
    rw [List.length_map]
    by_cases h : t.sags.length = 0
    · simp [h]
    · rw [decide_eq_false h]; exact decide_eq_false (by omega)
  refine ⟨fun mm st => ∃ (i : Nat) (q : Bool), (i ≤ t.accs.length ∧ q = (decide (t.sags.length = 0) && decide ((t.accs.map (·.held)).take i = (heldL t).take i))) ∧ t.accs.length - i = mm ∧ st.t 14 = .sl .fz 3 (iA (heldL t)) ∧ st.t 44 = .int .i64 ((iA (heldL t)).length : Nat) ∧ st.t 45 = .int .i64 i ∧ st.t 15 = .sl .fz 3 (iA (heldL t)) ∧ st.t 16 = .bool q ∧ st.t 13 = .ptr 13 0 ∧ st.h 13 = staB t,
    ⟨_, 0, _, ⟨Nat.zero_le _, by rw [q0]; simp⟩, rfl, rfl, rfl, rfl, rfl, rfl, rfl, rfl⟩, ?_⟩
  rintro _ ⟨t1, h1⟩ ⟨i, q, ⟨hi, hq⟩, rfl, e14, e44, e45, e15, e16, e13, b13⟩
  have e14 : t1 14 = .sl .fz 3 (iA (heldL t)) := e14
  have e44 : t1 44 = .int .i64 ((iA (heldL t)).length : Nat) := e44
  have e45 : t1 45 = .int .i64 i := e45
  have e15 : t1 15 = .sl .fz 3 (iA (heldL t)) := e15
  have e16 : t1 16 = .bool q := e16
  have e13 : t1 13 = .ptr 13 0 := e13
  have b13 : h1 13 = staB t := b13
  rw [← updL_has t1 [(14, .sl .fz 3 (iA (heldL t))), (44, .int .i64 ((iA (heldL t)).length : Nat)), (45, .int .i64 i), (15, .sl .fz 3 (iA (heldL t))), (16, .bool q), (13, .ptr 13 0)] ⟨e14, e44, e45, e15, e16, e13, trivial⟩, ← updL_has h1 [(13, staB t)] ⟨b13, trivial⟩]
  constructor
  · intro hb'
    have hi' : i < t.accs.length := by have := decT hb'; rw [iA_len, heldL_len] at this; omega
    have w : IntKind.i64.wrap ((i : Int) + 1) = ((i + 1 : Nat) : Int) := by rw [wrap_of] <;> omega
    have hlt : t.accs.length - (i + 1) < t.accs.length - i := by omega
    obtain ⟨a, hx⟩ : ∃ x, t.accs[i]? = some x := ⟨_, List.getElem?_eq_getElem hi'⟩
    obtain ⟨y, hy⟩ : ∃ y, (heldL t)[i]? = some y := ⟨_, List.getElem?_eq_getElem (by rw [heldL_len]; exact hi')⟩
    have hy1 : (iA (heldL t))[((i : Nat) : Int).toNat]? = some (.int .i64 y) := by rw [show ((i : Nat) : Int).toNat = i by omega]; exact iA_of hy
    have hne : (y != y) = false := by simp
    have hq2 := take_eq_next (l := t.accs.map (·.held)) (m := heldL t) (i := i) (x := a.held) (by rw [List.getElem?_map, hx]; rfl) hy
    refine ⟨_, Int.natCast_nonneg i, hy1, ?_⟩
    refine ⟨_, Int.natCast_nonneg i, hy1, ?_⟩
    refine ⟨fun h => absurd (hne.symm.trans h) (by decide), fun _ => ?_⟩
    refine ⟨fun hq1 => ?_, fun hq1 => ?_⟩
    · refine ⟨_, Int.natCast_nonneg i, map_of hx, ?_⟩
      refine ⟨_, Int.natCast_nonneg i, hy1, ?_⟩
      exact ⟨_, hlt, i + 1, (a.held == y), ⟨hi', by rw [hq2, ← Bool.and_assoc, ← hq, hq1, Bool.true_and]⟩, rfl, rfl, rfl, congrArg (AV.int .i64) w, rfl, rfl, rfl, rfl⟩
    · exact ⟨_, hlt, i + 1, false, ⟨hi', by rw [hq2, ← Bool.and_assoc, ← hq, hq1, Bool.false_and]⟩, rfl, rfl, rfl, congrArg (AV.int .i64) w, rfl, rfl, rfl, rfl⟩
  · intro hb'
    have hi' : i = t.accs.length := by have := decF hb'; rw [iA_len, heldL_len] at this; omega
    have hqq : quietB t = q := by
      rw [hq, hi']
      unfold quietB holdsOk
      rw [List.take_of_length_le (by rw [List.length_map]; exact Nat.le_refl _), List.take_of_length_le (by rw [heldL_len]; exact Nat.le_refl _)]
    have hs : decide (faults t = faults t) = true := by simp
    refine ⟨rfl, t, rfl, st, ?_⟩
    refine ⟨rfl, t, rfl, st, ?_⟩
    refine ⟨rfl, faults t, faults t, rfl, by omega, by omega, ?_⟩
    rw [hs]
    refine ⟨fun _ => ?_, fun h => Bool.noConfusion (show true = false from h)⟩
    refine ⟨rfl, t, rfl, st, ?_⟩
    exact fin _ (by rw [hqq]; simp)
end Go.Proofs.YtjffmldlkofpaaaGreatDoor.A
