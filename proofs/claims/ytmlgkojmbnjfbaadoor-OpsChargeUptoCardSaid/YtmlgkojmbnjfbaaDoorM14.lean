/- OpsCharge. -/
import Derived.Test.YtmlgkojmbnjfbaaDoorM11
import Derived.Test.YtmlgkojmbnjfbaaDoorX2
namespace Go.Proofs.YtmlgkojmbnjfbaaDoor.A
open Go Q
def chargeLC (args : List AV) (bs : List Box) (K : AV → List Box → Prop) : Prop := bs = [] ∧ ∃ (b : Book) (ps : List Paid) (k n : Int), args = [bkA b, padS ps, .int .u8 k, .int .u8 n] ∧ b.Ok ∧ (∀ p ∈ ps, p.In) ∧ ps.length ≤ 1999900 ∧ u8I k ∧ u8I n ∧ K (.bool true) []
def RCl5 : Contract
  | 8 => awakeC15
  | 9 => stateC
  | 10 => doC
  | 12 => sameSC
  | 13 => gaveC
  | 14 => freeC
  | _ => fun _ _ _ => False
theorem RCl5_ok : CallOk Tryd.prog tab RCl5 := by
  intro f args bs K h
  unfold RCl5 at h
  split at h
  · exact ⟨_, h, awake15_ok⟩
  · exact ⟨_, h, state_ok⟩
  · exact ⟨_, h, do_ok⟩
  · exact ⟨_, h, sameS_ok⟩
  · exact ⟨_, h, gave_ok⟩
  · exact ⟨_, h, free_ok⟩
  · exact h.elim
def RCl5_E (pl : Nat → Plan) : En := ⟨tab, RCl5, fun _ => none, 0, pl⟩
theorem RCl5_J (pl : Nat → Plan) : JOk Tryd.prog (RCl5_E pl).T (RCl5_E pl).J := fun _ _ h => by cases h
set_option maxRecDepth 200000 in
set_option maxHeartbeats 6400000 in
theorem chargeL_ok : FnOk Tryd.prog tab 4 chargeLC := by
  refine fn_ok (E := RCl5_E pl4) tab_is RCl5_ok (RCl5_J _) Tryd.func4 rfl rfl (by kernel_rfl) ?_
  rintro args bs K ⟨rfl, b, ps, k, n, rfl, hb, hps, hpl, hk, hn, hK⟩
  refine ⟨rfl, ?_⟩
  refine ⟨rfl, rfl, ?_⟩
  refine ⟨fun h => Bool.noConfusion (show false = true from h), fun _ => ?_⟩
  refine ⟨rfl, b, ps, 0, rfl, hb.toIn, hps, hpl, ?_⟩
  have hI := state_I 0 hb hps
  have hz := state_sz 0 hb hps hpl
  generalize stateM b ps 0 = s at hI hz ⊢
  refine ⟨fun _ => hK, fun hlen => ?_⟩
  have hlen : ¬ s.pays.length = 0 := fun e => by
    have h : ¬ (((s.pays.map payA).length : Nat) : Int) = 0 := by simpa using hlen
    rw [List.length_map, e] at h
    exact h rfl
  have hne : (((s.pays.map payA).length : Nat) : Int) ≠ 0 := by rw [List.length_map]; omega
  have wk : w64 k = k := w64_of (by omega) (by omega)
  obtain ⟨i, hi⟩ : ∃ i : Nat, (IntKind.i64.wrap k).tmod (((s.pays.map payA).length : Nat) : Int) = (i : Int) := by
    have e : IntKind.i64.wrap k = k := wk
    rw [e, List.length_map]
    obtain ⟨q1, q2⟩ := tmod_in hk.1 (show (0 : Int) < (s.pays.length : Nat) by omega)
    exact ⟨(k.tmod (s.pays.length : Nat)).toNat, by omega⟩
  have hil : i < s.pays.length := by
    have e : IntKind.i64.wrap k = k := wk
    rw [e, List.length_map] at hi
    obtain ⟨q1, q2⟩ := tmod_in hk.1 (show (0 : Int) < (s.pays.length : Nat) by omega)
    omega
  obtain ⟨p, hp⟩ : ∃ p, s.pays[i]? = some p := ⟨_, List.getElem?_eq_getElem hil⟩
  have hPI := hI.p p (List.mem_of_getElem? hp)
  have hraw0 : 0 ≤ (IntKind.i64.wrap k).tmod (((s.pays.map payA).length : Nat) : Int) := by omega
  have hpr : (s.pays.map payA)[((IntKind.i64.wrap k).tmod (((s.pays.map payA).length : Nat) : Int)).toNat]? = some (payA p) := by
    rw [hi]; exact map_of hp
  have hN : IntKind.i64.wrap (1 + IntKind.i64.wrap n) = 1 + n := by
    have e : IntKind.i64.wrap n = n := wrap_of (by omega) (by omega)
    rw [e]; exact wrap_of (by omega) (by omega)
  have wn : IntKind.i64.wrap n = n := wrap_of (by omega) (by omega)
  refine ⟨hne, ?_⟩
  refine ⟨_, hraw0, hpr, ?_⟩
  refine ⟨rfl, s, ⟨0, 7, (IntKind.i64.wrap k).tmod (((s.pays.map payA).length : Nat) : Int), 0, IntKind.i64.wrap (1 + IntKind.i64.wrap n), 0, 0⟩, rfl, hz, ?_⟩
  rw [hi, hN]
  obtain ⟨a, ha, ca, a1, a2, a3, fa⟩ := free_lt hI hPI.s
  obtain ⟨c, hc, cc, c1, c2, c3, fc⟩ := free_lt hI hPI.d
  have hs0 : 0 ≤ p.src := by have := hPI.s; omega
  have hd0 : 0 ≤ p.dst := by have := hPI.d; omega
  rcases charge_law hI hp (n := 1 + n) (by omega) with ⟨e, e0, hdo, hwhy⟩ | ⟨l, hdo, hl15, hbal, hfree⟩
  · rw [hdo]
    have hne0 : (e != 0) = true := by simpa using e0
    rw [accAt_of ha, accAt_of hc] at hwhy
    refine ⟨fun _ => ?_, fun h => absurd (hne0.symm.trans h) (by decide)⟩
    have hcur : ¬ 1 + n > gave p → (a.cur != c.cur) = true := fun h => by
      rcases hwhy with h1 | h1
      · exact absurd h1 h
      · simpa using h1
    refine ⟨rfl, s, s, rfl, hz, fun _ => ?_, fun h => absurd ⟨rfl, rfl, rfl⟩ h⟩
    refine ⟨fun _ => ?_, fun h => Bool.noConfusion (show true = false from h)⟩
    refine ⟨rfl, p, rfl, ?_⟩
    refine ⟨fun h => hK, fun h => ?_⟩
    have h : ¬ 1 + n > gave p := by
      have h := of_decide_eq_false h
      rw [hN] at h
      exact h
    have hend : K (.bool (a.cur != c.cur)) [] := by rw [hcur h]; exact hK
    repeat' first
      | exact hend
      | (refine ⟨_, hs0, map_of ha, ?_⟩)
      | (refine ⟨_, hd0, map_of hc, ?_⟩)
      | (refine And.intro ?_ ?_)
      | fail
  · rw [hdo]
    have hps := hPI.s
    have hpd := hPI.d
    have hls : l[p.src.toNat]? = some (accAt l p.src) := by
      have h := List.getElem?_eq_getElem (show p.src.toNat < l.length by omega)
      rw [accAt_of h]; exact h
    have hld : l[p.dst.toNat]? = some (accAt l p.dst) := by
      have h := List.getElem?_eq_getElem (show p.dst.toNat < l.length by omega)
      rw [accAt_of h]; exact h
    rw [accAt_of ha] at hbal
    have hq : ((s.pays.set i (chaP p (1 + n))).map payA)[((i : Nat) : Int).toNat]? = some (payA (chaP p (1 + n))) := by
      refine map_of ?_
      show (s.pays.set i (chaP p (1 + n)))[i]? = _
      rw [List.getElem?_set, if_pos rfl, if_pos hil]
    have hch := hPI.h
    have hcc := hPI.c
    have hrr := hPI.r
    have haa := hPI.a
    have hb1 : ((accAt l p.src).bal == IntKind.i64.wrap (IntKind.i64.wrap (a.bal + 1) + IntKind.i64.wrap n)) = true := by
      rw [wn, wrap_of (n := a.bal + 1) (by omega) (by omega), wrap_of (by omega) (by omega), hbal]
      simp; omega
    have hb3 : ((chaP p (1 + n)).chrg == IntKind.i64.wrap (IntKind.i64.wrap (p.chrg + 1) + IntKind.i64.wrap n)) = true := by
      have e : (chaP p (1 + n)).chrg = p.chrg + (1 + n) := w64_of (by omega) (by omega)
      rw [wn, wrap_of (n := p.chrg + 1) (by omega) (by omega), wrap_of (by omega) (by omega), e]
      simp; omega
    have hb2 : decide (freeN (accAt l p.dst) ≥ 0) = true := by simpa using hfree
    have hend : K (.bool ((chaP p (1 + n)).chrg == IntKind.i64.wrap (IntKind.i64.wrap (p.chrg + 1) + IntKind.i64.wrap n))) [] := by rw [hb3]; exact hK
    refine ⟨fun h => Bool.noConfusion (show false = true from h), fun _ => ?_⟩
    refine ⟨_, hs0, map_of hls, ?_⟩
    refine ⟨_, hs0, map_of ha, ?_⟩
    refine ⟨fun _ => ?_, fun h => absurd (hb1.symm.trans h) (by decide)⟩
    refine ⟨_, hd0, map_of hld, ?_⟩
    refine ⟨rfl, accAt l p.dst, rfl, ?_⟩
    refine ⟨fun _ => ?_, fun h => absurd (hb2.symm.trans h) (by decide)⟩
    refine ⟨_, Int.natCast_nonneg i, hq, ?_⟩
    exact hend
end Go.Proofs.YtmlgkojmbnjfbaaDoor.A
