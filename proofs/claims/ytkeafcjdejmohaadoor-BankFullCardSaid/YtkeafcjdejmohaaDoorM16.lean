/- OpsRaw. -/
import Derived.Test.YtkeafcjdejmohaaDoorM15
import Derived.Test.YtkeafcjdejmohaaDoorGF
namespace Go.Proofs.YtkeafcjdejmohaaDoor.A
open Go Q
abbrev BdA (a : Acc) : Prop := (0 ≤ a.cur ∧ a.cur < 3) ∧ (-4503599627370496 ≤ a.bal ∧ a.bal ≤ 4503599627370496) ∧ -4503599627370496 ≤ a.held ∧ a.held ≤ 4503599627370496
def rdoC (args : List AV) (bs : List Box) (K : AV → List Box → Prop) : Prop := bs = [] ∧ ∃ (s : Sta) (r : Req), args = [staA s, reqA r] ∧ SzA s ∧ (∀ a ∈ s.accs, BdA a) ∧ K (.tup [staA (doM s r).1, repA (doM s r).2.1 (doM s r).2.2]) []
theorem rdo_ok : FnOk Tryd.prog tab 14 rdoC := rdo_ok0.frz.mono (by
  rintro args bs K ⟨rfl, s, r, rfl, hz, hcu, hK⟩
  refine ⟨rfl, rfl, s, r, rfl, hz, hcu, fun g1 g2 h1 h2 => ⟨_, rfl, ?_⟩⟩
  rcases h1 with rfl | rfl <;> rcases h2 with rfl | rfl <;> exact hK)
theorem staI_bd {s : Sta} (h : StaI s) : ∀ a ∈ s.accs, BdA a := fun a ha => by
  obtain ⟨i, hi⟩ := List.getElem?_of_mem ha
  obtain ⟨q1, q2, q3⟩ := h.a i a hi
  by_cases h9 : i < 9
  · have := q2 h9; exact ⟨by omega, by omega, by omega⟩
  · have := q3 (by omega); exact ⟨by omega, by omega, by omega⟩
theorem state_lp (b : Book) (ps : List Paid) (now : Int) : (stateM b ps now).pays.length ≤ ps.length := by
  have := putGo_len (ps := ps) (t := (bookL (curs6 b) b.has, [])) (k := 0)
  simp at this
  exact this
def rawC (args : List AV) (bs : List Box) (K : AV → List Box → Prop) : Prop := bs = [] ∧ ∃ (b : Book) (ps : List Paid) (r : Req), args = [bkA b, padS ps, reqA r] ∧ b.Ok ∧ (∀ p ∈ ps, p.In) ∧ ps.length ≤ 1999900 ∧ K (.bool true) []
def RRw : Contract
  | 11 => awakeC15
  | 12 => stateC
  | 13 => doC
  | 14 => rdoC
  | 15 => sameSC
  | _ => fun _ _ _ => False
theorem RRw_ok : CallOk Tryd.prog tab RRw := by
  intro f args bs K h
  unfold RRw at h
  split at h
  · exact ⟨_, h, awake15_ok⟩
  · exact ⟨_, h, state_ok⟩
  · exact ⟨_, h, do_ok⟩
  · exact ⟨_, h, rdo_ok⟩
  · exact ⟨_, h, sameS_ok⟩
  · exact h.elim
def RRw_E (pl : Nat → Plan) : En := ⟨tab, RRw, fun _ => none, 0, pl⟩
theorem RRw_J (pl : Nat → Plan) : JOk Tryd.prog (RRw_E pl).T (RRw_E pl).J := fun _ _ h => by cases h
set_option maxRecDepth 200000 in
set_option maxHeartbeats 6400000 in
theorem raw_ok : FnOk Tryd.prog tab 3 rawC := by
  refine fn_ok (E := RRw_E pl3) tab_is RRw_ok (RRw_J _) Tryd.func3 rfl rfl (by kernel_rfl) ?_
  rintro args bs K ⟨rfl, b, ps, r, rfl, hb, hps, hpl, hK⟩
  refine ⟨rfl, ?_⟩
  refine ⟨rfl, rfl, ?_⟩
  refine ⟨fun h => Bool.noConfusion (show false = true from h), fun _ => ?_⟩
  refine ⟨rfl, b, ps, 0, rfl, hb.toIn, hps, hpl, ?_⟩
  have hI := state_I 0 hb hps
  have hz := state_sz 0 hb hps hpl
  have hp := state_lp b ps 0
  generalize stateM b ps 0 = s at hI hz hp ⊢
  refine ⟨rfl, s, r, rfl, hz, ?_⟩
  refine ⟨rfl, s, r, rfl, hz, staI_bd hI, ?_⟩
  have hst := doM_step s r
  have hzx : SzA (doM s r).1 := ⟨by have := hst.la; have := hI.l; omega, by have := hst.lp; omega⟩
  obtain ⟨he, -, -, -, -, -, -⟩ := hst
  generalize doM s r = d at he hzx ⊢
  obtain ⟨x, e, i⟩ := d
  have ht : ((e == e) && ((i == i) && true)) = true := by simp
  refine ⟨fun _ => ?_, fun h => absurd (ht.symm.trans h) (by decide)⟩
  refine ⟨rfl, x, x, rfl, hzx, fun _ => ?_, fun h => absurd ⟨rfl, rfl, rfl⟩ h⟩
  refine ⟨fun _ => ?_, fun h => Bool.noConfusion (show true = false from h)⟩
  refine ⟨fun h0 => hK, fun h0 => ?_⟩
  have hn : e ≠ 0 := by simpa using h0
  obtain rfl : x = s := he hn
  exact ⟨rfl, x, x, rfl, hzx, fun _ => hK, fun h => absurd ⟨rfl, rfl, rfl⟩ h⟩
end Go.Proofs.YtkeafcjdejmohaaDoor.A
