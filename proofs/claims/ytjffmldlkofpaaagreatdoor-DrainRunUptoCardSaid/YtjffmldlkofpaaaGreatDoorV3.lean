/- Acts that come in as arguments. -/
import Derived.Test.YtjffmldlkofpaaaGreatDoorGV
import Derived.Test.YtjffmldlkofpaaaGreatDoorM36
namespace Go.Proofs.YtjffmldlkofpaaaGreatDoor.A
open Go Q
set_option maxRecDepth 200000
theorem kindsAct : kindsA tab 6 95 = some [.int .u8, .int .u8, .int .u8, .int .u8, .int .u8, .int .u16, .int .u8, .int .u8, .int .u8, .bool] := by kernel_rfl
theorem act_in (r : List AV) (h : FitA [.int .u8, .int .u8, .int .u8, .int .u8, .int .u8, .int .u16, .int .u8, .int .u8, .int .u8, .bool] r) : ∃ p : Act, wrapT tab 95 r = actA p ∧ p.In := by
  obtain ⟨n0, r0, rfl, w0, g0⟩ := fit1 h
  obtain ⟨n1, r1, rfl, w1, g1⟩ := fit1 g0
  obtain ⟨n2, r2, rfl, w2, g2⟩ := fit1 g1
  obtain ⟨n3, r3, rfl, w3, g3⟩ := fit1 g2
  obtain ⟨n4, r4, rfl, w4, g4⟩ := fit1 g3
  obtain ⟨n5, r5, rfl, w5, g5⟩ := fit1 g4
  obtain ⟨n6, r6, rfl, w6, g6⟩ := fit1 g5
  obtain ⟨n7, r7, rfl, w7, g7⟩ := fit1 g6
  obtain ⟨n8, r8, rfl, w8, g8⟩ := fit1 g7
  cases r8 with
  | nil => exact g8.elim
  | cons v vs =>
    obtain ⟨⟨t, rfl⟩, g9⟩ := g8
    obtain rfl := fit0 g9
    exact ⟨⟨n0, ⟨n1, n2, n3, n4, n5, n6, n7⟩, n8, t⟩, rfl, ⟨wf_u8 w0, ⟨wf_u8 w1, wf_u8 w2, wf_u8 w3, wf_u8 w4, wf_u16 w5, wf_u8 w6, wf_u8 w7⟩, wf_u8 w8⟩⟩
theorem acts_in {H : Type} {enc : TypeId × Value → H} {W : World} {b0 : Nat} {v : Value} {d : DataW H} {ps : List MemPlace} (hok : Value.okWide Tryz.prog W .any b0 26 v) (h : DataW.Trod enc Tryz.prog W 0 (fun _ => true) true 26 v d ps) :
    ∃ l : List Act, V tab (cx0 W) (actsS l) v ∧ (∀ p ∈ l, p.In) ∧ (l.length = 0 ∨ ∃ elems rest, d = .slice elems rest ∧ elems.length = l.length) := rows_in (f := actA) rfl kindsAct act_in hok h
end Go.Proofs.YtjffmldlkofpaaaGreatDoor.A
