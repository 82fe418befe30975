/- Numbers that come in as arguments. -/
import Derived.Test.YtjffmldlkofpaaaGreatDoorGV
namespace Go.Proofs.YtjffmldlkofpaaaGreatDoor.A
open Go Q
set_option maxRecDepth 200000
theorem kindsInt : kindsA tab 6 3 = some [.int .i64] := by kernel_rfl
theorem int1_in (r : List AV) (h : FitA [.int .i64] r) : ∃ p : Int, wrapT tab 3 r = AV.int .i64 p ∧ True := by
  obtain ⟨n1, r1, rfl, w1, g1⟩ := fit1 h
  obtain rfl := fit0 g1
  exact ⟨n1, rfl, trivial⟩
theorem ints_in {H : Type} {enc : TypeId × Value → H} {W : World} {b0 : Nat} {v : Value} {d : DataW H} {ps : List MemPlace} (hok : Value.okWide Tryz.prog W .any b0 27 v) (h : DataW.Trod enc Tryz.prog W 0 (fun _ => true) true 27 v d ps) :
    ∃ l : List Int, V tab (cx0 W) (.sl .fz 3 (l.map (AV.int .i64))) v ∧ (∀ p ∈ l, True) ∧ (l.length = 0 ∨ ∃ elems rest, d = .slice elems rest ∧ elems.length = l.length) := rows_in (f := AV.int .i64) rfl kindsInt int1_in hok h
theorem wf_i8 {n : Int} (h : (Lit.int .i8 n).wf = true) : -128 ≤ n ∧ n ≤ 127 := by
  simp [Lit.wf, IntKind.min, IntKind.max, IntKind.signed, IntKind.bits] at h
  omega
end Go.Proofs.YtjffmldlkofpaaaGreatDoor.A
