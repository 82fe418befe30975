/- Seat 13: what calls do to a state, for a heap. -/
import Derived.Test.YtgikhdaildaonaaB1
namespace Go.Proofs.Ytgikhdaildaonaa.A
open Go
noncomputable def jSwap : StSpec := inlJ (E0 41000 pl41) Try.f41 (bodyOf Try.f41)
theorem swap_ok : SOk Try.prog tab 41 jSwap := inl_ok (E := E0 41000 pl41) tab_is (E0_C _ _) (E0_J _ _) Try.func41 (by kernel_rfl) rfl (by kernel_rfl)
noncomputable def jPush : StSpec := inlJ (E0 40000 pl40) Try.f40 (bodyOf Try.f40)
theorem push_ok : SOk Try.prog tab 40 jPush := inl_ok (E := E0 40000 pl40) tab_is (E0_C _ _) (E0_J _ _) Try.func40 (by kernel_rfl) rfl (by kernel_rfl)
noncomputable def jPop : StSpec := inlJ (E0 39000 pl39) Try.f39 (bodyOf Try.f39)
theorem pop_ok : SOk Try.prog tab 39 jPop := inl_ok (E := E0 39000 pl39) tab_is (E0_C _ _) (E0_J _ _) Try.func39 (by kernel_rfl) rfl (by kernel_rfl)
end Go.Proofs.Ytgikhdaildaonaa.A
