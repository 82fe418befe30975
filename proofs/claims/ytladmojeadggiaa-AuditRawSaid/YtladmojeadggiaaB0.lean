/- The seat's types' tree and the plans of the drawn regions: both printed by a program (wip/core/Gen.tpl). -/
import Derived.Test.YtladmojeadggiaaA15
import Derived.Test.YtladmojeadggiaaProg
import Derived.KernelRfl
namespace Go.Proofs.Ytladmojeadggiaa.A
open Go
def tr : Bt TE := (.node none (.node (some ⟨.func, 1, 8, (.one .kf)⟩) (.node (some ⟨(.int .i64), 1, 8, (.one (.ki .i64))⟩) (.node (some ⟨(.struct [(0, 2), (1, 3), (2, 4), (3, 6)]), 4, 24, (.agg [(.ki .i64), (.ki .i64), .kb, (.ki .u8)])⟩) (.node (some ⟨(.ptr 74), 1, 8, (.one .kp)⟩) (.node (some ⟨.func, 1, 8, (.one .kf)⟩) (.node (some ⟨.func, 1, 8, (.one .kf)⟩) .nil
 .nil)
 .nil)
 (.node (some ⟨(.struct [(0, 3), (1, 46), (2, 3), (3, 3), (4, 3), (5, 3), (6, 3)]), 7, 56, (.agg [(.ki .i64), (.ki .i64), (.ki .i64), (.ki .i64), (.ki .i64), (.ki .i64), (.ki .i64)])⟩) (.node (some ⟨(.int .u32), 1, 4, (.one (.ki .u32))⟩) .nil
 .nil)
 .nil))
 (.node (some ⟨(.slice 58), 1, 24, (.one .kl)⟩) (.node (some ⟨(.struct [(0, 3), (1, 3), (2, 3)]), 3, 24, (.agg [(.ki .i64), (.ki .i64), (.ki .i64)])⟩) (.node (some ⟨.func, 1, 8, (.one .kf)⟩) .nil
 .nil)
 .nil)
 (.node (some ⟨(.mp 36 4), 1, 8, (.one .km)⟩) (.node (some ⟨(.struct [(0, 12), (1, 12), (2, 79), (3, 80), (4, 5), (5, 5), (6, 81), (7, 82), (8, 83), (9, 84), (10, 85)]), 11, 48, (.agg [(.ki .u64), (.ki .u64), (.ki .u32), (.ki .u8), (.ki .u8), (.ki .u8), (.ki .u8), .kf, .kp, (.ki .i32), (.ki .i32)])⟩) .nil
 .nil)
 .nil)))
 (.node (some ⟨.str, 1, 16, (.one .ks)⟩) (.node (some ⟨(.struct [(0, 17)]), 1, 8, (.agg [.kp])⟩) (.node (some ⟨.func, 1, 8, (.one .kf)⟩) (.node (some ⟨.func, 1, 8, (.one .kf)⟩) .nil
 .nil)
 .nil)
 (.node (some ⟨(.struct [(0, 49), (1, 3)]), 2, 16, (.agg [(.ki .i64), (.ki .i64)])⟩) (.node (some ⟨(.ptr 5), 1, 8, (.one .kp)⟩) .nil
 .nil)
 .nil))
 (.node (some ⟨(.struct [(0, 22), (1, 23), (2, 24), (3, 25), (4, 3)]), 5, 104, (.agg [.kl, .kl, .kl, .kl, (.ki .i64)])⟩) (.node (some ⟨.func, 1, 8, (.one .kf)⟩) (.node (some ⟨(.arr 0 16), 0, 0, (.agg [])⟩) .nil
 .nil)
 .nil)
 (.node (some ⟨.func, 1, 8, (.one .kf)⟩) .nil
 .nil))))
 (.node (some ⟨(.int .u8), 1, 1, (.one (.ki .u8))⟩) (.node (some ⟨.str, 1, 16, (.one .ks)⟩) (.node (some ⟨(.ptr 87), 1, 8, (.one .kp)⟩) (.node (some ⟨.func, 1, 8, (.one .kf)⟩) (.node (some ⟨.func, 1, 8, (.one .kf)⟩) .nil
 .nil)
 .nil)
 (.node (some ⟨(.int .i64), 1, 8, (.one (.ki .i64))⟩) (.node (some ⟨(.int .u8), 1, 1, (.one (.ki .u8))⟩) .nil
 .nil)
 .nil))
 (.node (some ⟨(.slice 53), 1, 24, (.one .kl)⟩) (.node (some ⟨.func, 1, 8, (.one .kf)⟩) (.node (some ⟨(.struct [(0, 17), (1, 17), (2, 17), (3, 9)]), 4, 40, (.agg [.kp, .kp, .kp, .ks])⟩) .nil
 .nil)
 .nil)
 (.node (some ⟨(.struct [(0, 3), (1, 3), (2, 3), (3, 3), (4, 3), (5, 3), (6, 3), (7, 56)]), 8, 64, (.agg [(.ki .i64), (.ki .i64), (.ki .i64), (.ki .i64), (.ki .i64), (.ki .i64), (.ki .i64), (.ki .i64)])⟩) .nil
 .nil)))
 (.node (some ⟨(.struct [(0, 9), (1, 12)]), 2, 24, (.agg [.ks, (.ki .u64)])⟩) (.node (some ⟨(.int .i32), 1, 4, (.one (.ki .i32))⟩) (.node (some ⟨.func, 1, 8, (.one .kf)⟩) (.node (some ⟨(.int .i64), 1, 8, (.one (.ki .i64))⟩) .nil
 .nil)
 .nil)
 (.node (some ⟨(.struct [(0, 48), (7, 51), (9, 4)]), 10, 80, (.agg [(.ki .i64), (.ki .i64), (.ki .i64), (.ki .i64), (.ki .i64), (.ki .i64), (.ki .i64), (.ki .i64), (.ki .i64), .kb])⟩) (.node (some ⟨(.int .i32), 1, 4, (.one (.ki .i32))⟩) .nil
 .nil)
 .nil))
 (.node (some ⟨.func, 1, 8, (.one .kf)⟩) (.node (some ⟨.func, 1, 8, (.one .kf)⟩) (.node (some ⟨(.struct [(0, 75)]), 0, 0, (.agg [])⟩) .nil
 .nil)
 .nil)
 (.node (some ⟨(.struct [(0, 48), (7, 60), (8, 3), (9, 3), (10, 49)]), 11, 88, (.agg [(.ki .i64), (.ki .i64), (.ki .i64), (.ki .i64), (.ki .i64), (.ki .i64), (.ki .i64), (.ki .i64), (.ki .i64), (.ki .i64), (.ki .i64)])⟩) .nil
 .nil)))))
 (.node (some ⟨(.int .i64), 1, 8, (.one (.ki .i64))⟩) (.node (some ⟨.bool, 1, 1, (.one .kb)⟩) (.node (some ⟨(.struct [(0, 2), (1, 3), (2, 4), (3, 6)]), 4, 24, (.agg [(.ki .i64), (.ki .i64), .kb, (.ki .u8)])⟩) (.node (some ⟨(.ptr 77), 1, 8, (.one .kp)⟩) (.node (some ⟨.func, 1, 8, (.one .kf)⟩) (.node (some ⟨.func, 1, 8, (.one .kf)⟩) .nil
 .nil)
 .nil)
 (.node (some ⟨(.struct [(0, 3), (1, 46), (2, 3), (3, 3), (4, 3), (5, 3), (6, 3)]), 7, 56, (.agg [(.ki .i64), (.ki .i64), (.ki .i64), (.ki .i64), (.ki .i64), (.ki .i64), (.ki .i64)])⟩) (.node (some ⟨(.int .u8), 1, 1, (.one (.ki .u8))⟩) .nil
 .nil)
 .nil))
 (.node (some ⟨(.slice 62), 1, 24, (.one .kl)⟩) (.node (some ⟨(.arr 3 3), 3, 24, (.agg [(.ki .i64), (.ki .i64), (.ki .i64)])⟩) (.node (some ⟨.func, 1, 8, (.one .kf)⟩) .nil
 .nil)
 .nil)
 (.node (some ⟨(.int .i64), 1, 8, (.one (.ki .i64))⟩) (.node none .nil
 .nil)
 .nil)))
 (.node (some ⟨(.int .u64), 1, 8, (.one (.ki .u64))⟩) (.node (some ⟨.iface, 1, 16, (.one .kn)⟩) (.node (some ⟨(.int .i64), 1, 8, (.one (.ki .i64))⟩) (.node (some ⟨(.mp 3 4), 1, 8, (.one .km)⟩) .nil
 .nil)
 .nil)
 (.node (some ⟨(.struct [(0, 48), (7, 51), (9, 4)]), 10, 80, (.agg [(.ki .i64), (.ki .i64), (.ki .i64), (.ki .i64), (.ki .i64), (.ki .i64), (.ki .i64), (.ki .i64), (.ki .i64), .kb])⟩) (.node (some ⟨(.int .i32), 1, 4, (.one (.ki .i32))⟩) .nil
 .nil)
 .nil))
 (.node (some ⟨.func, 1, 8, (.one .kf)⟩) (.node (some ⟨(.slice 42), 1, 24, (.one .kl)⟩) (.node (some ⟨(.struct [(0, 75)]), 0, 0, (.agg [])⟩) .nil
 .nil)
 .nil)
 (.node (some ⟨(.int .i64), 1, 8, (.one (.ki .i64))⟩) .nil
 .nil))))
 (.node (some ⟨(.int .u8), 1, 1, (.one (.ki .u8))⟩) (.node (some ⟨.str, 1, 16, (.one .ks)⟩) (.node (some ⟨(.struct [(0, 17)]), 1, 8, (.agg [.kp])⟩) (.node (some ⟨(.slice 3), 1, 24, (.one .kl)⟩) (.node (some ⟨.func, 1, 8, (.one .kf)⟩) .nil
 .nil)
 .nil)
 (.node (some ⟨(.struct [(0, 49), (1, 3)]), 2, 16, (.agg [(.ki .i64), (.ki .i64)])⟩) (.node (some ⟨.func, 1, 8, (.one .kf)⟩) .nil
 .nil)
 .nil))
 (.node (some ⟨(.struct [(0, 22), (1, 23), (2, 24), (3, 25), (4, 3)]), 5, 104, (.agg [.kl, .kl, .kl, .kl, (.ki .i64)])⟩) (.node (some ⟨(.struct [(0, 4), (1, 36)]), 2, 16, (.agg [.kb, (.ki .i64)])⟩) (.node (some ⟨(.struct [(0, 17), (1, 17), (2, 17), (3, 9)]), 4, 40, (.agg [.kp, .kp, .kp, .ks])⟩) .nil
 .nil)
 .nil)
 (.node (some ⟨(.struct [(0, 3), (1, 3), (2, 3), (3, 3), (4, 3), (5, 3), (6, 3), (7, 56)]), 8, 64, (.agg [(.ki .i64), (.ki .i64), (.ki .i64), (.ki .i64), (.ki .i64), (.ki .i64), (.ki .i64), (.ki .i64)])⟩) .nil
 .nil)))
 (.node (some ⟨(.struct [(0, 9), (1, 12)]), 2, 24, (.agg [.ks, (.ki .u64)])⟩) (.node (some ⟨(.slice 39), 1, 24, (.one .kl)⟩) (.node (some ⟨(.struct [(0, 3), (1, 3), (2, 3)]), 3, 24, (.agg [(.ki .i64), (.ki .i64), (.ki .i64)])⟩) (.node none .nil
 .nil)
 .nil)
 (.node (some ⟨.func, 1, 8, (.one .kf)⟩) (.node (some ⟨(.struct [(0, 12), (1, 12), (2, 79), (3, 80), (4, 5), (5, 5), (6, 81), (7, 82), (8, 83), (9, 84), (10, 85)]), 11, 48, (.agg [(.ki .u64), (.ki .u64), (.ki .u32), (.ki .u8), (.ki .u8), (.ki .u8), (.ki .u8), .kf, .kp, (.ki .i32), (.ki .i32)])⟩) .nil
 .nil)
 .nil))
 (.node (some ⟨(.slice 36), 1, 24, (.one .kl)⟩) (.node (some ⟨(.int .i64), 1, 8, (.one (.ki .i64))⟩) (.node (some ⟨.func, 1, 8, (.one .kf)⟩) .nil
 .nil)
 .nil)
 (.node (some ⟨(.struct [(0, 48), (7, 60), (8, 3), (9, 3), (10, 49)]), 11, 88, (.agg [(.ki .i64), (.ki .i64), (.ki .i64), (.ki .i64), (.ki .i64), (.ki .i64), (.ki .i64), (.ki .i64), (.ki .i64), (.ki .i64), (.ki .i64)])⟩) .nil
 .nil))))))
theorem tr_ok : treeOk Try.prog tr = true := by kernel_rfl
def meth : TypeId → String → Option (FuncId × Option TypeId) := fun _ _ => none
def tab0 : Tab := tabOf tr meth
theorem tab0_is : TabOk Try.prog tab0 := tab_ok tr_ok (by intro t n f d h; cases h) (by kernel_rfl)
def eqK : TypeId → Option (List LK)
  | 48 => some [.int .i64, .int .i64, .int .i64, .int .i64, .int .i64, .int .i64, .int .i64]
  | 40 => some [.int .i64, .int .i64, .int .i64]
  | _ => none
def tab : Tab := { tab0 with eqT := eqK }
theorem tab_is : TabOk Try.prog tab := tab_eq tab0_is eqK (by
  intro t ks h
  unfold eqK at h
  split at h <;> first | (cases h; done) | (cases h; exact ⟨by kernel_rfl, by kernel_rfl, by kernel_rfl, by kernel_rfl⟩))
/-- hawala/hawalalaw20.AuditRaw -/
def pl3 : Nat → Plan
  | 3 => (.take 0 (.take 2 (.last 1 (.last 3 (.last 4 (.take 5 .done))))))
  | _ => .done

/-- hawala/hawalalaw20.AuditNew -/
def pl4 : Nat → Plan
  | _ => .done

/-- hawala/hawalalaw20.awake -/
def pl5 : Nat → Plan
  | _ => .done

/-- hawala/hawalalaw20.same -/
def pl6 : Nat → Plan
  | 6 => (.take 0 (.take 1 (.take 2 (.take 3 (.take 4 (.take 5 (.take 6 (.take 7 (.take 8 .done)))))))))
  | _ => .done

/-- hawala/audit.Check -/
def pl7 : Nat → Plan
  | 2 => (.take 0 (.take 1 (.take 3 (.take 6 (.take 7 (.take 10 (.take 13 (.take 16 (.take 19 (.take 24 (.last 2 (.take 4 (.take 5 (.last 8 (.take 9 (.last 11 (.take 12 (.last 14 (.take 15 (.last 17 (.take 18 (.last 20 (.take 21 (.last 22 (.take 23 .done)))))))))))))))))))))))))
  | _ => .done

/-- hawala/hawalalaw20.check -/
def pl8 : Nat → Plan
  | 3 => (.take 1 (.take 2 (.take 4 (.take 7 (.take 8 (.alt 0 (.last 3 (.take 5 (.alt 6 (.last 9 (.take 10 (.last 11 (.take 12 (.take 13 .done))))) (.last 9 (.take 10 (.alt 6 (.last 11 (.take 12 (.take 13 .done))) (.last 11 (.last 6 (.take 12 (.take 13 .done)))))))))) (.last 3 (.take 5 (.alt 0 (.alt 6 (.last 9 (.take 10 (.last 11 (.take 12 (.take 13 .done))))) (.last 9 (.take 10 (.alt 6 (.last 11 (.take 12 (.take 13 .done))) (.last 11 (.last 6 (.take 12 (.take 13 .done)))))))) (.last 9 (.take 10 (.last 0 (.alt 6 (.last 11 (.take 12 (.take 13 .done))) (.last 11 (.last 6 (.take 12 (.take 13 .done)))))))))))))))))
  | 14 => (.take 0 (.last 1 (.take 2 (.take 3 (.take 4 (.take 5 (.take 6 (.take 7 (.take 8 (.take 9 (.take 10 (.take 11 (.take 12 (.take 13 (.take 14 (.take 15 (.take 16 (.take 17 (.take 18 (.take 19 (.take 20 (.take 21 (.take 22 (.take 23 (.take 24 (.take 25 .done))))))))))))))))))))))))))
  | _ => .done

/-- hawala/chart.New -/
def pl9 : Nat → Plan
  | _ => .done

/-- hawala/audit.Quiet -/
def pl10 : Nat → Plan
  | _ => .done

/-- hawala/audit.Held -/
def pl11 : Nat → Plan
  | 6 => (.take 0 (.take 1 (.alt 2 (.last 3 (.last 4 (.last 5 .done))) (.last 3 (.alt 2 (.last 4 (.last 5 .done)) (.last 4 (.last 2 (.last 5 .done))))))))
  | _ => .done

/-- hawala/chart.Sums -/
def pl12 : Nat → Plan
  | 6 => (.take 0 (.take 4 (.alt 1 (.take 2 (.alt 3 (.last 5 (.take 6 (.take 7 (.last 8 .done)))) (.last 5 (.last 3 (.take 6 (.take 7 (.last 8 .done))))))) (.last 5 (.last 1 (.take 2 (.last 3 (.take 6 (.take 7 (.last 8 .done))))))))))
  | _ => .done

/-- hawala/chart.Right -/
def pl13 : Nat → Plan
  | _ => .done

/-- hawala/audit.payments -/
def pl14 : Nat → Plan
  | _ => .done

/-- hawala/audit.sagas -/
def pl15 : Nat → Plan
  | 5 => (.take 0 (.last 1 (.take 2 (.take 3 (.take 4 (.take 5 (.take 6 (.take 7 (.take 8 (.take 9 (.take 10 (.take 11 (.take 12 (.take 13 (.take 14 (.take 15 (.take 16 (.take 17 (.take 18 (.take 19 (.take 20 (.take 21 (.take 22 (.take 23 (.take 24 (.take 25 .done))))))))))))))))))))))))))
  | _ => .done

/-- hawala/audit.holds -/
def pl16 : Nat → Plan
  | _ => .done

/-- hawala/audit.known -/
def pl17 : Nat → Plan
  | _ => .done

/-- hawala/hawalalaw20.check$1 -/
def pl18 : Nat → Plan
  | _ => .done

/-- hawala/hawalalaw20.check$2 -/
def pl19 : Nat → Plan
  | _ => .done

/-- hawala/payment.Right -/
def pl20 : Nat → Plan
  | _ => .done

/-- hawala/saga.Right -/
def pl21 : Nat → Plan
  | _ => .done

/-- hawala/hawalalaw20.held -/
def pl22 : Nat → Plan
  | 9 => (.take 0 (.take 1 (.take 2 (.take 4 (.take 6 (.alt 3 (.alt 5 (.last 7 (.take 8 (.take 9 (.take 10 (.last 11 .done))))) (.last 7 (.last 5 (.take 8 (.take 9 (.take 10 (.last 11 .done))))))) (.alt 5 (.alt 3 (.last 7 (.take 8 (.take 9 (.take 10 (.last 11 .done))))) (.last 7 (.take 8 (.last 3 (.take 9 (.take 10 (.last 11 .done))))))) (.last 7 (.alt 3 (.last 5 (.take 8 (.take 9 (.take 10 (.last 11 .done))))) (.last 5 (.take 8 (.last 3 (.take 9 (.take 10 (.last 11 .done)))))))))))))))
  | 15 => (.take 0 (.take 1 (.take 2 (.take 4 (.take 5 (.alt 3 (.last 6 (.take 7 (.take 8 (.last 9 .done)))) (.last 6 (.last 3 (.take 7 (.take 8 (.last 9 .done)))))))))))
  | _ => .done

/-- hawala/audit.Held$1 -/
def pl23 : Nat → Plan
  | _ => .done

/-- hawala/payment.Left -/
def pl24 : Nat → Plan
  | _ => .done

/-- hawala/chart.IsClient -/
def pl25 : Nat → Plan
  | _ => .done

/-- hawala/keys.Find -/
def pl26 : Nat → Plan
  | _ => .done

/-- hawala/payment.Gave -/
def pl27 : Nat → Plan
  | _ => .done

/-- hawala/chart.Of -/
def pl28 : Nat → Plan
  | _ => .done

end Go.Proofs.Ytladmojeadggiaa.A
