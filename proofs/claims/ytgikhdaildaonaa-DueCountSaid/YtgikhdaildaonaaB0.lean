/- Seat 13: the types' tree, the plans of the drawn regions (both printed by a program: wip/core/Gen.tpl), the methods. -/
import Derived.Test.YtgikhdaildaonaaA12
import Derived.Test.YtgikhdaildaonaaProg
import Derived.KernelRfl
namespace Go.Proofs.Ytgikhdaildaonaa.A
open Go

def tr : Bt TE := (.node none (.node (some ⟨.func, 1, 8, (.one .kf)⟩) (.node (some ⟨(.int .i64), 1, 8, (.one (.ki .i64))⟩) (.node (some ⟨(.struct [(0, 2), (1, 3), (2, 4), (3, 6)]), 4, 24, (.agg [(.ki .i64), (.ki .i64), .kb, (.ki .u8)])⟩) (.node (some ⟨(.ptr 64), 1, 8, (.one .kp)⟩) (.node (some ⟨(.struct [(0, 5), (1, 5), (2, 5), (3, 5), (4, 5), (5, 5), (6, 5), (7, 4)]), 8, 8, (.agg [(.ki .u8), (.ki .u8), (.ki .u8), (.ki .u8), (.ki .u8), (.ki .u8), (.ki .u8), .kb])⟩) (.node (some ⟨(.struct [(0, 17), (1, 17), (2, 17), (3, 9)]), 4, 40, (.agg [.kp, .kp, .kp, .ks])⟩) .nil
 .nil)
 .nil)
 (.node (some ⟨(.slice 50), 1, 24, (.one .kl)⟩) .nil
 .nil))
 (.node (some ⟨(.slice 34), 1, 24, (.one .kl)⟩) (.node (some ⟨(.int .i8), 1, 1, (.one (.ki .i8))⟩) (.node (some ⟨.func, 1, 8, (.one .kf)⟩) .nil
 .nil)
 .nil)
 (.node (some ⟨.iface, 1, 16, (.one .kn)⟩) .nil
 .nil)))
 (.node (some ⟨.str, 1, 16, (.one .ks)⟩) (.node (some ⟨(.struct [(0, 17)]), 1, 8, (.agg [.kp])⟩) (.node (some ⟨.func, 1, 8, (.one .kf)⟩) (.node (some ⟨(.struct [(0, 65)]), 0, 0, (.agg [])⟩) .nil
 .nil)
 .nil)
 (.node (some ⟨.func, 1, 8, (.one .kf)⟩) .nil
 .nil))
 (.node (some ⟨(.slice 3), 1, 24, (.one .kl)⟩) (.node (some ⟨.func, 1, 8, (.one .kf)⟩) (.node (some ⟨(.struct [(0, 12), (1, 12), (2, 68), (3, 69), (4, 5), (5, 5), (6, 70), (7, 71), (8, 72), (9, 73), (10, 74)]), 11, 48, (.agg [(.ki .u64), (.ki .u64), (.ki .u32), (.ki .u8), (.ki .u8), (.ki .u8), (.ki .u8), .kf, .kp, (.ki .i32), (.ki .i32)])⟩) .nil
 .nil)
 .nil)
 (.node (some ⟨.func, 1, 8, (.one .kf)⟩) .nil
 .nil))))
 (.node (some ⟨(.int .u8), 1, 1, (.one (.ki .u8))⟩) (.node (some ⟨.str, 1, 16, (.one .ks)⟩) (.node (some ⟨(.ptr 76), 1, 8, (.one .kp)⟩) (.node (some ⟨(.struct [(0, 3), (1, 3), (2, 3), (3, 3), (4, 3), (5, 3), (6, 3), (7, 32)]), 8, 64, (.agg [(.ki .i64), (.ki .i64), (.ki .i64), (.ki .i64), (.ki .i64), (.ki .i64), (.ki .i64), (.ki .i64)])⟩) (.node (some ⟨(.arr 0 16), 0, 0, (.agg [])⟩) .nil
 .nil)
 .nil)
 (.node (some ⟨(.struct [(0, 3), (1, 3)]), 2, 16, (.agg [(.ki .i64), (.ki .i64)])⟩) .nil
 .nil))
 (.node (some ⟨.func, 1, 8, (.one .kf)⟩) (.node (some ⟨.func, 1, 8, (.one .kf)⟩) (.node (some ⟨(.int .i32), 1, 4, (.one (.ki .i32))⟩) .nil
 .nil)
 .nil)
 (.node (some ⟨.func, 1, 8, (.one .kf)⟩) .nil
 .nil)))
 (.node (some ⟨(.struct [(0, 9), (1, 12)]), 2, 24, (.agg [.ks, (.ki .u64)])⟩) (.node (some ⟨(.int .i32), 1, 4, (.one (.ki .i32))⟩) (.node (some ⟨(.mp 3 4), 1, 8, (.one .km)⟩) (.node (some ⟨(.int .u8), 1, 1, (.one (.ki .u8))⟩) .nil
 .nil)
 .nil)
 (.node (some ⟨(.slice 4), 1, 24, (.one .kl)⟩) .nil
 .nil))
 (.node (some ⟨.func, 1, 8, (.one .kf)⟩) (.node (some ⟨(.ptr 47), 1, 8, (.one .kp)⟩) (.node none .nil
 .nil)
 .nil)
 (.node (some ⟨.func, 1, 8, (.one .kf)⟩) .nil
 .nil)))))
 (.node (some ⟨(.int .i64), 1, 8, (.one (.ki .i64))⟩) (.node (some ⟨.bool, 1, 1, (.one .kb)⟩) (.node (some ⟨(.struct [(0, 2), (1, 3), (2, 4), (3, 6)]), 4, 24, (.agg [(.ki .i64), (.ki .i64), .kb, (.ki .u8)])⟩) (.node (some ⟨(.ptr 67), 1, 8, (.one .kp)⟩) (.node (some ⟨(.int .i64), 1, 8, (.one (.ki .i64))⟩) (.node (some ⟨(.struct [(0, 17), (1, 17), (2, 17), (3, 9)]), 4, 40, (.agg [.kp, .kp, .kp, .ks])⟩) .nil
 .nil)
 .nil)
 (.node (some ⟨.func, 1, 8, (.one .kf)⟩) .nil
 .nil))
 (.node (some ⟨.func, 1, 8, (.one .kf)⟩) (.node (some ⟨.func, 1, 8, (.one .kf)⟩) (.node (some ⟨(.ptr 5), 1, 8, (.one .kp)⟩) .nil
 .nil)
 .nil)
 (.node (some ⟨.func, 1, 8, (.one .kf)⟩) .nil
 .nil)))
 (.node (some ⟨(.int .u64), 1, 8, (.one (.ki .u64))⟩) (.node (some ⟨.iface, 1, 16, (.one .kn)⟩) (.node (some ⟨.func, 1, 8, (.one .kf)⟩) (.node (some ⟨(.int .u32), 1, 4, (.one (.ki .u32))⟩) .nil
 .nil)
 .nil)
 (.node (some ⟨.func, 1, 8, (.one .kf)⟩) .nil
 .nil))
 (.node (some ⟨.func, 1, 8, (.one .kf)⟩) (.node (some ⟨.func, 1, 8, (.one .kf)⟩) (.node (some ⟨(.struct [(0, 12), (1, 12), (2, 68), (3, 69), (4, 5), (5, 5), (6, 70), (7, 71), (8, 72), (9, 73), (10, 74)]), 11, 48, (.agg [(.ki .u64), (.ki .u64), (.ki .u32), (.ki .u8), (.ki .u8), (.ki .u8), (.ki .u8), .kf, .kp, (.ki .i32), (.ki .i32)])⟩) .nil
 .nil)
 .nil)
 (.node (some ⟨.func, 1, 8, (.one .kf)⟩) .nil
 .nil))))
 (.node (some ⟨(.int .u8), 1, 1, (.one (.ki .u8))⟩) (.node (some ⟨.str, 1, 16, (.one .ks)⟩) (.node (some ⟨(.struct [(0, 17)]), 1, 8, (.agg [.kp])⟩) (.node (some ⟨(.struct [(0, 3), (1, 3), (2, 3), (3, 3), (4, 3), (5, 3), (6, 3), (7, 32)]), 8, 64, (.agg [(.ki .i64), (.ki .i64), (.ki .i64), (.ki .i64), (.ki .i64), (.ki .i64), (.ki .i64), (.ki .i64)])⟩) (.node (some ⟨(.struct [(0, 65)]), 0, 0, (.agg [])⟩) .nil
 .nil)
 .nil)
 (.node (some ⟨(.struct [(0, 3), (1, 3)]), 2, 16, (.agg [(.ki .i64), (.ki .i64)])⟩) .nil
 .nil))
 (.node (some ⟨.func, 1, 8, (.one .kf)⟩) (.node none (.node (some ⟨(.int .i32), 1, 4, (.one (.ki .i32))⟩) .nil
 .nil)
 .nil)
 (.node (some ⟨.func, 1, 8, (.one .kf)⟩) .nil
 .nil)))
 (.node (some ⟨(.struct [(0, 9), (1, 12)]), 2, 24, (.agg [.ks, (.ki .u64)])⟩) (.node (some ⟨(.slice 31), 1, 24, (.one .kl)⟩) (.node (some ⟨.func, 1, 8, (.one .kf)⟩) (.node (some ⟨(.int .u8), 1, 1, (.one (.ki .u8))⟩) .nil
 .nil)
 .nil)
 (.node (some ⟨.iface, 1, 16, (.one .kn)⟩) .nil
 .nil))
 (.node (some ⟨(.struct [(0, 5), (1, 5), (2, 5), (3, 5), (4, 5), (5, 5), (6, 5), (7, 4)]), 8, 8, (.agg [(.ki .u8), (.ki .u8), (.ki .u8), (.ki .u8), (.ki .u8), (.ki .u8), (.ki .u8), .kb])⟩) (.node (some ⟨(.slice 50), 1, 24, (.one .kl)⟩) .nil
 .nil)
 (.node (some ⟨.func, 1, 8, (.one .kf)⟩) .nil
 .nil))))))
theorem tr_ok : treeOk Try.prog tr = true := by kernel_rfl
def meth : TypeId → String → Option (FuncId × Option TypeId)
  | 45, "Len" => some (18, some 47)
  | 45, "Less" => some (38, some 47)
  | 45, "Swap" => some (41, some 47)
  | 45, "Push" => some (40, none)
  | 45, "Pop" => some (39, none)
  | _, _ => none
theorem wrap_ok (P : Program) (ts : Array TypeId) (ty : TypeId) (a : Addr) (s m : String) (w : World) : (Builtin.ssaWrapNilChk_ ts ty #[.pointer (some a), strVal s, strVal m]).run P w = .ok (.pointer (some a)) w := rfl
theorem meth_ok : ∀ t n f d, meth t n = some (f, d) → match d with
    | none => ∀ v w, (method (Try.prog.types.size + Made.depth) t v n).run Try.prog w = .ok (f, v) w
    | some e => ∀ a v w, (loadVar e a).run Try.prog w = .ok v w → (method (Try.prog.types.size + Made.depth) t (.pointer (some a)) n).run Try.prog w = .ok (f, v) w := by
  intro t n f d h
  unfold meth at h
  have hf : Try.prog.types.size + Made.depth = (Try.prog.types.size + (Made.depth - 1)) + 1 := by rw [Nat.add_assoc]; rfl
  split at h <;> first | (cases h; done) | skip
  all_goals
    cases h
    rw [hf]
    intros
    simp [method, Try.typeInfo45, Try.t45, follow, receiverAt, Try.runUnderlying45, Place.get, wrap_ok, asAddr]
  all_goals
    intro a v w h
    simp [h]
def tab : Tab := tabOf tr meth
theorem tab_is : TabOk Try.prog tab := tab_ok tr_ok meth_ok (by kernel_rfl)

/-- hawala/hawalalaw13.DueAll -/
def pl3 : Nat → Plan
  | _ => .done

/-- hawala/hawalalaw13.DueMore -/
def pl4 : Nat → Plan
  | 4 => (.take 0 (.alt 1 (.last 2 (.last 3 (.last 4 (.last 5 (.take 6 .done))))) (.last 2 (.last 1 (.last 3 (.last 4 (.last 5 (.take 6 .done))))))))
  | 12 => (.take 0 (.take 1 (.last 2 (.last 3 (.take 4 (.take 5 (.take 8 (.take 9 (.take 11 (.last 6 (.take 7 (.take 10 (.last 12 (.take 13 (.take 14 (.take 15 (.take 16 (.take 17 .done))))))))))))))))))
  | _ => .done

/-- hawala/hawalalaw13.DueCount -/
def pl5 : Nat → Plan
  | _ => .done

/-- hawala/hawalalaw13.DueBy -/
def pl6 : Nat → Plan
  | _ => .done

/-- hawala/hawalalaw13.DueNext -/
def pl7 : Nat → Plan
  | _ => .done

/-- hawala/hawalalaw13.DueTime -/
def pl8 : Nat → Plan
  | _ => .done

/-- hawala/hawalalaw13.awake -/
def pl9 : Nat → Plan
  | _ => .done

/-- hawala/hawalalaw13.Payments -/
def pl10 : Nat → Plan
  | _ => .done

/-- hawala/hawalalaw13.same -/
def pl11 : Nat → Plan
  | 6 => (.take 0 (.take 1 (.take 2 (.take 3 (.take 4 (.take 5 (.take 6 (.take 7 (.take 8 .done)))))))))
  | _ => .done

/-- hawala/due.All -/
def pl12 : Nat → Plan
  | _ => .done

/-- hawala/hawalalaw13.all -/
def pl13 : Nat → Plan
  | 7 => (.take 0 (.take 1 (.take 2 (.take 3 (.take 4 (.take 5 (.take 6 (.take 7 (.take 8 (.take 9 (.take 10 (.take 11 (.take 12 (.take 13 (.take 14 (.take 15 (.take 16 (.take 17 (.take 18 (.take 19 (.take 20 (.take 21 (.take 22 (.take 23 .done))))))))))))))))))))))))
  | _ => .done

/-- (hawala/hawalalaw12.Paid).Payment -/
def pl14 : Nat → Plan
  | _ => .done

/-- hawala/due.By -/
def pl15 : Nat → Plan
  | _ => .done

/-- hawala/due.Next -/
def pl16 : Nat → Plan
  | _ => .done

/-- container/heap.Push -/
def pl17 : Nat → Plan
  | _ => .done

/-- (hawala/due.row).Len -/
def pl18 : Nat → Plan
  | _ => .done

/-- container/heap.Pop -/
def pl19 : Nat → Plan
  | _ => .done

/-- container/heap.up -/
def pl20 : Nat → Plan
  | _ => .done

/-- container/heap.down -/
def pl21 : Nat → Plan
  | _ => .done

/-- (hawala/due.row).Less -/
def pl38 : Nat → Plan
  | 1 => (.take 0 (.take 1 (.take 2 (.take 3 (.take 4 (.take 5 (.take 6 (.take 7 (.take 8 (.take 9 (.take 10 (.take 11 (.take 12 (.take 13 (.take 14 (.take 15 (.take 16 (.take 17 (.take 18 (.take 19 (.take 20 (.take 21 (.take 22 (.take 23 (.take 24 (.take 25 (.take 26 (.take 27 (.take 28 (.take 29 (.take 30 (.take 31 (.take 32 (.take 33 (.take 34 (.take 35 (.take 36 (.take 37 .done))))))))))))))))))))))))))))))))))))))
  | _ => .done

/-- (*hawala/due.row).Pop -/
def pl39 : Nat → Plan
  | _ => .done

/-- (*hawala/due.row).Push -/
def pl40 : Nat → Plan
  | 0 => (.take 0 (.take 1 (.take 2 (.take 4 (.take 5 (.alt 3 (.last 6 (.last 7 (.take 8 (.last 9 .done)))) (.last 6 (.last 3 (.last 7 (.take 8 (.last 9 .done)))))))))))
  | _ => .done

/-- (hawala/due.row).Swap -/
def pl41 : Nat → Plan
  | 0 => (.take 0 (.take 1 (.take 2 (.take 3 (.take 4 (.take 5 (.take 6 (.take 8 (.take 9 (.take 10 (.alt 7 (.last 11 (.take 12 (.last 13 (.take 14 (.last 15 .done))))) (.last 11 (.last 7 (.take 12 (.last 13 (.take 14 (.last 15 .done)))))))))))))))))
  | _ => .done
end Go.Proofs.Ytgikhdaildaonaa.A
