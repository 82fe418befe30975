/- The seat's types' tree and the plans of the drawn regions: both printed by a program (wip/core/Gen.tpl). -/
import Derived.Test.YtbpcofnhndgoeaaDoorGC
import Derived.Test.YtbpcofnhndgoeaaDoorProg
import Derived.KernelRfl
namespace Go.Proofs.YtbpcofnhndgoeaaDoor.A
open Go
def tr : Bt TE := (.node none (.node (some ⟨.func, 1, 8, (.one .kf)⟩) (.node (some ⟨(.int .i64), 1, 8, (.one (.ki .i64))⟩) (.node (some ⟨(.struct [(0, 2), (1, 3), (2, 4), (3, 6)]), 4, 24, (.agg [(.ki .i64), (.ki .i64), .kb, (.ki .u8)])⟩) (.node (some ⟨(.ptr 139), 1, 8, (.one .kp)⟩) (.node (some ⟨.func, 1, 8, (.one .kf)⟩) (.node (some ⟨(.struct [(0, 5), (1, 54), (2, 22)]), 3, 56, (.agg [(.ki .u8), .kl, .kl])⟩) (.node (some ⟨(.int .u64), 1, 8, (.one (.ki .u64))⟩) .nil
 .nil)
 .nil)
 (.node (some ⟨(.int .u8), 1, 1, (.one (.ki .u8))⟩) (.node (some ⟨(.slice 162), 1, 24, (.one .kl)⟩) .nil
 .nil)
 .nil))
 (.node (some ⟨(.ptr 82), 1, 8, (.one .kp)⟩) (.node (some ⟨(.int .u64), 1, 8, (.one (.ki .u64))⟩) (.node (some ⟨.func, 1, 8, (.one .kf)⟩) .nil
 .nil)
 .nil)
 (.node (some ⟨.iface, 1, 16, (.one .kn)⟩) .nil
 .nil)))
 (.node (some ⟨.func, 1, 8, (.one .kf)⟩) (.node (some ⟨(.slice 3), 1, 24, (.one .kl)⟩) (.node (some ⟨(.ptr 73), 1, 8, (.one .kp)⟩) (.node none .nil
 .nil)
 .nil)
 (.node (some ⟨.func, 1, 8, (.one .kf)⟩) .nil
 .nil))
 (.node (some ⟨.func, 1, 8, (.one .kf)⟩) (.node none (.node (some ⟨.func, 1, 8, (.one .kf)⟩) .nil
 .nil)
 .nil)
 (.node (some ⟨.func, 1, 8, (.one .kf)⟩) .nil
 .nil))))
 (.node (some ⟨.str, 1, 16, (.one .ks)⟩) (.node (some ⟨(.struct [(0, 17)]), 1, 8, (.agg [.kp])⟩) (.node (some ⟨.func, 1, 8, (.one .kf)⟩) (.node (some ⟨.func, 1, 8, (.one .kf)⟩) (.node (some ⟨(.ptr 3), 1, 8, (.one .kp)⟩) .nil
 .nil)
 .nil)
 (.node (some ⟨.func, 1, 8, (.one .kf)⟩) (.node (some ⟨(.ptr 27), 1, 8, (.one .kp)⟩) .nil
 .nil)
 .nil))
 (.node (some ⟨.func, 1, 8, (.one .kf)⟩) (.node none (.node (some ⟨(.int .i32), 1, 4, (.one (.ki .i32))⟩) .nil
 .nil)
 .nil)
 (.node (some ⟨.func, 1, 8, (.one .kf)⟩) .nil
 .nil)))
 (.node (some ⟨.iface, 1, 16, (.one .kn)⟩) (.node (some ⟨.func, 1, 8, (.one .kf)⟩) (.node (some ⟨(.ptr 34), 1, 8, (.one .kp)⟩) (.node (some ⟨(.struct [(0, 17), (1, 17), (2, 17), (3, 9)]), 4, 40, (.agg [.kp, .kp, .kp, .ks])⟩) .nil
 .nil)
 .nil)
 (.node none .nil
 .nil))
 (.node (some ⟨.func, 1, 8, (.one .kf)⟩) (.node (some ⟨.func, 1, 8, (.one .kf)⟩) (.node (some ⟨(.ptr 158), 1, 8, (.one .kp)⟩) .nil
 .nil)
 .nil)
 (.node none .nil
 .nil)))))
 (.node (some ⟨(.int .u8), 1, 1, (.one (.ki .u8))⟩) (.node (some ⟨.str, 1, 16, (.one .ks)⟩) (.node (some ⟨(.ptr 150), 1, 8, (.one .kp)⟩) (.node (some ⟨.func, 1, 8, (.one .kf)⟩) (.node (some ⟨.func, 1, 8, (.one .kf)⟩) (.node (some ⟨.func, 1, 8, (.one .kf)⟩) .nil
 .nil)
 .nil)
 (.node (some ⟨.func, 1, 8, (.one .kf)⟩) (.node (some ⟨(.struct [(0, 147), (1, 148), (2, 160), (3, 160)]), 4, 16, (.agg [(.ki .i32), (.ki .i32), (.ki .i32), (.ki .i32)])⟩) .nil
 .nil)
 .nil))
 (.node (some ⟨.func, 1, 8, (.one .kf)⟩) (.node (some ⟨(.struct [(0, 24), (1, 3), (2, 22), (3, 54), (4, 4)]), 5, 72, (.agg [.kp, (.ki .i64), .kl, .kl, .kb])⟩) (.node (some ⟨.func, 1, 8, (.one .kf)⟩) .nil
 .nil)
 .nil)
 (.node (some ⟨.func, 1, 8, (.one .kf)⟩) .nil
 .nil)))
 (.node (some ⟨.func, 1, 8, (.one .kf)⟩) (.node (some ⟨.func, 1, 8, (.one .kf)⟩) (.node (some ⟨(.struct [(0, 22), (1, 3)]), 2, 32, (.agg [.kl, (.ki .i64)])⟩) (.node (some ⟨.func, 1, 8, (.one .kf)⟩) .nil
 .nil)
 .nil)
 (.node (some ⟨.func, 1, 8, (.one .kf)⟩) .nil
 .nil))
 (.node (some ⟨.func, 1, 8, (.one .kf)⟩) (.node none (.node (some ⟨(.struct [(0, 9), (1, 95)]), 2, 24, (.agg [.ks, (.ki .u8)])⟩) .nil
 .nil)
 .nil)
 (.node (some ⟨.func, 1, 8, (.one .kf)⟩) .nil
 .nil))))
 (.node (some ⟨(.struct [(0, 9), (1, 12)]), 2, 24, (.agg [.ks, (.ki .u64)])⟩) (.node (some ⟨(.int .i32), 1, 4, (.one (.ki .i32))⟩) (.node (some ⟨(.int .i8), 1, 1, (.one (.ki .i8))⟩) (.node (some ⟨(.struct [(0, 68), (1, 3), (2, 3), (3, 4)]), 4, 32, (.agg [.km, (.ki .i64), (.ki .i64), .kb])⟩) (.node (some ⟨.func, 1, 8, (.one .kf)⟩) .nil
 .nil)
 .nil)
 (.node (some ⟨(.struct [(0, 17)]), 1, 8, (.agg [.kp])⟩) .nil
 .nil))
 (.node (some ⟨.func, 1, 8, (.one .kf)⟩) (.node (some ⟨(.int .u64), 1, 8, (.one (.ki .u64))⟩) (.node (some ⟨(.struct [(0, 12), (1, 12), (2, 77), (3, 144), (4, 5), (5, 5), (6, 95), (7, 145), (8, 146), (9, 147), (10, 148)]), 11, 48, (.agg [(.ki .u64), (.ki .u64), (.ki .u32), (.ki .u8), (.ki .u8), (.ki .u8), (.ki .u8), .kf, .kp, (.ki .i32), (.ki .i32)])⟩) .nil
 .nil)
 .nil)
 (.node (some ⟨(.int .i64), 1, 8, (.one (.ki .i64))⟩) .nil
 .nil)))
 (.node (some ⟨.func, 1, 8, (.one .kf)⟩) (.node none (.node (some ⟨(.int .u32), 1, 4, (.one (.ki .u32))⟩) (.node (some ⟨(.struct [(0, 140)]), 0, 0, (.agg [])⟩) .nil
 .nil)
 .nil)
 (.node (some ⟨.iface, 1, 16, (.one .kn)⟩) .nil
 .nil))
 (.node (some ⟨.func, 1, 8, (.one .kf)⟩) (.node (some ⟨.iface, 1, 16, (.one .kn)⟩) (.node (some ⟨(.struct [(0, 147), (1, 60), (2, 60), (3, 77), (4, 77)]), 5, 16, (.agg [(.ki .i32), (.ki .u16), (.ki .u16), (.ki .u32), (.ki .u32)])⟩) .nil
 .nil)
 .nil)
 (.node (some ⟨.func, 1, 8, (.one .kf)⟩) .nil
 .nil))))))
 (.node (some ⟨(.int .i64), 1, 8, (.one (.ki .i64))⟩) (.node (some ⟨.bool, 1, 1, (.one .kb)⟩) (.node (some ⟨(.struct [(0, 2), (1, 3), (2, 4), (3, 6)]), 4, 24, (.agg [(.ki .i64), (.ki .i64), .kb, (.ki .u8)])⟩) (.node (some ⟨(.ptr 142), 1, 8, (.one .kp)⟩) (.node none (.node (some ⟨(.struct [(0, 5), (1, 54), (2, 22)]), 3, 56, (.agg [(.ki .u8), .kl, .kl])⟩) (.node (some ⟨.func, 1, 8, (.one .kf)⟩) .nil
 .nil)
 .nil)
 (.node (some ⟨.func, 1, 8, (.one .kf)⟩) (.node (some ⟨(.int .i32), 1, 4, (.one (.ki .i32))⟩) .nil
 .nil)
 .nil))
 (.node none (.node (some ⟨.func, 1, 8, (.one .kf)⟩) (.node (some ⟨(.int .u8), 1, 1, (.one (.ki .u8))⟩) .nil
 .nil)
 .nil)
 (.node (some ⟨(.slice 27), 1, 24, (.one .kl)⟩) .nil
 .nil)))
 (.node (some ⟨(.ptr 70), 1, 8, (.one .kp)⟩) (.node (some ⟨.func, 1, 8, (.one .kf)⟩) (.node (some ⟨(.struct [(0, 22), (1, 3)]), 2, 32, (.agg [.kl, (.ki .i64)])⟩) (.node (some ⟨.func, 1, 8, (.one .kf)⟩) .nil
 .nil)
 .nil)
 (.node (some ⟨.func, 1, 8, (.one .kf)⟩) .nil
 .nil))
 (.node (some ⟨(.slice 9), 1, 24, (.one .kl)⟩) (.node (some ⟨(.int .u64), 1, 8, (.one (.ki .u64))⟩) (.node (some ⟨.func, 1, 8, (.one .kf)⟩) .nil
 .nil)
 .nil)
 (.node (some ⟨.func, 1, 8, (.one .kf)⟩) .nil
 .nil))))
 (.node (some ⟨(.int .u64), 1, 8, (.one (.ki .u64))⟩) (.node (some ⟨.iface, 1, 16, (.one .kn)⟩) (.node (some ⟨.func, 1, 8, (.one .kf)⟩) (.node (some ⟨(.mp 3 71), 1, 8, (.one .km)⟩) (.node (some ⟨.func, 1, 8, (.one .kf)⟩) .nil
 .nil)
 .nil)
 (.node (some ⟨(.struct [(0, 17)]), 1, 8, (.agg [.kp])⟩) .nil
 .nil))
 (.node (some ⟨.func, 1, 8, (.one .kf)⟩) (.node (some ⟨.func, 1, 8, (.one .kf)⟩) (.node (some ⟨(.int .i32), 1, 4, (.one (.ki .i32))⟩) .nil
 .nil)
 .nil)
 (.node (some ⟨.func, 1, 8, (.one .kf)⟩) .nil
 .nil)))
 (.node (some ⟨.func, 1, 8, (.one .kf)⟩) (.node (some ⟨.func, 1, 8, (.one .kf)⟩) (.node (some ⟨.func, 1, 8, (.one .kf)⟩) (.node (some ⟨(.arr 0 16), 0, 0, (.agg [])⟩) .nil
 .nil)
 .nil)
 (.node (some ⟨.func, 1, 8, (.one .kf)⟩) .nil
 .nil))
 (.node (some ⟨(.int .u16), 1, 2, (.one (.ki .u16))⟩) (.node (some ⟨.iface, 1, 16, (.one .kn)⟩) (.node (some ⟨.func, 1, 8, (.one .kf)⟩) .nil
 .nil)
 .nil)
 (.node (some ⟨.func, 1, 8, (.one .kf)⟩) .nil
 .nil)))))
 (.node (some ⟨(.int .u8), 1, 1, (.one (.ki .u8))⟩) (.node (some ⟨.str, 1, 16, (.one .ks)⟩) (.node (some ⟨(.struct [(0, 17)]), 1, 8, (.agg [.kp])⟩) (.node (some ⟨(.int .i64), 1, 8, (.one (.ki .i64))⟩) (.node (some ⟨.func, 1, 8, (.one .kf)⟩) (.node (some ⟨.func, 1, 8, (.one .kf)⟩) .nil
 .nil)
 .nil)
 (.node (some ⟨.func, 1, 8, (.one .kf)⟩) (.node (some ⟨(.struct [(0, 147), (1, 148), (2, 160), (3, 160)]), 4, 16, (.agg [(.ki .i32), (.ki .i32), (.ki .i32), (.ki .i32)])⟩) .nil
 .nil)
 .nil))
 (.node none (.node (some ⟨(.struct [(0, 24), (1, 3), (2, 22), (3, 54), (4, 4)]), 5, 72, (.agg [.kp, (.ki .i64), .kl, .kl, .kb])⟩) (.node (some ⟨(.ptr 5), 1, 8, (.one .kp)⟩) .nil
 .nil)
 .nil)
 (.node (some ⟨.func, 1, 8, (.one .kf)⟩) .nil
 .nil)))
 (.node (some ⟨.iface, 1, 16, (.one .kn)⟩) (.node (some ⟨.func, 1, 8, (.one .kf)⟩) (.node (some ⟨.func, 1, 8, (.one .kf)⟩) (.node (some ⟨(.struct [(0, 17), (1, 17), (2, 17), (3, 9)]), 4, 40, (.agg [.kp, .kp, .kp, .ks])⟩) .nil
 .nil)
 .nil)
 (.node (some ⟨.iface, 1, 16, (.one .kn)⟩) .nil
 .nil))
 (.node (some ⟨.func, 1, 8, (.one .kf)⟩) (.node none (.node (some ⟨(.struct [(0, 9), (1, 95)]), 2, 24, (.agg [.ks, (.ki .u8)])⟩) .nil
 .nil)
 .nil)
 (.node (some ⟨.func, 1, 8, (.one .kf)⟩) .nil
 .nil))))
 (.node (some ⟨(.struct [(0, 9), (1, 12)]), 2, 24, (.agg [.ks, (.ki .u64)])⟩) (.node (some ⟨(.slice 5), 1, 24, (.one .kl)⟩) (.node (some ⟨.func, 1, 8, (.one .kf)⟩) (.node (some ⟨(.struct [(0, 68), (1, 3), (2, 3), (3, 4)]), 4, 32, (.agg [.km, (.ki .i64), (.ki .i64), .kb])⟩) (.node (some ⟨(.ptr 127), 1, 8, (.one .kp)⟩) .nil
 .nil)
 .nil)
 (.node (some ⟨(.ptr 154), 1, 8, (.one .kp)⟩) .nil
 .nil))
 (.node (some ⟨(.slice 22), 1, 24, (.one .kl)⟩) (.node (some ⟨.func, 1, 8, (.one .kf)⟩) (.node (some ⟨(.struct [(0, 12), (1, 12), (2, 77), (3, 144), (4, 5), (5, 5), (6, 95), (7, 145), (8, 146), (9, 147), (10, 148)]), 11, 48, (.agg [(.ki .u64), (.ki .u64), (.ki .u32), (.ki .u8), (.ki .u8), (.ki .u8), (.ki .u8), .kf, .kp, (.ki .i32), (.ki .i32)])⟩) .nil
 .nil)
 .nil)
 (.node none .nil
 .nil)))
 (.node (some ⟨.func, 1, 8, (.one .kf)⟩) (.node (some ⟨.func, 1, 8, (.one .kf)⟩) (.node (some ⟨.func, 1, 8, (.one .kf)⟩) (.node (some ⟨(.struct [(0, 140)]), 0, 0, (.agg [])⟩) .nil
 .nil)
 .nil)
 (.node (some ⟨.func, 1, 8, (.one .kf)⟩) .nil
 .nil))
 (.node (some ⟨(.slice 64), 1, 24, (.one .kl)⟩) (.node (some ⟨.func, 1, 8, (.one .kf)⟩) (.node (some ⟨(.struct [(0, 147), (1, 60), (2, 60), (3, 77), (4, 77)]), 5, 16, (.agg [(.ki .i32), (.ki .u16), (.ki .u16), (.ki .u32), (.ki .u32)])⟩) .nil
 .nil)
 .nil)
 (.node (some ⟨.func, 1, 8, (.one .kf)⟩) .nil
 .nil)))))))
set_option maxRecDepth 100000 in
theorem tr_ok : treeOk Tryd.prog tr = true := by kernel_rfl
def meth : TypeId → String → Option (FuncId × Option TypeId) := fun _ _ => none
def tab0 : Tab := tabOf tr meth
theorem tab0_is : TabOk Tryd.prog tab0 := tab_ok tr_ok (by intro t n f d h; cases h) (by kernel_rfl)
def eqK : TypeId → Option (List LK)
  | _ => none
def tab : Tab := { tab0 with eqT := eqK }
set_option maxRecDepth 100000 in
theorem tab_is : TabOk Tryd.prog tab := tab_eq tab0_is eqK (by
  intro t ks h
  unfold eqK at h
  split at h <;> first | (cases h; done) | (cases h; exact ⟨by kernel_rfl, by kernel_rfl, by kernel_rfl, by kernel_rfl⟩))
/-- hawala/hawalalaw05.DiskRename -/
def pl3 : Nat → Plan
  | 3 => (.take 0 (.take 1 (.take 2 (.take 3 (.take 5 (.take 6 (.take 7 (.take 8 (.alt 4 (.take 10 (.last 9 (.take 11 .done))) (.last 9 (.last 4 (.take 10 (.take 11 .done)))))))))))))
  | _ => .done

/-- hawala/hawalalaw05.DiskCut -/
def pl4 : Nat → Plan
  | 3 => (.take 0 (.take 1 (.take 2 (.take 3 (.take 5 (.take 6 (.take 7 (.take 8 (.alt 4 (.take 10 (.last 9 (.take 11 .done))) (.last 9 (.last 4 (.take 10 (.take 11 .done)))))))))))))
  | 13 => (.take 0 (.take 1 (.take 2 (.take 3 (.take 4 (.take 5 (.take 6 (.take 7 (.take 9 (.take 10 (.alt 8 (.last 11 (.last 12 (.take 13 (.take 14 (.take 15 (.take 16 (.take 17 (.cut 18 (.take 19 (.take 20 .done)))))))))) (.last 11 (.alt 8 (.last 12 (.take 13 (.take 14 (.take 15 (.take 16 (.take 17 (.cut 18 (.take 19 (.take 20 .done))))))))) (.last 12 (.last 8 (.take 13 (.take 14 (.take 15 (.take 16 (.take 17 (.cut 18 (.take 19 (.take 20 .done)))))))))))))))))))))))
  | 16 => (.take 0 (.take 2 (.take 3 (.take 6 (.alt 1 (.alt 4 (.alt 5 (.last 7 (.take 8 (.take 9 (.take 10 (.take 11 (.cut 12 (.cut 13 (.take 14 (.take 15 (.take 16 .done)))))))))) (.last 7 (.last 5 (.take 8 (.take 9 (.take 10 (.take 11 (.cut 12 (.cut 13 (.take 14 (.take 15 (.take 16 .done)))))))))))) (.last 7 (.last 4 (.last 5 (.take 8 (.take 9 (.take 10 (.take 11 (.cut 12 (.cut 13 (.take 14 (.take 15 (.take 16 .done))))))))))))) (.alt 4 (.alt 1 (.alt 5 (.last 7 (.take 8 (.take 9 (.take 10 (.take 11 (.cut 12 (.cut 13 (.take 14 (.take 15 (.take 16 .done)))))))))) (.last 7 (.last 5 (.take 8 (.take 9 (.take 10 (.take 11 (.cut 12 (.cut 13 (.take 14 (.take 15 (.take 16 .done)))))))))))) (.alt 5 (.alt 1 (.last 7 (.take 8 (.take 9 (.take 10 (.take 11 (.cut 12 (.cut 13 (.take 14 (.take 15 (.take 16 .done)))))))))) (.last 7 (.take 8 (.last 1 (.take 9 (.take 10 (.take 11 (.cut 12 (.cut 13 (.take 14 (.take 15 (.take 16 .done)))))))))))) (.last 7 (.alt 1 (.last 5 (.take 8 (.take 9 (.take 10 (.take 11 (.cut 12 (.cut 13 (.take 14 (.take 15 (.take 16 .done)))))))))) (.last 5 (.take 8 (.last 1 (.take 9 (.take 10 (.take 11 (.cut 12 (.cut 13 (.take 14 (.take 15 (.take 16 .done))))))))))))))) (.last 7 (.alt 1 (.last 4 (.last 5 (.take 8 (.take 9 (.take 10 (.take 11 (.cut 12 (.cut 13 (.take 14 (.take 15 (.take 16 .done))))))))))) (.last 4 (.alt 1 (.last 5 (.take 8 (.take 9 (.take 10 (.take 11 (.cut 12 (.cut 13 (.take 14 (.take 15 (.take 16 .done)))))))))) (.last 5 (.take 8 (.last 1 (.take 9 (.take 10 (.take 11 (.cut 12 (.cut 13 (.take 14 (.take 15 (.take 16 .done)))))))))))))))))))))
  | _ => .done

/-- hawala/hawalalaw05.DiskRoom -/
def pl5 : Nat → Plan
  | _ => .done

/-- hawala/hawalalaw06.JournalForm -/
def pl6 : Nat → Plan
  | 3 => (.take 0 (.take 1 (.take 2 (.take 3 (.take 5 (.take 6 (.take 7 (.take 8 (.alt 4 (.take 10 (.last 9 (.take 11 .done))) (.last 9 (.last 4 (.take 10 (.take 11 .done)))))))))))))
  | _ => .done

/-- hawala/hawalalaw06.JournalFull -/
def pl7 : Nat → Plan
  | 3 => (.take 0 (.take 2 (.take 3 (.take 4 (.take 5 (.alt 1 (.take 7 (.last 6 (.take 8 .done))) (.last 6 (.last 1 (.take 7 (.take 8 .done))))))))))
  | _ => .done

/-- hawala/hawalalaw06.JournalLong -/
def pl8 : Nat → Plan
  | _ => .done

/-- hawala/hawalalaw06.JournalStops -/
def pl9 : Nat → Plan
  | _ => .done

/-- hawala/hawalalaw05.awake -/
def pl10 : Nat → Plan
  | _ => .done

/-- hawala/disk.Of -/
def pl11 : Nat → Plan
  | _ => .done

/-- (*hawala/disk.Disk).Append -/
def pl12 : Nat → Plan
  | 3 => (.take 0 (.take 2 (.take 3 (.take 5 (.take 6 (.take 7 (.take 8 (.last 1 (.take 4 (.take 9 .done))))))))))
  | _ => .done

/-- (*hawala/disk.Disk).Sync -/
def pl13 : Nat → Plan
  | _ => .done

/-- (*hawala/disk.Disk).Rename -/
def pl14 : Nat → Plan
  | _ => .done

/-- (*hawala/disk.Disk).Restart -/
def pl15 : Nat → Plan
  | 3 => (.take 0 (.take 1 (.take 2 (.take 3 (.take 4 (.take 5 (.take 6 (.take 7 (.take 8 (.take 9 (.take 10 .done)))))))))))
  | 7 => (.take 0 (.take 1 (.take 2 (.take 3 (.take 4 (.take 5 (.take 6 (.take 7 (.take 8 (.take 9 (.take 10 (.last 11 (.take 12 (.take 13 (.cut 14 .done)))))))))))))))
  | _ => .done

/-- (*hawala/disk.Disk).Read -/
def pl16 : Nat → Plan
  | _ => .done

/-- hawala/api.Number -/
def pl17 : Nat → Plan
  | _ => .done

/-- (*hawala/disk.Disk).Cut -/
def pl18 : Nat → Plan
  | _ => .done

/-- (*hawala/disk.Disk).Names -/
def pl19 : Nat → Plan
  | _ => .done

/-- (*hawala/disk.Disk).Used -/
def pl20 : Nat → Plan
  | _ => .done

/-- hawala/hawalalaw06.awake -/
def pl21 : Nat → Plan
  | _ => .done

/-- hawala/frame.Make -/
def pl22 : Nat → Plan
  | _ => .done

/-- hawala/varint.All -/
def pl23 : Nat → Plan
  | _ => .done

/-- hawala/frame.One -/
def pl24 : Nat → Plan
  | 3 => (.take 0 (.take 1 (.take 2 (.take 3 (.take 4 (.take 5 (.take 6 (.take 7 (.take 8 (.take 9 (.take 10 .done)))))))))))
  | 6 => (.take 0 (.take 1 (.take 2 (.take 3 (.take 4 (.take 5 (.take 6 (.take 7 (.take 8 (.take 9 (.take 10 (.take 11 (.take 12 (.take 13 (.take 14 (.take 15 (.take 16 (.take 17 (.take 18 (.take 19 (.take 20 (.take 21 (.take 22 .done)))))))))))))))))))))))
  | _ => .done

/-- hawala/journal.Open -/
def pl25 : Nat → Plan
  | _ => .done

/-- hawala/varint.Get -/
def pl26 : Nat → Plan
  | 13 => (.take 0 (.take 1 (.take 2 (.take 3 (.take 5 (.last 4 (.take 6 (.take 7 .done))))))))
  | _ => .done

/-- hawala/hawalalaw06.Shows -/
def pl27 : Nat → Plan
  | 7 => (.take 0 (.take 1 (.take 2 (.take 3 (.take 5 (.take 6 (.take 7 (.take 8 (.last 4 (.take 9 .done))))))))))
  | _ => .done

/-- hawala/hawalalaw04.Few -/
def pl28 : Nat → Plan
  | _ => .done

/-- (*hawala/journal.Journal).Append -/
def pl29 : Nat → Plan
  | 18 => (.take 0 (.take 1 (.take 2 (.take 3 (.take 4 (.take 5 (.last 6 (.last 7 (.last 8 (.take 9 (.take 10 (.cut 11 .done))))))))))))
  | _ => .done

/-- (*hawala/journal.Journal).Save -/
def pl30 : Nat → Plan
  | _ => .done

/-- (*hawala/journal.Journal).Broken -/
def pl31 : Nat → Plan
  | _ => .done

/-- (*hawala/disk.Disk).Arm -/
def pl32 : Nat → Plan
  | _ => .done

/-- (hawala/hawalalaw06.Act).bytes -/
def pl33 : Nat → Plan
  | _ => .done

/-- (*hawala/disk.Disk).Stopped -/
def pl34 : Nat → Plan
  | _ => .done

/-- (hawala/hawalalaw06.Act).few -/
def pl35 : Nat → Plan
  | _ => .done

/-- (*hawala/disk.Disk).works -/
def pl36 : Nat → Plan
  | _ => .done

/-- sort.Ints -/
def pl38 : Nat → Plan
  | _ => .done

/-- (*hawala/journal.Journal).Base -/
def pl39 : Nat → Plan
  | _ => .done

/-- (*hawala/journal.Journal).Records -/
def pl40 : Nat → Plan
  | _ => .done

/-- (*hawala/journal.Journal).Turn -/
def pl41 : Nat → Plan
  | _ => .done

/-- hawala/crc.Sum -/
def pl42 : Nat → Plan
  | _ => .done

/-- hawala/varint.Put -/
def pl43 : Nat → Plan
  | _ => .done

/-- (*hawala/disk.Disk).Remove -/
def pl44 : Nat → Plan
  | _ => .done

/-- hawala/frame.Scan -/
def pl45 : Nat → Plan
  | _ => .done

/-- (*hawala/journal.Journal).put -/
def pl46 : Nat → Plan
  | _ => .done

/-- (*hawala/journal.Journal).fail -/
def pl47 : Nat → Plan
  | _ => .done

/-- slices.Sort[[]int,int] -/
def pl52 : Nat → Plan
  | _ => .done

/-- hawala/crc.step -/
def pl53 : Nat → Plan
  | _ => .done

/-- slices.pdqsortOrdered[int] -/
def pl57 : Nat → Plan
  | 17 => (.take 0 (.take 1 (.take 2 (.take 3 (.take 4 (.take 5 (.take 6 (.take 7 (.take 8 (.take 9 (.take 10 (.take 11 (.cut 12 (.take 13 (.take 14 .done)))))))))))))))
  | _ => .done

/-- math/bits.Len -/
def pl58 : Nat → Plan
  | _ => .done

/-- slices.insertionSortOrdered[int] -/
def pl59 : Nat → Plan
  | 4 => (.take 0 (.take 1 (.take 2 (.take 3 (.take 4 (.take 5 (.take 6 (.take 7 (.take 8 (.take 9 (.take 10 (.take 11 (.take 12 (.cut 13 (.take 14 .done)))))))))))))))
  | 6 => (.take 0 (.take 1 (.take 2 (.take 3 (.take 4 (.take 5 (.take 6 (.take 7 (.take 8 (.take 9 (.take 10 (.take 11 (.take 12 (.take 13 (.take 14 (.last 15 (.take 16 (.cut 17 .done))))))))))))))))))
  | _ => .done

/-- slices.heapSortOrdered[int] -/
def pl60 : Nat → Plan
  | 10 => (.take 0 (.take 1 (.take 2 (.take 3 (.take 4 (.take 5 (.take 6 (.take 7 (.take 8 (.take 9 (.take 10 (.take 11 (.take 12 (.take 13 (.take 14 (.take 15 (.take 16 (.last 17 (.take 18 (.cut 19 .done))))))))))))))))))))
  | _ => .done

/-- slices.breakPatternsOrdered[int] -/
def pl61 : Nat → Plan
  | 10 => (.take 0 (.take 1 (.take 2 (.take 3 (.take 4 (.take 5 (.take 6 (.take 7 (.take 8 (.take 9 (.take 10 (.take 11 (.take 12 (.take 13 (.take 14 (.take 15 (.take 16 (.last 17 (.take 18 (.cut 19 .done))))))))))))))))))))
  | _ => .done

/-- slices.choosePivotOrdered[int] -/
def pl62 : Nat → Plan
  | _ => .done

/-- slices.reverseRangeOrdered[int] -/
def pl63 : Nat → Plan
  | 3 => (.take 0 (.take 1 (.take 2 (.take 3 (.take 4 (.take 5 (.take 6 (.take 7 (.take 8 (.take 9 (.take 10 (.take 11 (.take 12 (.last 13 (.take 14 (.cut 15 .done))))))))))))))))
  | _ => .done

/-- slices.partialInsertionSortOrdered[int] -/
def pl64 : Nat → Plan
  | 5 => (.take 0 (.take 1 (.take 2 (.take 3 (.take 4 (.take 5 (.take 6 (.take 7 (.take 8 (.take 9 (.take 10 (.take 11 (.take 12 (.cut 13 (.take 14 (.take 15 .done))))))))))))))))
  | 11 => (.take 0 (.take 1 (.take 2 (.take 3 (.take 4 (.take 5 (.take 6 (.take 7 (.take 8 (.take 9 (.take 10 (.take 11 (.take 12 (.take 13 (.take 14 (.last 15 (.take 16 (.cut 17 .done))))))))))))))))))
  | 16 => (.take 0 (.take 1 (.take 2 (.take 3 (.take 4 (.take 5 (.take 6 (.take 7 (.take 8 (.cut 9 (.take 10 .done)))))))))))
  | 17 => (.take 0 (.take 1 (.take 2 (.take 3 (.take 4 (.take 5 (.take 6 (.take 7 (.take 8 (.take 9 (.take 10 (.take 11 (.take 12 (.take 13 (.take 14 (.last 15 (.take 16 (.cut 17 .done))))))))))))))))))
  | 22 => (.take 0 (.take 1 (.take 2 (.take 3 (.take 4 (.take 5 (.take 6 (.take 7 (.take 8 (.cut 9 (.take 10 .done)))))))))))
  | 23 => (.take 0 (.take 1 (.take 2 (.take 3 (.take 4 (.take 5 (.take 6 (.take 7 (.take 8 (.take 9 (.take 10 (.take 11 (.take 12 (.take 13 (.take 14 (.last 15 (.take 16 (.cut 17 .done))))))))))))))))))
  | _ => .done

/-- cmp.Less[int] -/
def pl65 : Nat → Plan
  | _ => .done

/-- slices.partitionEqualOrdered[int] -/
def pl66 : Nat → Plan
  | 1 => (.take 0 (.take 1 (.take 2 (.take 3 (.take 4 (.take 5 (.take 6 (.take 7 (.take 8 (.take 9 (.take 10 (.take 11 (.take 12 (.last 13 (.take 14 (.cut 15 .done))))))))))))))))
  | 3 => (.take 0 (.take 1 (.take 2 (.take 3 (.take 4 (.take 5 (.take 6 (.take 7 (.take 8 (.take 9 (.take 10 (.take 11 (.cut 12 (.take 13 (.take 14 .done)))))))))))))))
  | 5 => (.take 0 (.take 1 (.take 2 (.take 3 (.take 4 (.take 5 (.take 6 (.take 7 (.take 8 (.take 9 (.take 10 (.take 11 (.cut 12 (.take 13 .done))))))))))))))
  | 8 => (.take 0 (.take 1 (.take 2 (.take 3 (.take 4 (.take 5 (.take 6 (.take 7 (.take 8 (.take 9 (.take 10 (.take 11 (.take 12 (.last 13 (.take 14 (.cut 15 .done))))))))))))))))
  | _ => .done

/-- slices.partitionOrdered[int] -/
def pl67 : Nat → Plan
  | 1 => (.take 0 (.take 1 (.take 2 (.take 3 (.take 4 (.take 5 (.take 6 (.take 7 (.take 8 (.take 9 (.take 10 (.take 11 (.take 12 (.last 13 (.take 14 (.cut 15 .done))))))))))))))))
  | 3 => (.take 0 (.take 1 (.take 2 (.take 3 (.take 4 (.take 5 (.take 6 (.take 7 (.take 8 (.take 9 (.take 10 (.take 11 (.cut 12 (.take 13 .done))))))))))))))
  | 5 => (.take 0 (.take 1 (.take 2 (.take 3 (.take 4 (.take 5 (.take 6 (.take 7 (.take 8 (.take 9 (.take 10 (.take 11 (.cut 12 (.take 13 (.take 14 .done)))))))))))))))
  | 8 => (.take 0 (.take 1 (.take 2 (.take 3 (.take 4 (.take 5 (.take 6 (.take 7 (.take 8 (.take 9 (.take 10 (.take 11 (.take 12 (.last 13 (.take 14 (.cut 15 .done))))))))))))))))
  | 10 => (.take 0 (.take 1 (.take 2 (.take 3 (.take 4 (.take 5 (.take 6 (.take 7 (.take 8 (.take 9 (.take 10 (.take 11 (.take 12 (.last 13 (.take 14 (.cut 15 .done))))))))))))))))
  | 13 => (.take 0 (.take 1 (.take 2 (.take 3 (.take 4 (.take 5 (.take 6 (.take 7 (.take 8 (.take 9 (.take 10 (.take 11 (.cut 12 (.take 13 .done))))))))))))))
  | 15 => (.take 0 (.take 1 (.take 2 (.take 3 (.take 4 (.take 5 (.take 6 (.take 7 (.take 8 (.take 9 (.take 10 (.take 11 (.cut 12 (.take 13 (.take 14 .done)))))))))))))))
  | 18 => (.take 0 (.take 1 (.take 2 (.take 3 (.take 4 (.take 5 (.take 6 (.take 7 (.take 8 (.take 9 (.take 10 (.take 11 (.take 12 (.last 13 (.take 14 (.cut 15 .done))))))))))))))))
  | 21 => (.take 0 (.take 1 (.take 2 (.take 3 (.take 4 (.take 5 (.take 6 (.take 7 (.take 8 (.take 9 (.take 10 (.take 11 (.take 12 (.last 13 (.take 14 (.cut 15 .done))))))))))))))))
  | _ => .done

/-- math/bits.Len32 -/
def pl68 : Nat → Plan
  | _ => .done

/-- math/bits.Len64 -/
def pl69 : Nat → Plan
  | _ => .done

/-- slices.siftDownOrdered[int] -/
def pl70 : Nat → Plan
  | 3 => (.take 0 (.take 1 (.take 2 (.take 3 (.take 4 (.take 5 (.take 6 (.take 7 (.take 8 (.take 9 (.take 10 (.take 11 (.take 12 (.take 13 (.take 14 (.take 15 (.take 16 (.take 17 (.cut 18 (.take 19 .done))))))))))))))))))))
  | 5 => (.take 0 (.take 1 (.take 2 (.take 3 (.take 4 (.take 5 (.take 6 (.take 7 (.take 8 (.take 9 (.take 10 (.take 11 (.cut 12 (.take 13 .done))))))))))))))
  | 6 => (.take 0 (.take 1 (.take 2 (.take 3 (.take 4 (.take 5 (.take 6 (.take 7 (.take 8 (.take 9 (.take 10 (.take 11 (.take 12 (.take 13 (.take 14 (.take 15 (.take 16 (.take 17 (.take 18 (.take 19 (.take 20 (.last 21 (.take 22 (.cut 23 .done))))))))))))))))))))))))
  | _ => .done

/-- slices.nextPowerOfTwo -/
def pl71 : Nat → Plan
  | _ => .done

/-- (*slices.xorshift).Next -/
def pl72 : Nat → Plan
  | 1 => (.take 0 (.take 1 (.take 2 (.take 3 (.take 4 (.take 5 (.take 6 (.take 7 (.take 8 (.cut 9 .done))))))))))
  | 2 => (.take 0 (.take 1 (.take 2 (.take 3 (.take 4 (.take 5 (.take 6 (.take 7 (.take 8 (.cut 9 .done))))))))))
  | 3 => (.take 0 (.take 1 (.take 2 (.take 3 (.take 4 (.take 5 (.take 6 (.take 7 (.take 8 (.cut 9 .done))))))))))
  | _ => .done

/-- slices.medianAdjacentOrdered[int] -/
def pl73 : Nat → Plan
  | _ => .done

/-- slices.medianOrdered[int] -/
def pl74 : Nat → Plan
  | _ => .done

/-- cmp.isNaN[int] -/
def pl75 : Nat → Plan
  | _ => .done

/-- slices.order2Ordered[int] -/
def pl76 : Nat → Plan
  | 1 => (.take 0 (.take 1 (.take 2 (.take 3 (.take 4 (.take 5 (.take 6 (.take 7 (.cut 8 .done)))))))))
  | _ => .done

-- 94 (hawala/api.Errno).Error: no body

-- 110 var's door: errors.errorType is laid by its own call of reflectlite.TypeOf on a nil pointer and Elem of it (handle 1): no body

-- 111 var's door: gosem.cut.vars holds initialisers alone; see the manifest's row cutvarsword (look 11, test files too): no body

-- 112 var's door: the look of gosem.cut.vars went over the folder that the caller named as the repository's root (look 11): no body

end Go.Proofs.YtbpcofnhndgoeaaDoor.A
