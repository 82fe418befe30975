/- The seat's types' tree and the plans of the drawn regions: both printed by a program (wip/core/Gen.tpl). -/
import Derived.Test.YtjffmldlkofpaaaGreatDoorGC
import Derived.Test.YtjffmldlkofpaaaGreatDoorProg
import Derived.KernelRfl
namespace Go.Proofs.YtjffmldlkofpaaaGreatDoor.A
open Go
def tr : Bt TE := (.node none (.node (some ⟨.func, 1, 8, (.one .kf)⟩) (.node (some ⟨(.int .i64), 1, 8, (.one (.ki .i64))⟩) (.node (some ⟨(.struct [(0, 2), (1, 3), (2, 4), (3, 6)]), 4, 24, (.agg [(.ki .i64), (.ki .i64), .kb, (.ki .u8)])⟩) (.node (some ⟨(.ptr 239), 1, 8, (.one .kp)⟩) (.node (some ⟨(.slice 65), 1, 24, (.one .kl)⟩) (.node (some ⟨(.struct [(0, 43), (7, 54), (9, 4)]), 10, 80, (.agg [(.ki .i64), (.ki .i64), (.ki .i64), (.ki .i64), (.ki .i64), (.ki .i64), (.ki .i64), (.ki .i64), (.ki .i64), .kb])⟩) (.node (some ⟨(.slice 125), 1, 24, (.one .kl)⟩) (.node (some ⟨(.ptr 258), 1, 8, (.one .kp)⟩) .nil
 .nil)
 .nil)
 (.node (some ⟨(.struct [(0, 17)]), 1, 8, (.agg [.kp])⟩) .nil
 .nil))
 (.node (some ⟨(.struct [(0, 5), (1, 73), (8, 5), (9, 4)]), 10, 12, (.agg [(.ki .u8), (.ki .u8), (.ki .u8), (.ki .u8), (.ki .u8), (.ki .u16), (.ki .u8), (.ki .u8), (.ki .u8), .kb])⟩) (.node (some ⟨.func, 1, 8, (.one .kf)⟩) .nil
 .nil)
 (.node none .nil
 .nil)))
 (.node (some ⟨(.struct [(0, 43), (7, 44), (8, 3), (9, 3), (10, 45)]), 11, 88, (.agg [(.ki .i64), (.ki .i64), (.ki .i64), (.ki .i64), (.ki .i64), (.ki .i64), (.ki .i64), (.ki .i64), (.ki .i64), (.ki .i64), (.ki .i64)])⟩) (.node (some ⟨.func, 1, 8, (.one .kf)⟩) (.node (some ⟨.func, 1, 8, (.one .kf)⟩) .nil
 .nil)
 (.node none .nil
 .nil))
 (.node none (.node (some ⟨.func, 1, 8, (.one .kf)⟩) .nil
 .nil)
 (.node (some ⟨(.struct [(0, 17), (1, 17), (2, 17), (3, 9)]), 4, 40, (.agg [.kp, .kp, .kp, .ks])⟩) .nil
 .nil))))
 (.node (some ⟨(.slice 93), 1, 24, (.one .kl)⟩) (.node none (.node (some ⟨(.int .u16), 1, 2, (.one (.ki .u16))⟩) (.node (some ⟨.func, 1, 8, (.one .kf)⟩) (.node (some ⟨(.ptr 110), 1, 8, (.one .kp)⟩) .nil
 .nil)
 .nil)
 (.node (some ⟨.func, 1, 8, (.one .kf)⟩) .nil
 .nil))
 (.node none (.node none .nil
 .nil)
 (.node (some ⟨.func, 1, 8, (.one .kf)⟩) .nil
 .nil)))
 (.node none (.node (some ⟨.func, 1, 8, (.one .kf)⟩) (.node (some ⟨(.struct [(0, 36)]), 5, 104, (.agg [.kl, .kl, .kl, .kl, (.ki .i64)])⟩) .nil
 .nil)
 (.node (some ⟨(.ptr 217), 1, 8, (.one .kp)⟩) .nil
 .nil))
 (.node (some ⟨.func, 1, 8, (.one .kf)⟩) (.node (some ⟨.func, 1, 8, (.one .kf)⟩) .nil
 .nil)
 (.node (some ⟨(.int .i32), 1, 4, (.one (.ki .i32))⟩) .nil
 .nil)))))
 (.node (some ⟨.str, 1, 16, (.one .ks)⟩) (.node (some ⟨(.struct [(0, 17)]), 1, 8, (.agg [.kp])⟩) (.node (some ⟨(.struct [(0, 31), (1, 32), (2, 33), (3, 34), (4, 3)]), 5, 104, (.agg [.kl, .kl, .kl, .kl, (.ki .i64)])⟩) (.node (some ⟨(.slice 107), 1, 24, (.one .kl)⟩) (.node (some ⟨(.mp 86 4), 1, 8, (.one .km)⟩) (.node (some ⟨(.slice 262), 1, 24, (.one .kl)⟩) .nil
 .nil)
 .nil)
 (.node (some ⟨.func, 1, 8, (.one .kf)⟩) .nil
 .nil))
 (.node (some ⟨(.struct [(0, 36)]), 5, 104, (.agg [.kl, .kl, .kl, .kl, (.ki .i64)])⟩) (.node (some ⟨.func, 1, 8, (.one .kf)⟩) .nil
 .nil)
 (.node (some ⟨.iface, 1, 16, (.one .kn)⟩) .nil
 .nil)))
 (.node (some ⟨(.struct [(0, 50), (1, 43), (8, 3), (9, 4)]), 10, 80, (.agg [(.ki .i64), (.ki .i64), (.ki .i64), (.ki .i64), (.ki .i64), (.ki .i64), (.ki .i64), (.ki .i64), (.ki .i64), .kb])⟩) (.node (some ⟨.func, 1, 8, (.one .kf)⟩) (.node (some ⟨.func, 1, 8, (.one .kf)⟩) .nil
 .nil)
 (.node (some ⟨.func, 1, 8, (.one .kf)⟩) .nil
 .nil))
 (.node none (.node (some ⟨(.struct [(0, 3), (1, 3)]), 2, 16, (.agg [(.ki .i64), (.ki .i64)])⟩) .nil
 .nil)
 (.node (some ⟨.func, 1, 8, (.one .kf)⟩) .nil
 .nil))))
 (.node (some ⟨(.slice 3), 1, 24, (.one .kl)⟩) (.node (some ⟨(.struct [(0, 3), (1, 41), (2, 3), (3, 3), (4, 3), (5, 3), (6, 3)]), 7, 56, (.agg [(.ki .i64), (.ki .i64), (.ki .i64), (.ki .i64), (.ki .i64), (.ki .i64), (.ki .i64)])⟩) (.node none (.node (some ⟨.func, 1, 8, (.one .kf)⟩) .nil
 .nil)
 (.node (some ⟨(.slice 110), 1, 24, (.one .kl)⟩) .nil
 .nil))
 (.node (some ⟨(.struct [(0, 5), (1, 5), (2, 5), (3, 5), (4, 5), (5, 5), (6, 5), (7, 4)]), 8, 8, (.agg [(.ki .u8), (.ki .u8), (.ki .u8), (.ki .u8), (.ki .u8), (.ki .u8), (.ki .u8), .kb])⟩) (.node (some ⟨.func, 1, 8, (.one .kf)⟩) .nil
 .nil)
 (.node none .nil
 .nil)))
 (.node (some ⟨.func, 1, 8, (.one .kf)⟩) (.node (some ⟨.func, 1, 8, (.one .kf)⟩) (.node (some ⟨(.slice 180), 1, 24, (.one .kl)⟩) .nil
 .nil)
 (.node (some ⟨(.struct [(0, 3), (1, 3)]), 2, 16, (.agg [(.ki .i64), (.ki .i64)])⟩) .nil
 .nil))
 (.node (some ⟨(.arr 3 3), 3, 24, (.agg [(.ki .i64), (.ki .i64), (.ki .i64)])⟩) (.node (some ⟨(.arr 3 186), 18, 144, (.agg [(.ki .i64), (.ki .i64), (.ki .i64), (.ki .i64), (.ki .i64), (.ki .i64), (.ki .i64), (.ki .i64), (.ki .i64), (.ki .i64), (.ki .i64), (.ki .i64), (.ki .i64), (.ki .i64), (.ki .i64), (.ki .i64), (.ki .i64), (.ki .i64)])⟩) .nil
 .nil)
 (.node (some ⟨.func, 1, 8, (.one .kf)⟩) .nil
 .nil))))))
 (.node (some ⟨(.int .u8), 1, 1, (.one (.ki .u8))⟩) (.node (some ⟨.str, 1, 16, (.one .ks)⟩) (.node (some ⟨(.ptr 250), 1, 8, (.one .kp)⟩) (.node (some ⟨(.slice 47), 1, 24, (.one .kl)⟩) (.node (some ⟨(.struct [(0, 3), (1, 3), (2, 3)]), 3, 24, (.agg [(.ki .i64), (.ki .i64), (.ki .i64)])⟩) (.node (some ⟨.func, 1, 8, (.one .kf)⟩) (.node (some ⟨(.struct [(0, 247), (1, 71), (2, 71), (3, 93), (4, 93)]), 5, 16, (.agg [(.ki .i32), (.ki .u16), (.ki .u16), (.ki .u32), (.ki .u32)])⟩) .nil
 .nil)
 .nil)
 (.node (some ⟨(.ptr 254), 1, 8, (.one .kp)⟩) .nil
 .nil))
 (.node (some ⟨(.ptr 99), 1, 8, (.one .kp)⟩) (.node (some ⟨(.int .i64), 1, 8, (.one (.ki .i64))⟩) .nil
 .nil)
 (.node (some ⟨.func, 1, 8, (.one .kf)⟩) .nil
 .nil)))
 (.node (some ⟨.func, 1, 8, (.one .kf)⟩) (.node (some ⟨.func, 1, 8, (.one .kf)⟩) (.node (some ⟨.func, 1, 8, (.one .kf)⟩) .nil
 .nil)
 (.node (some ⟨.func, 1, 8, (.one .kf)⟩) .nil
 .nil))
 (.node (some ⟨(.slice 4), 1, 24, (.one .kl)⟩) (.node (some ⟨.func, 1, 8, (.one .kf)⟩) .nil
 .nil)
 (.node (some ⟨(.struct [(0, 240)]), 0, 0, (.agg [])⟩) .nil
 .nil))))
 (.node (some ⟨(.struct [(0, 22), (1, 23), (2, 22)]), 3, 72, (.agg [.kl, .kl, .kl])⟩) (.node (some ⟨(.int .i64), 1, 8, (.one (.ki .i64))⟩) (.node (some ⟨(.struct [(0, 5), (1, 5), (2, 5), (3, 5), (4, 71), (5, 5), (6, 5)]), 7, 8, (.agg [(.ki .u8), (.ki .u8), (.ki .u8), (.ki .u8), (.ki .u16), (.ki .u8), (.ki .u8)])⟩) (.node (some ⟨.func, 1, 8, (.one .kf)⟩) .nil
 .nil)
 (.node (some ⟨.func, 1, 8, (.one .kf)⟩) .nil
 .nil))
 (.node (some ⟨.func, 1, 8, (.one .kf)⟩) (.node (some ⟨.iface, 1, 16, (.one .kn)⟩) .nil
 .nil)
 (.node (some ⟨.func, 1, 8, (.one .kf)⟩) .nil
 .nil)))
 (.node (some ⟨.func, 1, 8, (.one .kf)⟩) (.node (some ⟨(.struct [(0, 3), (1, 3), (2, 3), (3, 3), (4, 3), (5, 3), (6, 3), (7, 88)]), 8, 64, (.agg [(.ki .i64), (.ki .i64), (.ki .i64), (.ki .i64), (.ki .i64), (.ki .i64), (.ki .i64), (.ki .i64)])⟩) (.node (some ⟨(.mp 3 4), 1, 8, (.one .km)⟩) .nil
 .nil)
 (.node (some ⟨(.slice 220), 1, 24, (.one .kl)⟩) .nil
 .nil))
 (.node (some ⟨.func, 1, 8, (.one .kf)⟩) (.node (some ⟨(.struct [(0, 3), (1, 3)]), 2, 16, (.agg [(.ki .i64), (.ki .i64)])⟩) .nil
 .nil)
 (.node (some ⟨(.struct [(0, 12), (1, 12), (2, 93), (3, 244), (4, 5), (5, 5), (6, 172), (7, 245), (8, 246), (9, 247), (10, 248)]), 11, 48, (.agg [(.ki .u64), (.ki .u64), (.ki .u32), (.ki .u8), (.ki .u8), (.ki .u8), (.ki .u8), .kf, .kp, (.ki .i32), (.ki .i32)])⟩) .nil
 .nil)))))
 (.node (some ⟨(.struct [(0, 9), (1, 12)]), 2, 24, (.agg [.ks, (.ki .u64)])⟩) (.node (some ⟨(.int .i32), 1, 4, (.one (.ki .i32))⟩) (.node (some ⟨.func, 1, 8, (.one .kf)⟩) (.node (some ⟨(.slice 73), 1, 24, (.one .kl)⟩) (.node (some ⟨.func, 1, 8, (.one .kf)⟩) (.node (some ⟨(.struct [(0, 247), (1, 248), (2, 260), (3, 260)]), 4, 16, (.agg [(.ki .i32), (.ki .i32), (.ki .i32), (.ki .i32)])⟩) .nil
 .nil)
 .nil)
 (.node (some ⟨.iface, 1, 16, (.one .kn)⟩) .nil
 .nil))
 (.node (some ⟨(.mp 50 100), 1, 8, (.one .km)⟩) (.node (some ⟨(.int .u64), 1, 8, (.one (.ki .u64))⟩) .nil
 .nil)
 (.node (some ⟨.func, 1, 8, (.one .kf)⟩) .nil
 .nil)))
 (.node (some ⟨(.struct [(0, 45), (1, 3)]), 2, 16, (.agg [(.ki .i64), (.ki .i64)])⟩) (.node (some ⟨.func, 1, 8, (.one .kf)⟩) (.node (some ⟨(.ptr 151), 1, 8, (.one .kp)⟩) .nil
 .nil)
 (.node none .nil
 .nil))
 (.node none (.node (some ⟨.func, 1, 8, (.one .kf)⟩) .nil
 .nil)
 (.node (some ⟨.func, 1, 8, (.one .kf)⟩) .nil
 .nil))))
 (.node (some ⟨(.int .i8), 1, 1, (.one (.ki .i8))⟩) (.node (some ⟨(.int .i64), 1, 8, (.one (.ki .i64))⟩) (.node (some ⟨.func, 1, 8, (.one .kf)⟩) (.node (some ⟨.func, 1, 8, (.one .kf)⟩) .nil
 .nil)
 (.node (some ⟨.func, 1, 8, (.one .kf)⟩) .nil
 .nil))
 (.node (some ⟨.iface, 1, 16, (.one .kn)⟩) (.node (some ⟨.func, 1, 8, (.one .kf)⟩) .nil
 .nil)
 (.node (some ⟨.func, 1, 8, (.one .kf)⟩) .nil
 .nil)))
 (.node (some ⟨.func, 1, 8, (.one .kf)⟩) (.node (some ⟨(.int .u32), 1, 4, (.one (.ki .u32))⟩) (.node (some ⟨.func, 1, 8, (.one .kf)⟩) .nil
 .nil)
 (.node (some ⟨.func, 1, 8, (.one .kf)⟩) .nil
 .nil))
 (.node (some ⟨(.struct [(0, 4), (1, 86)]), 2, 16, (.agg [.kb, (.ki .i64)])⟩) (.node (some ⟨.func, 1, 8, (.one .kf)⟩) .nil
 .nil)
 (.node (some ⟨(.struct [(0, 9), (1, 172)]), 2, 24, (.agg [.ks, (.ki .u8)])⟩) .nil
 .nil)))))))
 (.node (some ⟨(.int .i64), 1, 8, (.one (.ki .i64))⟩) (.node (some ⟨.bool, 1, 1, (.one .kb)⟩) (.node (some ⟨(.struct [(0, 2), (1, 3), (2, 4), (3, 6)]), 4, 24, (.agg [(.ki .i64), (.ki .i64), .kb, (.ki .u8)])⟩) (.node (some ⟨(.ptr 242), 1, 8, (.one .kp)⟩) (.node (some ⟨(.slice 90), 1, 24, (.one .kl)⟩) (.node (some ⟨(.struct [(0, 3), (1, 3), (2, 3)]), 3, 24, (.agg [(.ki .i64), (.ki .i64), (.ki .i64)])⟩) (.node (some ⟨.func, 1, 8, (.one .kf)⟩) (.node (some ⟨.func, 1, 8, (.one .kf)⟩) .nil
 .nil)
 .nil)
 (.node (some ⟨(.struct [(0, 17)]), 1, 8, (.agg [.kp])⟩) .nil
 .nil))
 (.node (some ⟨.func, 1, 8, (.one .kf)⟩) (.node (some ⟨.func, 1, 8, (.one .kf)⟩) .nil
 .nil)
 (.node (some ⟨.func, 1, 8, (.one .kf)⟩) .nil
 .nil)))
 (.node (some ⟨.func, 1, 8, (.one .kf)⟩) (.node (some ⟨.func, 1, 8, (.one .kf)⟩) (.node (some ⟨.func, 1, 8, (.one .kf)⟩) .nil
 .nil)
 (.node (some ⟨.func, 1, 8, (.one .kf)⟩) .nil
 .nil))
 (.node (some ⟨.func, 1, 8, (.one .kf)⟩) (.node (some ⟨(.ptr 113), 1, 8, (.one .kp)⟩) .nil
 .nil)
 (.node (some ⟨(.arr 0 16), 0, 0, (.agg [])⟩) .nil
 .nil))))
 (.node (some ⟨(.struct [(0, 22), (1, 23), (2, 22)]), 3, 72, (.agg [.kl, .kl, .kl])⟩) (.node (some ⟨.func, 1, 8, (.one .kf)⟩) (.node (some ⟨(.struct [(0, 5), (1, 5), (2, 5), (3, 5), (4, 71), (5, 5), (6, 5)]), 7, 8, (.agg [(.ki .u8), (.ki .u8), (.ki .u8), (.ki .u8), (.ki .u16), (.ki .u8), (.ki .u8)])⟩) (.node (some ⟨.func, 1, 8, (.one .kf)⟩) .nil
 .nil)
 (.node (some ⟨.iface, 1, 16, (.one .kn)⟩) .nil
 .nil))
 (.node (some ⟨.func, 1, 8, (.one .kf)⟩) (.node (some ⟨.func, 1, 8, (.one .kf)⟩) .nil
 .nil)
 (.node (some ⟨.func, 1, 8, (.one .kf)⟩) .nil
 .nil)))
 (.node (some ⟨.func, 1, 8, (.one .kf)⟩) (.node (some ⟨(.int .i64), 1, 8, (.one (.ki .i64))⟩) (.node (some ⟨.func, 1, 8, (.one .kf)⟩) .nil
 .nil)
 (.node (some ⟨(.slice 220), 1, 24, (.one .kl)⟩) .nil
 .nil))
 (.node (some ⟨.func, 1, 8, (.one .kf)⟩) (.node (some ⟨(.struct [(0, 3), (1, 3)]), 2, 16, (.agg [(.ki .i64), (.ki .i64)])⟩) .nil
 .nil)
 (.node (some ⟨(.int .i32), 1, 4, (.one (.ki .i32))⟩) .nil
 .nil)))))
 (.node (some ⟨(.int .u64), 1, 8, (.one (.ki .u64))⟩) (.node (some ⟨.iface, 1, 16, (.one .kn)⟩) (.node (some ⟨(.struct [(0, 31), (1, 32), (2, 33), (3, 34), (4, 3)]), 5, 104, (.agg [.kl, .kl, .kl, .kl, (.ki .i64)])⟩) (.node (some ⟨.func, 1, 8, (.one .kf)⟩) (.node (some ⟨.func, 1, 8, (.one .kf)⟩) (.node (some ⟨(.int .i32), 1, 4, (.one (.ki .i32))⟩) .nil
 .nil)
 .nil)
 (.node (some ⟨.func, 1, 8, (.one .kf)⟩) .nil
 .nil))
 (.node (some ⟨.func, 1, 8, (.one .kf)⟩) (.node none .nil
 .nil)
 (.node (some ⟨.func, 1, 8, (.one .kf)⟩) .nil
 .nil)))
 (.node (some ⟨(.struct [(0, 50), (1, 43), (8, 3), (9, 4)]), 10, 80, (.agg [(.ki .i64), (.ki .i64), (.ki .i64), (.ki .i64), (.ki .i64), (.ki .i64), (.ki .i64), (.ki .i64), (.ki .i64), .kb])⟩) (.node (some ⟨.func, 1, 8, (.one .kf)⟩) (.node (some ⟨.func, 1, 8, (.one .kf)⟩) .nil
 .nil)
 (.node (some ⟨.func, 1, 8, (.one .kf)⟩) .nil
 .nil))
 (.node (some ⟨.func, 1, 8, (.one .kf)⟩) (.node (some ⟨(.struct [(0, 3), (1, 3)]), 2, 16, (.agg [(.ki .i64), (.ki .i64)])⟩) .nil
 .nil)
 (.node (some ⟨(.int .u8), 1, 1, (.one (.ki .u8))⟩) .nil
 .nil))))
 (.node (some ⟨(.slice 4), 1, 24, (.one .kl)⟩) (.node (some ⟨(.int .i64), 1, 8, (.one (.ki .i64))⟩) (.node (some ⟨.func, 1, 8, (.one .kf)⟩) (.node (some ⟨.func, 1, 8, (.one .kf)⟩) .nil
 .nil)
 (.node (some ⟨.func, 1, 8, (.one .kf)⟩) .nil
 .nil))
 (.node (some ⟨.func, 1, 8, (.one .kf)⟩) (.node (some ⟨(.int .u8), 1, 1, (.one (.ki .u8))⟩) .nil
 .nil)
 (.node (some ⟨.func, 1, 8, (.one .kf)⟩) .nil
 .nil)))
 (.node (some ⟨.func, 1, 8, (.one .kf)⟩) (.node (some ⟨.func, 1, 8, (.one .kf)⟩) (.node none .nil
 .nil)
 (.node (some ⟨(.struct [(0, 3), (1, 3)]), 2, 16, (.agg [(.ki .i64), (.ki .i64)])⟩) .nil
 .nil))
 (.node (some ⟨.func, 1, 8, (.one .kf)⟩) (.node (some ⟨.func, 1, 8, (.one .kf)⟩) .nil
 .nil)
 (.node (some ⟨.func, 1, 8, (.one .kf)⟩) .nil
 .nil))))))
 (.node (some ⟨(.int .u8), 1, 1, (.one (.ki .u8))⟩) (.node (some ⟨.str, 1, 16, (.one .ks)⟩) (.node (some ⟨(.struct [(0, 17)]), 1, 8, (.agg [.kp])⟩) (.node (some ⟨(.slice 63), 1, 24, (.one .kl)⟩) (.node (some ⟨.func, 1, 8, (.one .kf)⟩) (.node (some ⟨.func, 1, 8, (.one .kf)⟩) (.node (some ⟨(.struct [(0, 247), (1, 71), (2, 71), (3, 93), (4, 93)]), 5, 16, (.agg [(.ki .i32), (.ki .u16), (.ki .u16), (.ki .u32), (.ki .u32)])⟩) .nil
 .nil)
 .nil)
 (.node (some ⟨.func, 1, 8, (.one .kf)⟩) .nil
 .nil))
 (.node (some ⟨(.struct [(0, 36)]), 5, 104, (.agg [.kl, .kl, .kl, .kl, (.ki .i64)])⟩) (.node none .nil
 .nil)
 (.node (some ⟨.iface, 1, 16, (.one .kn)⟩) .nil
 .nil)))
 (.node (some ⟨(.int .i64), 1, 8, (.one (.ki .i64))⟩) (.node (some ⟨.func, 1, 8, (.one .kf)⟩) (.node (some ⟨(.ptr 45), 1, 8, (.one .kp)⟩) .nil
 .nil)
 (.node (some ⟨.func, 1, 8, (.one .kf)⟩) .nil
 .nil))
 (.node (some ⟨.func, 1, 8, (.one .kf)⟩) (.node (some ⟨(.slice 147), 1, 24, (.one .kl)⟩) .nil
 .nil)
 (.node (some ⟨(.struct [(0, 240)]), 0, 0, (.agg [])⟩) .nil
 .nil))))
 (.node (some ⟨(.slice 95), 1, 24, (.one .kl)⟩) (.node (some ⟨(.struct [(0, 3), (1, 41), (2, 3), (3, 3), (4, 3), (5, 3), (6, 3)]), 7, 56, (.agg [(.ki .i64), (.ki .i64), (.ki .i64), (.ki .i64), (.ki .i64), (.ki .i64), (.ki .i64)])⟩) (.node (some ⟨.func, 1, 8, (.one .kf)⟩) (.node (some ⟨.func, 1, 8, (.one .kf)⟩) .nil
 .nil)
 (.node (some ⟨.iface, 1, 16, (.one .kn)⟩) .nil
 .nil))
 (.node (some ⟨(.struct [(0, 5), (1, 5), (2, 5), (3, 5), (4, 5), (5, 5), (6, 5), (7, 4)]), 8, 8, (.agg [(.ki .u8), (.ki .u8), (.ki .u8), (.ki .u8), (.ki .u8), (.ki .u8), (.ki .u8), .kb])⟩) (.node (some ⟨.iface, 1, 16, (.one .kn)⟩) .nil
 .nil)
 (.node (some ⟨.func, 1, 8, (.one .kf)⟩) .nil
 .nil)))
 (.node (some ⟨.func, 1, 8, (.one .kf)⟩) (.node (some ⟨(.struct [(0, 3), (1, 3), (2, 3), (3, 3), (4, 3), (5, 3), (6, 3), (7, 88)]), 8, 64, (.agg [(.ki .i64), (.ki .i64), (.ki .i64), (.ki .i64), (.ki .i64), (.ki .i64), (.ki .i64), (.ki .i64)])⟩) (.node (some ⟨.func, 1, 8, (.one .kf)⟩) .nil
 .nil)
 (.node (some ⟨.func, 1, 8, (.one .kf)⟩) .nil
 .nil))
 (.node (some ⟨.func, 1, 8, (.one .kf)⟩) (.node (some ⟨(.arr 3 185), 6, 48, (.agg [(.ki .i64), (.ki .i64), (.ki .i64), (.ki .i64), (.ki .i64), (.ki .i64)])⟩) .nil
 .nil)
 (.node (some ⟨(.struct [(0, 12), (1, 12), (2, 93), (3, 244), (4, 5), (5, 5), (6, 172), (7, 245), (8, 246), (9, 247), (10, 248)]), 11, 48, (.agg [(.ki .u64), (.ki .u64), (.ki .u32), (.ki .u8), (.ki .u8), (.ki .u8), (.ki .u8), .kf, .kp, (.ki .i32), (.ki .i32)])⟩) .nil
 .nil)))))
 (.node (some ⟨(.struct [(0, 9), (1, 12)]), 2, 24, (.agg [.ks, (.ki .u64)])⟩) (.node (some ⟨(.slice 5), 1, 24, (.one .kl)⟩) (.node (some ⟨(.slice 52), 1, 24, (.one .kl)⟩) (.node (some ⟨.func, 1, 8, (.one .kf)⟩) (.node none (.node (some ⟨(.struct [(0, 247), (1, 248), (2, 260), (3, 260)]), 4, 16, (.agg [(.ki .i32), (.ki .i32), (.ki .i32), (.ki .i32)])⟩) .nil
 .nil)
 .nil)
 (.node none .nil
 .nil))
 (.node (some ⟨(.slice 54), 1, 24, (.one .kl)⟩) (.node none .nil
 .nil)
 (.node (some ⟨.func, 1, 8, (.one .kf)⟩) .nil
 .nil)))
 (.node (some ⟨(.struct [(0, 45), (1, 3)]), 2, 16, (.agg [(.ki .i64), (.ki .i64)])⟩) (.node (some ⟨(.int .i64), 1, 8, (.one (.ki .i64))⟩) (.node (some ⟨(.struct [(0, 36)]), 5, 104, (.agg [.kl, .kl, .kl, .kl, (.ki .i64)])⟩) .nil
 .nil)
 (.node (some ⟨.func, 1, 8, (.one .kf)⟩) .nil
 .nil))
 (.node (some ⟨.func, 1, 8, (.one .kf)⟩) (.node none .nil
 .nil)
 (.node (some ⟨(.ptr 5), 1, 8, (.one .kp)⟩) .nil
 .nil))))
 (.node (some ⟨.func, 1, 8, (.one .kf)⟩) (.node (some ⟨(.struct [(0, 43), (7, 44), (8, 3), (9, 3), (10, 45)]), 11, 88, (.agg [(.ki .i64), (.ki .i64), (.ki .i64), (.ki .i64), (.ki .i64), (.ki .i64), (.ki .i64), (.ki .i64), (.ki .i64), (.ki .i64), (.ki .i64)])⟩) (.node (some ⟨(.slice 86), 1, 24, (.one .kl)⟩) (.node (some ⟨.func, 1, 8, (.one .kf)⟩) .nil
 .nil)
 (.node (some ⟨.func, 1, 8, (.one .kf)⟩) .nil
 .nil))
 (.node (some ⟨.iface, 1, 16, (.one .kn)⟩) (.node (some ⟨.func, 1, 8, (.one .kf)⟩) .nil
 .nil)
 (.node (some ⟨(.struct [(0, 17), (1, 17), (2, 17), (3, 9)]), 4, 40, (.agg [.kp, .kp, .kp, .ks])⟩) .nil
 .nil)))
 (.node (some ⟨(.struct [(0, 43), (7, 54), (9, 4)]), 10, 80, (.agg [(.ki .i64), (.ki .i64), (.ki .i64), (.ki .i64), (.ki .i64), (.ki .i64), (.ki .i64), (.ki .i64), (.ki .i64), .kb])⟩) (.node (some ⟨(.struct [(0, 5), (1, 73), (8, 5), (9, 4)]), 10, 12, (.agg [(.ki .u8), (.ki .u8), (.ki .u8), (.ki .u8), (.ki .u8), (.ki .u16), (.ki .u8), (.ki .u8), (.ki .u8), .kb])⟩) (.node (some ⟨.func, 1, 8, (.one .kf)⟩) .nil
 .nil)
 (.node (some ⟨.func, 1, 8, (.one .kf)⟩) .nil
 .nil))
 (.node (some ⟨.func, 1, 8, (.one .kf)⟩) (.node (some ⟨.func, 1, 8, (.one .kf)⟩) .nil
 .nil)
 (.node (some ⟨(.struct [(0, 9), (1, 172)]), 2, 24, (.agg [.ks, (.ki .u8)])⟩) .nil
 .nil))))))))
set_option maxRecDepth 100000 in
theorem tr_ok : treeOk Tryz.prog tr = true := by kernel_rfl
def meth : TypeId → String → Option (FuncId × Option TypeId)
  | 215, "Len" => some (124, some 217)
  | 215, "Less" => some (171, some 217)
  | 215, "Swap" => some (174, some 217)
  | 215, "Push" => some (173, none)
  | 215, "Pop" => some (172, none)
  | _, _ => none
theorem wrap_ok (P : Program) (ts : Array TypeId) (ty : TypeId) (a : Addr) (s m : String) (w : World) : (Builtin.ssaWrapNilChk_ ts ty #[.pointer (some a), strVal s, strVal m]).run P w = .ok (.pointer (some a)) w := rfl
theorem meth_ok : ∀ t n f d, meth t n = some (f, d) → match d with
    | none => ∀ v w, (method (Tryz.prog.types.size + Made.depth) t v n).run Tryz.prog w = .ok (f, v) w
    | some e => ∀ a v w, (loadVar e a).run Tryz.prog w = .ok v w → (method (Tryz.prog.types.size + Made.depth) t (.pointer (some a)) n).run Tryz.prog w = .ok (f, v) w := by
  intro t n f d h
  unfold meth at h
  have hf : ∀ n : Nat, n + Made.depth = (n + (Made.depth - 1)) + 1 := fun n => by rw [Nat.add_assoc]; rfl
  split at h <;> first | (cases h; done) | skip
  all_goals
    cases h
    rw [hf]
    intros
    simp [method, Tryz.typeInfo215, Tryz.t215, follow, receiverAt, Tryz.runUnderlying215, Place.get, wrap_ok, asAddr]
  all_goals
    intro a v w h
    simp [h]
def tab0 : Tab := tabOf tr meth
theorem tab0_is : TabOk Tryz.prog tab0 := tab_ok tr_ok meth_ok (by kernel_rfl)
def eqK : TypeId → Option (List LK)
  | 43 => some [.int .i64, .int .i64, .int .i64, .int .i64, .int .i64, .int .i64, .int .i64]
  | 123 => some [.int .i64, .int .i64, .int .i64]
  | 90 => some [.int .i64, .int .i64, .int .i64, .int .i64, .int .i64, .int .i64, .int .i64, .int .i64]
  | 65 => some [.int .i64, .int .i64, .int .i64]
  | 54 => some [.int .i64, .int .i64]
  | 47 => some [.int .i64, .int .i64, .int .i64, .int .i64, .int .i64, .int .i64, .int .i64, .int .i64, .int .i64, .int .i64, .int .i64]
  | 52 => some [.int .i64, .int .i64, .int .i64, .int .i64, .int .i64, .int .i64, .int .i64, .int .i64, .int .i64, .bool]
  | 63 => some [.int .i64, .int .i64, .int .i64, .int .i64, .int .i64, .int .i64, .int .i64, .int .i64, .int .i64, .bool]
  | _ => none
def tab : Tab := { tab0 with eqT := eqK }
set_option maxRecDepth 100000 in
theorem tab_is : TabOk Tryz.prog tab := tab_eq tab0_is eqK (by
  intro t ks h
  unfold eqK at h
  split at h <;> first | (cases h; done) | (cases h; exact ⟨by kernel_rfl, by kernel_rfl, by kernel_rfl, by kernel_rfl⟩))
/-- hawala/hawalalaw21.DrainRun -/
def pl3 : Nat → Plan
  | 17 => (.take 0 (.take 1 (.take 2 (.take 3 (.take 4 (.take 5 (.take 6 (.take 7 (.take 8 (.take 9 (.take 10 (.take 11 (.take 12 (.take 13 (.take 14 (.take 15 (.take 16 (.take 17 (.take 18 (.take 19 .done))))))))))))))))))))
  | 18 => (.take 0 (.take 1 (.take 2 (.take 3 (.take 4 (.take 5 (.take 6 (.take 7 (.take 8 (.take 9 (.take 10 (.take 11 (.take 12 (.take 13 (.take 14 (.take 15 (.take 16 (.take 17 (.take 18 (.take 19 (.last 20 (.cut 21 .done))))))))))))))))))))))
  | 19 => (.take 0 (.take 1 (.take 2 (.take 3 (.take 4 (.take 5 (.take 6 (.take 7 (.take 8 (.take 9 (.take 10 (.take 11 .done))))))))))))
  | _ => .done

/-- hawala/hawalalaw21.DrainAll -/
def pl4 : Nat → Plan
  | 8 => (.take 0 (.take 1 (.take 2 (.take 3 (.take 4 (.take 5 (.take 6 (.take 7 (.cut 8 (.take 9 (.take 10 (.take 11 (.last 12 .done)))))))))))))
  | _ => .done

/-- hawala/hawalalaw21.DrainLess -/
def pl5 : Nat → Plan
  | 6 => (.take 0 (.take 1 (.take 2 (.take 3 (.take 4 (.take 5 (.take 6 (.take 7 (.take 8 (.take 9 (.take 10 (.take 11 (.take 12 .done)))))))))))))
  | 8 => (.take 0 (.take 2 (.last 1 (.cut 3 (.take 4 (.take 5 .done))))))
  | _ => .done

/-- hawala/hawalalaw21.DrainOrder -/
def pl6 : Nat → Plan
  | 4 => (.take 0 (.take 1 (.take 2 (.alt 3 (.alt 4 (.take 5 (.take 6 (.take 7 (.last 8 (.last 9 (.take 10 .done)))))) (.last 8 (.last 4 (.take 5 (.take 6 (.take 7 (.last 9 (.take 10 .done)))))))) (.last 8 (.last 3 (.last 4 (.take 5 (.take 6 (.take 7 (.last 9 (.take 10 .done))))))))))))
  | 11 => (.take 0 (.take 1 (.take 2 (.take 3 (.take 4 (.take 5 (.take 6 (.take 7 (.take 8 (.take 9 (.take 10 .done)))))))))))
  | 17 => (.take 0 (.take 1 (.take 2 (.take 3 (.take 4 (.take 5 (.take 6 (.take 7 (.take 8 (.take 9 (.take 10 .done)))))))))))
  | _ => .done

/-- hawala/hawalalaw21.DrainNone -/
def pl7 : Nat → Plan
  | 5 => (.take 0 (.take 1 (.take 2 (.take 3 (.take 4 (.cut 5 (.take 6 (.take 7 (.take 8 (.take 9 (.take 10 (.cut 11 (.take 12 (.take 13 (.take 14 (.take 15 (.last 16 (.cut 17 (.take 18 (.take 19 .done))))))))))))))))))))
  | _ => .done

/-- hawala/hawalalaw17.EngineWhole -/
def pl8 : Nat → Plan
  | 18 => (.take 0 (.take 2 (.take 3 (.alt 1 (.alt 4 (.last 5 (.last 6 (.take 7 .done))) (.last 5 (.alt 4 (.last 6 (.take 7 .done)) (.last 6 (.last 4 (.take 7 .done)))))) (.alt 4 (.alt 1 (.last 5 (.last 6 (.take 7 .done))) (.last 5 (.take 1 (.last 6 (.take 7 .done))))) (.last 5 (.take 1 (.alt 4 (.last 6 (.take 7 .done)) (.last 6 (.last 4 (.take 7 .done)))))))))))
  | _ => .done

/-- hawala/hawalalaw20.AuditRight -/
def pl9 : Nat → Plan
  | _ => .done

/-- hawala/hawalalaw20.AuditSpoilt -/
def pl10 : Nat → Plan
  | 4 => (.take 0 (.take 2 (.last 1 (.cut 3 (.take 4 (.take 5 .done))))))
  | 11 => (.take 0 (.take 1 (.take 2 (.take 3 (.take 4 (.take 5 (.take 6 (.take 7 (.take 8 .done)))))))))
  | 13 => (.take 0 (.take 1 (.take 2 (.take 3 (.take 4 (.take 5 (.take 6 (.take 7 (.take 8 (.take 9 (.take 10 (.take 11 (.take 12 (.take 13 (.take 14 .done)))))))))))))))
  | 15 => (.take 0 (.take 2 (.last 1 (.cut 3 (.cut 4 (.take 5 (.take 6 (.take 8 (.last 7 (.take 9 (.take 10 (.take 11 .done))))))))))))
  | _ => .done

/-- hawala/hawalalaw20.AuditOne -/
def pl11 : Nat → Plan
  | 4 => (.take 0 (.take 1 (.take 4 (.take 5 (.last 2 (.last 3 (.cut 6 (.cut 7 (.take 8 (.take 9 .done))))))))))
  | _ => .done

/-- hawala/hawalalaw20.AuditHeld -/
def pl12 : Nat → Plan
  | _ => .done

/-- hawala/hawalalaw21.DrainEnds -/
def pl13 : Nat → Plan
  | 4 => (.take 0 (.take 1 (.take 2 (.take 3 (.alt 4 (.alt 5 (.take 6 (.take 7 (.take 8 (.last 9 (.last 10 (.take 11 .done)))))) (.last 9 (.last 5 (.take 6 (.take 7 (.take 8 (.last 10 (.take 11 .done)))))))) (.last 9 (.last 4 (.last 5 (.take 6 (.take 7 (.take 8 (.last 10 (.take 11 .done)))))))))))))
  | _ => .done

/-- hawala/hawalalaw21.awake -/
def pl14 : Nat → Plan
  | _ => .done

/-- hawala/hawalalaw18.Some -/
def pl15 : Nat → Plan
  | 5 => (.take 0 (.take 1 (.take 2 (.last 3 (.cut 4 (.take 5 (.take 6 (.take 7 (.last 8 .done)))))))))
  | _ => .done

/-- hawala/drain.Run -/
def pl16 : Nat → Plan
  | 7 => (.take 0 (.take 1 (.take 2 (.take 3 (.take 4 (.take 5 (.take 6 (.take 7 (.take 8 (.take 9 (.take 10 (.take 11 .done))))))))))))
  | _ => .done

/-- hawala/saga.Most -/
def pl17 : Nat → Plan
  | _ => .done

/-- hawala/drain.Bound -/
def pl18 : Nat → Plan
  | _ => .done

/-- hawala/engine.Do -/
def pl19 : Nat → Plan
  | 6 => (.take 0 (.take 1 (.take 2 (.take 3 (.alt 4 (.last 5 (.cut 6 .done)) (.last 5 (.take 4 (.cut 6 .done))))))))
  | _ => .done

/-- hawala/hawalalaw17.Same -/
def pl20 : Nat → Plan
  | 6 => (.take 0 (.take 1 (.take 2 (.take 3 (.take 4 (.take 5 (.take 6 (.take 7 (.take 8 (.take 9 (.take 10 .done)))))))))))
  | _ => .done

/-- hawala/drain.All -/
def pl21 : Nat → Plan
  | 1 => (.take 0 (.take 1 (.alt 2 (.alt 3 (.take 4 (.take 5 (.take 6 (.last 7 (.last 8 (.take 9 .done)))))) (.last 7 (.last 3 (.take 4 (.take 5 (.take 6 (.last 8 (.take 9 .done)))))))) (.last 7 (.last 2 (.last 3 (.take 4 (.take 5 (.take 6 (.last 8 (.take 9 .done)))))))))))
  | _ => .done

/-- hawala/hawalalaw17.awake -/
def pl22 : Nat → Plan
  | _ => .done

/-- hawala/hawalalaw15.State -/
def pl23 : Nat → Plan
  | _ => .done

/-- (hawala/hawalalaw10.Ask).Request -/
def pl24 : Nat → Plan
  | _ => .done

/-- hawala/bank.Do -/
def pl25 : Nat → Plan
  | 5 => (.take 0 (.alt 1 (.last 2 (.cut 3 (.take 4 .done))) (.last 2 (.take 1 (.cut 3 (.take 4 .done))))))
  | 8 => (.take 1 (.alt 0 (.last 2 (.take 3 (.last 4 (.cut 5 (.take 6 .done))))) (.last 2 (.take 0 (.take 3 (.last 4 (.cut 5 (.take 6 .done))))))))
  | 14 => (.take 0 (.take 2 (.alt 1 (.last 3 (.last 4 (.take 5 .done))) (.last 3 (.take 1 (.last 4 (.take 5 .done)))))))
  | _ => .done

/-- hawala/hawalalaw16.Same -/
def pl26 : Nat → Plan
  | _ => .done

/-- hawala/hawalalaw20.awake -/
def pl27 : Nat → Plan
  | _ => .done

/-- hawala/audit.Check -/
def pl28 : Nat → Plan
  | 2 => (.take 0 (.take 1 (.take 3 (.take 6 (.take 7 (.take 10 (.take 13 (.take 16 (.take 19 (.take 24 (.last 2 (.take 4 (.take 5 (.last 8 (.take 9 (.last 11 (.take 12 (.last 14 (.take 15 (.last 17 (.take 18 (.last 20 (.take 21 (.last 22 (.take 23 .done)))))))))))))))))))))))))
  | _ => .done

/-- hawala/hawalalaw20.Spoil -/
def pl29 : Nat → Plan
  | 7 => (.take 0 (.take 1 (.take 2 (.take 3 (.take 4 (.take 5 (.take 6 (.take 7 (.take 8 (.take 9 (.take 10 (.take 11 (.take 12 (.cut 13 .done))))))))))))))
  | 9 => (.take 0 (.take 1 (.take 2 (.take 3 (.take 4 (.take 5 (.take 6 (.take 7 (.take 8 (.take 9 (.take 10 (.take 11 (.take 12 (.cut 13 .done))))))))))))))
  | 11 => (.take 0 (.take 1 (.take 2 (.take 3 (.take 4 (.take 5 (.take 6 (.take 7 (.take 8 (.take 9 (.take 10 (.take 11 (.take 12 (.cut 13 .done))))))))))))))
  | 13 => (.take 0 (.take 1 (.take 2 (.take 3 (.take 4 (.take 5 (.take 6 (.take 7 (.take 8 (.take 9 (.take 10 (.take 11 (.take 12 (.cut 13 .done))))))))))))))
  | 15 => (.take 0 (.take 1 (.take 2 (.take 3 (.take 4 (.take 5 (.take 6 (.take 7 (.take 8 (.take 9 (.take 10 (.last 11 (.cut 12 (.take 13 (.cut 14 .done)))))))))))))))
  | 17 => (.take 0 (.take 1 (.take 2 (.take 3 (.take 4 (.take 5 (.take 6 (.take 7 (.take 8 (.take 9 (.take 10 (.take 11 (.take 12 (.take 13 (.take 14 (.take 15 (.take 16 (.take 17 (.take 18 (.take 19 (.cut 20 .done)))))))))))))))))))))
  | 19 => (.take 0 (.take 1 (.take 2 (.take 3 (.take 4 (.take 5 (.take 6 (.take 7 (.take 8 (.take 9 (.take 10 (.last 11 (.cut 12 (.take 13 (.cut 14 .done)))))))))))))))
  | 21 => (.take 0 (.take 1 (.take 2 (.take 3 (.take 4 (.take 5 (.take 6 (.take 7 (.take 8 (.take 9 (.take 10 (.cut 11 .done))))))))))))
  | _ => .done

/-- hawala/audit.Held -/
def pl30 : Nat → Plan
  | 6 => (.take 0 (.take 1 (.take 2 (.take 3 (.last 4 (.cut 5 .done))))))
  | _ => .done

/-- hawala/hawalalaw20.held -/
def pl31 : Nat → Plan
  | 9 => (.take 0 (.take 1 (.take 2 (.take 3 (.take 4 (.take 5 (.take 6 (.take 7 (.take 8 (.take 9 (.take 10 (.cut 11 .done))))))))))))
  | 15 => (.take 0 (.take 1 (.take 2 (.take 3 (.take 4 (.take 5 (.take 6 (.take 7 (.take 8 (.cut 9 .done))))))))))
  | _ => .done

/-- hawala/hawalalaw20.same -/
def pl32 : Nat → Plan
  | 6 => (.take 0 (.take 1 (.take 2 (.take 3 (.take 4 (.take 5 (.take 6 (.take 7 (.take 8 .done)))))))))
  | _ => .done

/-- hawala/hawalalaw20.check -/
def pl33 : Nat → Plan
  | 3 => (.take 1 (.take 2 (.take 4 (.take 7 (.take 8 (.alt 0 (.last 3 (.take 5 (.alt 6 (.last 9 (.take 10 (.last 11 (.take 12 (.take 13 .done))))) (.last 9 (.take 10 (.alt 6 (.last 11 (.take 12 (.take 13 .done))) (.last 11 (.last 6 (.take 12 (.take 13 .done)))))))))) (.last 3 (.take 5 (.alt 0 (.alt 6 (.last 9 (.take 10 (.last 11 (.take 12 (.take 13 .done))))) (.last 9 (.take 10 (.alt 6 (.last 11 (.take 12 (.take 13 .done))) (.last 11 (.last 6 (.take 12 (.take 13 .done)))))))) (.last 9 (.take 10 (.last 0 (.alt 6 (.last 11 (.take 12 (.take 13 .done))) (.last 11 (.last 6 (.take 12 (.take 13 .done)))))))))))))))))
  | 14 => (.take 0 (.cut 1 (.take 2 (.take 3 (.take 4 (.take 5 (.take 6 (.take 7 (.take 8 (.take 9 (.take 10 (.take 11 (.take 12 (.take 13 (.take 14 (.take 15 (.take 16 (.take 17 (.take 18 (.take 19 (.take 20 (.take 21 (.take 22 (.take 23 (.take 24 (.take 25 .done))))))))))))))))))))))))))
  | _ => .done

/-- hawala/audit.Quiet -/
def pl34 : Nat → Plan
  | _ => .done

/-- hawala/payment.Left -/
def pl35 : Nat → Plan
  | _ => .done

/-- (hawala/hawalalaw17.Act).Event -/
def pl36 : Nat → Plan
  | 11 => (.take 0 (.take 1 (.take 2 (.take 3 (.take 4 (.take 5 (.take 6 (.take 7 (.take 8 (.take 9 (.take 10 (.take 11 (.take 12 (.take 13 .done))))))))))))))
  | _ => .done

/-- (*hawala/engine.machine).submit -/
def pl37 : Nat → Plan
  | 4 => (.take 0 (.take 1 (.take 2 (.take 3 (.take 4 (.take 5 (.alt 6 (.take 7 (.take 8 (.take 9 (.last 10 (.last 11 (.take 12 .done)))))) (.last 10 (.last 6 (.take 7 (.take 8 (.take 9 (.last 11 (.take 12 .done))))))))))))))
  | 9 => (.take 0 (.take 1 (.take 2 (.take 3 (.take 4 (.take 5 (.cut 6 (.take 7 (.take 8 (.take 9 (.take 10 (.take 11 .done))))))))))))
  | 13 => (.take 0 (.take 1 (.take 2 (.take 3 (.take 4 (.alt 5 (.take 6 (.take 7 (.take 8 (.alt 9 (.last 10 (.last 11 (.cut 12 .done))) (.last 10 (.last 9 (.last 11 (.cut 12 .done)))))))) (.alt 9 (.alt 5 (.take 6 (.take 7 (.take 8 (.last 10 (.last 11 (.cut 12 .done)))))) (.last 10 (.last 5 (.take 6 (.take 7 (.take 8 (.last 11 (.cut 12 .done)))))))) (.last 10 (.alt 5 (.take 6 (.take 7 (.take 8 (.last 9 (.last 11 (.cut 12 .done)))))) (.last 9 (.last 5 (.take 6 (.take 7 (.take 8 (.last 11 (.cut 12 .done))))))))))))))))
  | 17 => (.take 0 (.take 1 (.take 2 (.take 3 (.take 4 (.alt 5 (.take 6 (.take 7 (.take 8 (.last 9 (.last 10 (.take 11 .done)))))) (.last 9 (.last 5 (.take 6 (.take 7 (.take 8 (.last 10 (.take 11 .done)))))))))))))
  | 24 => (.take 0 (.take 1 (.take 2 (.take 3 (.take 4 (.take 5 (.take 7 (.last 6 (.last 8 (.last 9 (.last 10 (.take 11 (.take 12 (.take 13 (.cut 14 .done)))))))))))))))
  | _ => .done

/-- (*hawala/engine.machine).step -/
def pl38 : Nat → Plan
  | 1 => (.take 0 (.take 1 (.take 2 (.take 3 (.take 4 (.take 5 (.cut 6 (.take 7 .done))))))))
  | 7 => (.take 0 (.take 1 (.take 2 (.take 3 (.take 4 (.take 5 (.alt 6 (.take 7 (.take 8 (.take 9 (.last 10 (.last 11 (.take 12 .done)))))) (.last 10 (.last 6 (.take 7 (.take 8 (.take 9 (.last 11 (.take 12 .done))))))))))))))
  | 11 => (.take 0 (.take 1 (.take 2 (.take 3 (.take 4 (.take 5 (.alt 6 (.take 7 (.take 8 (.take 9 (.last 10 (.last 11 (.take 12 .done)))))) (.last 10 (.last 6 (.take 7 (.take 8 (.take 9 (.last 11 (.take 12 .done))))))))))))))
  | 15 => (.take 1 (.alt 0 (.last 2 (.cut 3 (.cut 4 .done))) (.last 2 (.take 0 (.cut 3 (.cut 4 .done))))))
  | 17 => (.take 0 (.take 1 (.take 2 (.take 3 (.take 4 (.take 5 (.take 6 (.take 7 (.cut 8 .done)))))))))
  | _ => .done

/-- (*hawala/engine.machine).tick -/
def pl39 : Nat → Plan
  | _ => .done

/-- hawala/engine.Run -/
def pl40 : Nat → Plan
  | 6 => (.take 0 (.take 1 (.take 2 (.last 3 (.last 4 (.cut 5 (.take 6 .done)))))))
  | _ => .done

/-- (hawala/hawalalaw07.Book).Accounts -/
def pl41 : Nat → Plan
  | 15 => (.take 0 (.take 1 (.take 2 (.take 3 (.take 4 (.take 5 (.take 6 (.take 7 (.take 8 (.take 9 (.take 10 (.take 11 (.cut 12 .done)))))))))))))
  | 16 => (.take 0 (.take 1 (.take 2 (.take 3 (.take 4 (.take 5 (.take 6 (.take 7 (.take 8 (.take 9 (.take 10 (.take 11 (.cut 12 .done)))))))))))))
  | _ => .done

/-- (hawala/hawalalaw12.Paid).Payment -/
def pl42 : Nat → Plan
  | _ => .done

/-- hawala/ledger.Hold -/
def pl43 : Nat → Plan
  | _ => .done

/-- hawala/request.May -/
def pl44 : Nat → Plan
  | _ => .done

/-- hawala/keys.Ask -/
def pl45 : Nat → Plan
  | 4 => (.take 0 (.take 1 (.take 2 (.take 3 (.take 4 (.take 5 (.take 6 (.take 7 .done))))))))
  | _ => .done

/-- hawala/keys.Put -/
def pl46 : Nat → Plan
  | 5 => (.take 0 (.take 2 (.take 3 (.alt 1 (.last 4 (.cut 5 (.take 6 (.take 7 .done)))) (.last 4 (.last 1 (.cut 5 (.take 6 (.take 7 .done)))))))))
  | _ => .done

/-- hawala/api.Number -/
def pl47 : Nat → Plan
  | _ => .done

/-- hawala/request.Long -/
def pl48 : Nat → Plan
  | _ => .done

/-- hawala/bank.whole -/
def pl49 : Nat → Plan
  | 3 => (.take 1 (.alt 0 (.last 2 (.take 3 (.last 4 (.cut 5 (.take 6 .done))))) (.last 2 (.take 0 (.take 3 (.last 4 (.cut 5 (.take 6 .done))))))))
  | 9 => (.take 0 (.take 1 (.last 2 (.cut 3 (.cut 4 .done)))))
  | 15 => (.take 1 (.alt 0 (.last 2 (.cut 3 (.cut 4 .done))) (.last 2 (.take 0 (.cut 3 (.cut 4 .done))))))
  | 17 => (.take 0 (.take 1 (.take 4 (.take 5 (.take 6 (.alt 2 (.take 3 (.last 7 (.last 8 (.take 9 .done)))) (.last 7 (.take 2 (.take 3 (.last 8 (.take 9 .done)))))))))))
  | _ => .done

/-- hawala/ops.Do -/
def pl50 : Nat → Plan
  | 6 => (.take 0 (.take 1 (.take 2 (.take 3 (.alt 4 (.last 5 (.cut 6 .done)) (.last 5 (.take 4 (.cut 6 .done))))))))
  | _ => .done

/-- hawala/keys.Tell -/
def pl51 : Nat → Plan
  | _ => .done

/-- hawala/hawalalaw15.Same -/
def pl52 : Nat → Plan
  | 6 => (.take 0 (.take 1 (.take 2 (.take 3 (.take 4 (.take 5 (.take 6 (.take 7 (.take 8 (.take 9 (.take 10 .done)))))))))))
  | _ => .done

/-- hawala/hawalalaw11.Same -/
def pl53 : Nat → Plan
  | 6 => (.take 0 (.take 1 (.take 2 (.take 3 (.take 4 (.take 5 (.take 6 (.take 7 (.take 8 .done)))))))))
  | _ => .done

/-- hawala/chart.New -/
def pl54 : Nat → Plan
  | _ => .done

/-- hawala/chart.Sums -/
def pl55 : Nat → Plan
  | 6 => (.take 0 (.take 1 (.take 2 (.take 3 (.take 4 (.take 5 (.take 6 (.take 7 (.cut 8 .done)))))))))
  | _ => .done

/-- hawala/chart.Right -/
def pl56 : Nat → Plan
  | _ => .done

/-- hawala/audit.payments -/
def pl57 : Nat → Plan
  | _ => .done

/-- hawala/audit.sagas -/
def pl58 : Nat → Plan
  | 5 => (.take 0 (.cut 1 (.take 2 (.take 3 (.take 4 (.take 5 (.take 6 (.take 7 (.take 8 (.take 9 (.take 10 (.take 11 (.take 12 (.take 13 (.take 14 (.take 15 (.take 16 (.take 17 (.take 18 (.take 19 (.take 20 (.take 21 (.take 22 (.take 23 (.take 24 (.take 25 .done))))))))))))))))))))))))))
  | _ => .done

/-- hawala/audit.holds -/
def pl59 : Nat → Plan
  | _ => .done

/-- hawala/audit.known -/
def pl60 : Nat → Plan
  | _ => .done

/-- hawala/audit.Held$1 -/
def pl61 : Nat → Plan
  | _ => .done

/-- hawala/hawalalaw20.check$1 -/
def pl62 : Nat → Plan
  | _ => .done

/-- hawala/hawalalaw20.check$2 -/
def pl63 : Nat → Plan
  | _ => .done

/-- hawala/payment.Right -/
def pl64 : Nat → Plan
  | _ => .done

/-- hawala/saga.Right -/
def pl65 : Nat → Plan
  | _ => .done

/-- hawala/ops.Reserve -/
def pl66 : Nat → Plan
  | _ => .done

/-- hawala/saga.Begin -/
def pl67 : Nat → Plan
  | _ => .done

/-- hawala/engine.Find -/
def pl68 : Nat → Plan
  | _ => .done

/-- hawala/ops.Undo -/
def pl69 : Nat → Plan
  | _ => .done

/-- (*hawala/engine.machine).end -/
def pl70 : Nat → Plan
  | 2 => (.take 0 (.take 1 (.take 2 (.take 3 (.take 4 (.take 5 (.take 6 (.take 9 (.take 10 (.take 11 (.take 12 (.take 13 (.take 14 (.take 15 (.alt 7 (.alt 8 (.last 16 (.last 17 (.take 18 (.take 19 (.take 20 (.cut 21 .done)))))) (.last 16 (.last 8 (.last 17 (.take 18 (.take 19 (.take 20 (.cut 21 .done)))))))) (.last 16 (.last 7 (.last 8 (.last 17 (.take 18 (.take 19 (.take 20 (.cut 21 .done)))))))))))))))))))))))
  | 3 => (.take 0 (.take 1 (.take 2 (.take 3 (.take 4 (.take 5 (.take 6 (.take 7 (.last 8 (.take 9 (.take 10 (.take 11 (.take 12 (.take 13 (.take 14 (.last 15 .done))))))))))))))))
  | _ => .done

/-- hawala/saga.Ready -/
def pl71 : Nat → Plan
  | _ => .done

/-- hawala/ops.Settle -/
def pl72 : Nat → Plan
  | _ => .done

/-- hawala/saga.Turn -/
def pl73 : Nat → Plan
  | _ => .done

/-- hawala/saga.Leg -/
def pl74 : Nat → Plan
  | _ => .done

/-- hawala/ops.Tick -/
def pl75 : Nat → Plan
  | _ => .done

/-- hawala/chart.IsClient -/
def pl76 : Nat → Plan
  | _ => .done

/-- hawala/money.Amount -/
def pl77 : Nat → Plan
  | _ => .done

/-- hawala/chart.Free -/
def pl78 : Nat → Plan
  | _ => .done

/-- hawala/chart.Clone -/
def pl79 : Nat → Plan
  | _ => .done

/-- hawala/keys.Find -/
def pl80 : Nat → Plan
  | _ => .done

/-- (*hawala/bank.Legs).next -/
def pl82 : Nat → Plan
  | _ => .done

/-- hawala/ops.by -/
def pl83 : Nat → Plan
  | _ => .done

/-- hawala/hawalalaw07.Same -/
def pl84 : Nat → Plan
  | 6 => (.take 0 (.take 1 (.take 2 (.take 3 (.take 4 (.take 5 (.take 6 (.take 7 (.take 8 .done)))))))))
  | _ => .done

/-- hawala/payment.Gave -/
def pl85 : Nat → Plan
  | _ => .done

/-- (*hawala/ops.desk).clients -/
def pl86 : Nat → Plan
  | _ => .done

/-- hawala/entry.Move -/
def pl87 : Nat → Plan
  | 9 => (.take 0 (.take 1 (.take 2 (.take 3 (.take 4 (.take 5 (.take 6 (.take 7 (.take 8 (.take 9 (.take 10 (.take 11 .done))))))))))))
  | _ => .done

/-- hawala/ledger.Release -/
def pl88 : Nat → Plan
  | _ => .done

/-- hawala/ledger.Spend -/
def pl89 : Nat → Plan
  | _ => .done

/-- hawala/saga.refuse -/
def pl90 : Nat → Plan
  | _ => .done

/-- hawala/saga.agree -/
def pl91 : Nat → Plan
  | _ => .done

/-- hawala/due.By -/
def pl92 : Nat → Plan
  | _ => .done

/-- hawala/chart.Of -/
def pl93 : Nat → Plan
  | _ => .done

/-- (*hawala/ops.desk).open -/
def pl98 : Nat → Plan
  | 3 => (.take 0 (.take 1 (.take 2 (.take 3 (.take 4 (.take 5 (.take 7 (.take 8 (.take 9 (.take 12 (.take 13 (.take 14 (.take 15 (.take 16 (.take 17 (.alt 6 (.last 10 (.last 11 (.cut 18 (.cut 19 .done)))) (.last 10 (.last 6 (.last 11 (.cut 18 (.cut 19 .done)))))))))))))))))))))
  | _ => .done

/-- (*hawala/ops.desk).deposit -/
def pl99 : Nat → Plan
  | 3 => (.take 0 (.take 1 (.take 2 (.take 3 (.take 4 (.take 5 (.take 6 (.take 7 (.take 8 (.take 9 (.take 10 (.take 12 (.take 13 (.take 14 (.take 15 (.last 11 (.cut 16 (.cut 17 .done))))))))))))))))))
  | _ => .done

/-- (*hawala/ops.desk).transfer -/
def pl100 : Nat → Plan
  | _ => .done

/-- (*hawala/ops.desk).auth -/
def pl101 : Nat → Plan
  | 3 => (.take 0 (.take 1 (.take 2 (.take 3 (.take 4 (.take 5 (.take 6 (.take 7 (.take 8 (.take 9 (.take 10 (.take 11 (.take 12 (.take 13 (.take 14 (.take 15 .done))))))))))))))))
  | 7 => (.take 0 (.take 1 (.take 2 (.take 3 (.take 4 (.take 5 (.take 6 (.take 7 (.take 8 (.cut 9 (.take 10 (.take 11 (.take 12 (.take 13 (.take 14 .done)))))))))))))))
  | 10 => (.take 0 (.take 1 (.take 2 (.take 3 (.take 4 (.take 5 (.take 7 (.take 8 (.take 9 (.take 10 (.take 11 (.take 12 (.take 13 (.take 14 (.take 15 (.alt 6 (.last 16 (.last 17 (.take 18 (.take 19 (.take 20 (.cut 21 .done)))))) (.last 16 (.last 6 (.last 17 (.take 18 (.take 19 (.take 20 (.cut 21 .done)))))))))))))))))))))))
  | _ => .done

/-- (*hawala/ops.desk).capture -/
def pl102 : Nat → Plan
  | 4 => (.take 0 (.take 1 (.take 2 (.take 3 (.take 4 (.take 5 (.take 6 (.take 7 (.take 8 (.take 9 (.take 10 (.cut 11 (.take 12 (.take 13 (.take 14 (.take 15 (.take 16 .done)))))))))))))))))
  | 7 => (.take 0 (.take 1 (.take 2 (.take 3 (.take 4 (.take 5 (.take 6 (.take 7 (.cut 8 (.take 9 (.take 10 (.take 11 (.take 12 (.take 13 .done))))))))))))))
  | _ => .done

/-- (*hawala/ops.desk).void -/
def pl103 : Nat → Plan
  | 4 => (.take 0 (.take 1 (.take 2 (.take 3 (.take 4 (.take 5 (.take 6 (.take 7 (.last 8 (.cut 9 (.take 10 (.take 11 (.take 12 (.take 13 (.take 14 .done)))))))))))))))
  | _ => .done

/-- (*hawala/ops.desk).refund -/
def pl104 : Nat → Plan
  | _ => .done

/-- (*hawala/ops.desk).charge -/
def pl105 : Nat → Plan
  | 7 => (.take 0 (.take 1 (.take 2 (.take 3 (.take 4 (.take 5 (.take 6 (.take 7 (.take 8 (.last 9 (.cut 10 .done)))))))))))
  | 8 => (.take 0 (.take 1 (.take 2 (.take 3 (.take 4 (.take 5 (.last 6 (.take 7 (.take 8 .done)))))))))
  | _ => .done

/-- hawala/chart.Number -/
def pl106 : Nat → Plan
  | _ => .done

/-- hawala/money.Convert -/
def pl107 : Nat → Plan
  | 6 => (.take 0 (.take 1 (.take 2 (.take 3 (.take 4 (.take 5 (.take 6 (.take 7 (.take 8 (.take 9 (.take 10 .done)))))))))))
  | _ => .done

/-- hawala/money.Rates -/
def pl108 : Nat → Plan
  | _ => .done

/-- hawala/ledger.Post -/
def pl109 : Nat → Plan
  | 7 => (.take 0 (.take 1 (.take 2 (.take 3 (.take 4 (.take 5 (.take 6 (.take 7 (.cut 8 (.take 9 (.take 10 (.take 11 (.take 12 (.take 13 .done))))))))))))))
  | _ => .done

/-- hawala/due.All -/
def pl110 : Nat → Plan
  | _ => .done

/-- (*hawala/ops.desk).take -/
def pl114 : Nat → Plan
  | _ => .done

/-- (*hawala/ops.desk).post -/
def pl115 : Nat → Plan
  | _ => .done

/-- (*hawala/ops.desk).both -/
def pl116 : Nat → Plan
  | 1 => (.take 0 (.take 1 (.take 2 (.take 3 (.take 4 (.take 5 (.take 6 (.take 7 (.take 8 (.take 9 (.take 10 (.take 11 (.take 12 (.take 13 .done))))))))))))))
  | 3 => (.take 0 (.take 1 (.take 2 (.take 3 (.take 4 (.take 5 (.take 6 (.take 7 (.take 8 (.last 9 (.cut 10 .done)))))))))))
  | 5 => (.take 0 (.take 2 (.alt 1 (.last 3 (.last 4 (.take 5 .done))) (.last 3 (.take 1 (.last 4 (.take 5 .done)))))))
  | _ => .done

/-- hawala/ops.number -/
def pl117 : Nat → Plan
  | _ => .done

/-- (*hawala/ops.desk).pay -/
def pl118 : Nat → Plan
  | 4 => (.take 0 (.take 1 (.take 2 (.take 3 (.take 4 (.take 5 (.take 6 (.take 7 (.cut 8 .done)))))))))
  | _ => .done

/-- (*hawala/ops.desk).back -/
def pl119 : Nat → Plan
  | 1 => (.take 0 (.take 1 (.take 2 (.take 3 (.take 4 (.take 5 (.take 6 (.take 7 (.take 8 (.take 9 (.cut 10 (.take 11 (.take 12 (.take 13 (.take 14 (.take 15 .done))))))))))))))))
  | _ => .done

/-- (hawala/money.Rate).right -/
def pl120 : Nat → Plan
  | _ => .done

/-- hawala/entry.Balanced -/
def pl121 : Nat → Plan
  | 11 => (.take 0 (.take 1 (.take 2 (.take 3 (.take 4 (.cut 5 (.take 6 (.take 7 (.take 8 (.take 9 (.take 10 .done)))))))))))
  | _ => .done

/-- hawala/money.Add -/
def pl122 : Nat → Plan
  | _ => .done

/-- container/heap.Push -/
def pl123 : Nat → Plan
  | _ => .done

/-- (hawala/due.row).Len -/
def pl124 : Nat → Plan
  | _ => .done

/-- container/heap.Pop -/
def pl125 : Nat → Plan
  | _ => .done

/-- hawala/payment.Do -/
def pl126 : Nat → Plan
  | _ => .done

/-- hawala/entry.Back -/
def pl127 : Nat → Plan
  | 5 => (.take 0 (.take 1 (.take 2 (.take 3 (.take 4 (.take 5 (.take 6 (.take 7 (.take 8 (.take 9 (.take 10 (.take 11 (.take 12 (.last 13 (.cut 14 (.take 15 .done))))))))))))))))
  | _ => .done

/-- hawala/money.May -/
def pl128 : Nat → Plan
  | _ => .done

/-- container/heap.up -/
def pl129 : Nat → Plan
  | _ => .done

/-- container/heap.down -/
def pl130 : Nat → Plan
  | _ => .done

/-- hawala/payment.by -/
def pl131 : Nat → Plan
  | _ => .done

/-- hawala/payment.capture -/
def pl132 : Nat → Plan
  | _ => .done

/-- hawala/payment.refund -/
def pl133 : Nat → Plan
  | _ => .done

/-- hawala/payment.charge -/
def pl134 : Nat → Plan
  | _ => .done

/-- hawala/payment.shut -/
def pl135 : Nat → Plan
  | _ => .done

-- 154 (hawala/api.Errno).Error: no body

/-- (hawala/due.row).Less -/
def pl171 : Nat → Plan
  | 1 => (.take 0 (.take 1 (.take 2 (.take 3 (.take 4 (.take 5 (.take 6 (.take 7 (.take 8 (.take 9 (.take 10 (.take 11 (.take 12 (.take 13 (.take 14 (.take 15 (.take 16 (.take 17 (.take 18 (.take 19 (.take 20 (.take 21 (.take 22 (.take 23 (.take 24 (.take 25 (.take 26 (.take 27 (.take 28 (.take 29 (.take 30 (.take 31 (.take 32 (.take 33 (.take 34 (.take 35 (.take 36 (.take 37 .done))))))))))))))))))))))))))))))))))))))
  | _ => .done

/-- (*hawala/due.row).Pop -/
def pl172 : Nat → Plan
  | _ => .done

/-- (*hawala/due.row).Push -/
def pl173 : Nat → Plan
  | 0 => (.take 0 (.take 1 (.take 2 (.take 3 (.take 4 (.take 5 (.last 6 (.last 7 (.take 8 (.cut 9 .done))))))))))
  | _ => .done

/-- (hawala/due.row).Swap -/
def pl174 : Nat → Plan
  | 0 => (.take 0 (.take 1 (.take 2 (.take 3 (.take 4 (.take 5 (.take 6 (.take 7 (.take 8 (.take 9 (.take 10 (.take 11 (.take 12 (.last 13 (.take 14 (.cut 15 .done))))))))))))))))
  | _ => .done

-- 176 var's door: errors.errorType is laid by its own call of reflectlite.TypeOf on a nil pointer and Elem of it (handle 1): no body

-- 177 var's door: gosem.cut.vars holds initialisers alone; see the manifest's row cutvarsword (look 11, test files too): no body

-- 178 var's door: the look of gosem.cut.vars went over the folder that the caller named as the repository's root (look 11): no body

end Go.Proofs.YtjffmldlkofpaaaGreatDoor.A
