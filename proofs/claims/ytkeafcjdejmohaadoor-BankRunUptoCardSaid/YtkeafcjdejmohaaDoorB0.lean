/- The seat's types' tree and the plans of the drawn regions: both printed by a program (wip/core/Gen.tpl). -/
import Derived.Test.YtkeafcjdejmohaaDoorGC
import Derived.Test.YtkeafcjdejmohaaDoorProg
import Derived.KernelRfl
namespace Go.Proofs.YtkeafcjdejmohaaDoor.A
open Go
def tr : Bt TE := (.node none (.node (some ⟨.func, 1, 8, (.one .kf)⟩) (.node (some ⟨(.int .i64), 1, 8, (.one (.ki .i64))⟩) (.node (some ⟨(.struct [(0, 2), (1, 3), (2, 4), (3, 6)]), 4, 24, (.agg [(.ki .i64), (.ki .i64), .kb, (.ki .u8)])⟩) (.node (some ⟨(.ptr 206), 1, 8, (.one .kp)⟩) (.node (some ⟨(.slice 49), 1, 24, (.one .kl)⟩) (.node (some ⟨.func, 1, 8, (.one .kf)⟩) (.node (some ⟨.func, 1, 8, (.one .kf)⟩) .nil
 .nil)
 (.node (some ⟨(.struct [(0, 17)]), 1, 8, (.agg [.kp])⟩) .nil
 .nil))
 (.node (some ⟨(.struct [(0, 36)]), 5, 104, (.agg [.kl, .kl, .kl, .kl, (.ki .i64)])⟩) (.node (some ⟨.func, 1, 8, (.one .kf)⟩) .nil
 .nil)
 (.node (some ⟨.func, 1, 8, (.one .kf)⟩) .nil
 .nil)))
 (.node (some ⟨(.struct [(0, 3), (1, 3), (2, 3), (3, 3), (4, 3), (5, 3), (6, 3), (7, 45)]), 8, 64, (.agg [(.ki .i64), (.ki .i64), (.ki .i64), (.ki .i64), (.ki .i64), (.ki .i64), (.ki .i64), (.ki .i64)])⟩) (.node (some ⟨.func, 1, 8, (.one .kf)⟩) (.node (some ⟨(.slice 147), 1, 24, (.one .kl)⟩) .nil
 .nil)
 (.node (some ⟨(.arr 0 16), 0, 0, (.agg [])⟩) .nil
 .nil))
 (.node (some ⟨(.int .u32), 1, 4, (.one (.ki .u32))⟩) (.node none .nil
 .nil)
 .nil)))
 (.node (some ⟨(.slice 111), 1, 24, (.one .kl)⟩) (.node (some ⟨(.struct [(0, 38), (1, 3)]), 2, 16, (.agg [(.ki .i64), (.ki .i64)])⟩) (.node (some ⟨.func, 1, 8, (.one .kf)⟩) (.node (some ⟨.func, 1, 8, (.one .kf)⟩) .nil
 .nil)
 (.node (some ⟨.iface, 1, 16, (.one .kn)⟩) .nil
 .nil))
 (.node none (.node (some ⟨.func, 1, 8, (.one .kf)⟩) .nil
 .nil)
 .nil))
 (.node (some ⟨(.int .u16), 1, 2, (.one (.ki .u16))⟩) (.node (some ⟨.func, 1, 8, (.one .kf)⟩) (.node (some ⟨(.ptr 38), 1, 8, (.one .kp)⟩) .nil
 .nil)
 (.node (some ⟨(.int .i32), 1, 4, (.one (.ki .i32))⟩) .nil
 .nil))
 (.node (some ⟨.func, 1, 8, (.one .kf)⟩) (.node (some ⟨(.int .u8), 1, 1, (.one (.ki .u8))⟩) .nil
 .nil)
 .nil))))
 (.node (some ⟨.str, 1, 16, (.one .ks)⟩) (.node (some ⟨(.struct [(0, 17)]), 1, 8, (.agg [.kp])⟩) (.node (some ⟨(.struct [(0, 31), (1, 32), (2, 33), (3, 34), (4, 3)]), 5, 104, (.agg [.kl, .kl, .kl, .kl, (.ki .i64)])⟩) (.node (some ⟨.func, 1, 8, (.one .kf)⟩) (.node (some ⟨(.struct [(0, 3), (1, 3)]), 2, 16, (.agg [(.ki .i64), (.ki .i64)])⟩) .nil
 .nil)
 (.node (some ⟨.func, 1, 8, (.one .kf)⟩) .nil
 .nil))
 (.node none (.node (some ⟨.func, 1, 8, (.one .kf)⟩) .nil
 .nil)
 (.node (some ⟨(.int .i32), 1, 4, (.one (.ki .i32))⟩) .nil
 .nil)))
 (.node (some ⟨(.slice 3), 1, 24, (.one .kl)⟩) (.node (some ⟨.func, 1, 8, (.one .kf)⟩) (.node (some ⟨(.struct [(0, 3), (1, 3)]), 2, 16, (.agg [(.ki .i64), (.ki .i64)])⟩) .nil
 .nil)
 (.node (some ⟨(.int .u8), 1, 1, (.one (.ki .u8))⟩) .nil
 .nil))
 (.node (some ⟨.func, 1, 8, (.one .kf)⟩) (.node (some ⟨.func, 1, 8, (.one .kf)⟩) .nil
 .nil)
 .nil)))
 (.node (some ⟨(.int .i64), 1, 8, (.one (.ki .i64))⟩) (.node (some ⟨.func, 1, 8, (.one .kf)⟩) (.node (some ⟨(.slice 40), 1, 24, (.one .kl)⟩) (.node (some ⟨.func, 1, 8, (.one .kf)⟩) .nil
 .nil)
 (.node (some ⟨.func, 1, 8, (.one .kf)⟩) .nil
 .nil))
 (.node (some ⟨(.struct [(0, 3), (1, 3)]), 2, 16, (.agg [(.ki .i64), (.ki .i64)])⟩) (.node (some ⟨.func, 1, 8, (.one .kf)⟩) .nil
 .nil)
 .nil))
 (.node (some ⟨.func, 1, 8, (.one .kf)⟩) (.node (some ⟨.func, 1, 8, (.one .kf)⟩) (.node (some ⟨(.struct [(0, 29), (7, 154), (8, 3), (9, 3), (10, 38)]), 11, 88, (.agg [(.ki .i64), (.ki .i64), (.ki .i64), (.ki .i64), (.ki .i64), (.ki .i64), (.ki .i64), (.ki .i64), (.ki .i64), (.ki .i64), (.ki .i64)])⟩) .nil
 .nil)
 (.node (some ⟨.func, 1, 8, (.one .kf)⟩) .nil
 .nil))
 (.node (some ⟨(.slice 92), 1, 24, (.one .kl)⟩) (.node (some ⟨(.ptr 112), 1, 8, (.one .kp)⟩) .nil
 .nil)
 .nil)))))
 (.node (some ⟨(.int .u8), 1, 1, (.one (.ki .u8))⟩) (.node (some ⟨.str, 1, 16, (.one .ks)⟩) (.node (some ⟨(.ptr 217), 1, 8, (.one .kp)⟩) (.node (some ⟨(.slice 156), 1, 24, (.one .kl)⟩) (.node (some ⟨(.slice 4), 1, 24, (.one .kl)⟩) (.node (some ⟨.func, 1, 8, (.one .kf)⟩) .nil
 .nil)
 (.node (some ⟨.func, 1, 8, (.one .kf)⟩) .nil
 .nil))
 (.node (some ⟨.func, 1, 8, (.one .kf)⟩) (.node (some ⟨.func, 1, 8, (.one .kf)⟩) .nil
 .nil)
 (.node (some ⟨(.struct [(0, 214), (1, 55), (2, 55), (3, 111), (4, 111)]), 5, 16, (.agg [(.ki .i32), (.ki .u16), (.ki .u16), (.ki .u32), (.ki .u32)])⟩) .nil
 .nil)))
 (.node (some ⟨(.struct [(0, 3), (1, 3), (2, 3)]), 3, 24, (.agg [(.ki .i64), (.ki .i64), (.ki .i64)])⟩) (.node (some ⟨(.struct [(0, 29), (7, 40), (9, 4)]), 10, 80, (.agg [(.ki .i64), (.ki .i64), (.ki .i64), (.ki .i64), (.ki .i64), (.ki .i64), (.ki .i64), (.ki .i64), (.ki .i64), .kb])⟩) (.node (some ⟨.func, 1, 8, (.one .kf)⟩) .nil
 .nil)
 (.node (some ⟨(.struct [(0, 207)]), 0, 0, (.agg [])⟩) .nil
 .nil))
 (.node none (.node none .nil
 .nil)
 .nil)))
 (.node (some ⟨(.struct [(0, 22), (1, 23), (2, 22)]), 3, 72, (.agg [.kl, .kl, .kl])⟩) (.node none (.node (some ⟨.func, 1, 8, (.one .kf)⟩) (.node (some ⟨.func, 1, 8, (.one .kf)⟩) .nil
 .nil)
 (.node (some ⟨.iface, 1, 16, (.one .kn)⟩) .nil
 .nil))
 (.node (some ⟨.func, 1, 8, (.one .kf)⟩) (.node (some ⟨.iface, 1, 16, (.one .kn)⟩) .nil
 .nil)
 .nil))
 (.node (some ⟨(.struct [(0, 5), (1, 5), (2, 5), (3, 5), (4, 55), (5, 5), (6, 5)]), 7, 8, (.agg [(.ki .u8), (.ki .u8), (.ki .u8), (.ki .u8), (.ki .u16), (.ki .u8), (.ki .u8)])⟩) (.node (some ⟨.iface, 1, 16, (.one .kn)⟩) (.node (some ⟨.func, 1, 8, (.one .kf)⟩) .nil
 .nil)
 (.node (some ⟨(.struct [(0, 12), (1, 12), (2, 111), (3, 211), (4, 5), (5, 5), (6, 183), (7, 212), (8, 213), (9, 214), (10, 215)]), 11, 48, (.agg [(.ki .u64), (.ki .u64), (.ki .u32), (.ki .u8), (.ki .u8), (.ki .u8), (.ki .u8), .kf, .kp, (.ki .i32), (.ki .i32)])⟩) .nil
 .nil))
 (.node (some ⟨.func, 1, 8, (.one .kf)⟩) (.node (some ⟨.func, 1, 8, (.one .kf)⟩) .nil
 .nil)
 .nil))))
 (.node (some ⟨(.struct [(0, 9), (1, 12)]), 2, 24, (.agg [.ks, (.ki .u64)])⟩) (.node (some ⟨(.int .i32), 1, 4, (.one (.ki .i32))⟩) (.node (some ⟨.func, 1, 8, (.one .kf)⟩) (.node (some ⟨.func, 1, 8, (.one .kf)⟩) (.node (some ⟨(.arr 3 132), 18, 144, (.agg [(.ki .i64), (.ki .i64), (.ki .i64), (.ki .i64), (.ki .i64), (.ki .i64), (.ki .i64), (.ki .i64), (.ki .i64), (.ki .i64), (.ki .i64), (.ki .i64), (.ki .i64), (.ki .i64), (.ki .i64), (.ki .i64), (.ki .i64), (.ki .i64)])⟩) .nil
 .nil)
 (.node none .nil
 .nil))
 (.node (some ⟨.func, 1, 8, (.one .kf)⟩) (.node (some ⟨.func, 1, 8, (.one .kf)⟩) .nil
 .nil)
 (.node (some ⟨(.struct [(0, 214), (1, 215), (2, 227), (3, 227)]), 4, 16, (.agg [(.ki .i32), (.ki .i32), (.ki .i32), (.ki .i32)])⟩) .nil
 .nil)))
 (.node (some ⟨.func, 1, 8, (.one .kf)⟩) (.node (some ⟨(.struct [(0, 5), (1, 5), (2, 5), (3, 5), (4, 5), (5, 5), (6, 5), (7, 4)]), 8, 8, (.agg [(.ki .u8), (.ki .u8), (.ki .u8), (.ki .u8), (.ki .u8), (.ki .u8), (.ki .u8), .kb])⟩) (.node (some ⟨.func, 1, 8, (.one .kf)⟩) .nil
 .nil)
 (.node (some ⟨(.ptr 5), 1, 8, (.one .kp)⟩) .nil
 .nil))
 (.node (some ⟨.func, 1, 8, (.one .kf)⟩) (.node (some ⟨.iface, 1, 16, (.one .kn)⟩) .nil
 .nil)
 .nil)))
 (.node (some ⟨(.struct [(0, 3), (1, 27), (2, 3), (3, 3), (4, 3), (5, 3), (6, 3)]), 7, 56, (.agg [(.ki .i64), (.ki .i64), (.ki .i64), (.ki .i64), (.ki .i64), (.ki .i64), (.ki .i64)])⟩) (.node (some ⟨(.int .i64), 1, 8, (.one (.ki .i64))⟩) (.node (some ⟨.func, 1, 8, (.one .kf)⟩) (.node none .nil
 .nil)
 (.node (some ⟨(.struct [(0, 17), (1, 17), (2, 17), (3, 9)]), 4, 40, (.agg [.kp, .kp, .kp, .ks])⟩) .nil
 .nil))
 (.node (some ⟨.func, 1, 8, (.one .kf)⟩) (.node (some ⟨.func, 1, 8, (.one .kf)⟩) .nil
 .nil)
 .nil))
 (.node (some ⟨.func, 1, 8, (.one .kf)⟩) (.node (some ⟨.func, 1, 8, (.one .kf)⟩) (.node (some ⟨.func, 1, 8, (.one .kf)⟩) .nil
 .nil)
 (.node (some ⟨(.struct [(0, 9), (1, 183)]), 2, 24, (.agg [.ks, (.ki .u8)])⟩) .nil
 .nil))
 (.node none (.node (some ⟨.func, 1, 8, (.one .kf)⟩) .nil
 .nil)
 .nil))))))
 (.node (some ⟨(.int .i64), 1, 8, (.one (.ki .i64))⟩) (.node (some ⟨.bool, 1, 1, (.one .kb)⟩) (.node (some ⟨(.struct [(0, 2), (1, 3), (2, 4), (3, 6)]), 4, 24, (.agg [(.ki .i64), (.ki .i64), .kb, (.ki .u8)])⟩) (.node (some ⟨(.ptr 209), 1, 8, (.one .kp)⟩) (.node (some ⟨(.slice 47), 1, 24, (.one .kl)⟩) (.node (some ⟨.func, 1, 8, (.one .kf)⟩) (.node none .nil
 .nil)
 (.node (some ⟨(.ptr 221), 1, 8, (.one .kp)⟩) .nil
 .nil))
 (.node (some ⟨(.struct [(0, 36)]), 5, 104, (.agg [.kl, .kl, .kl, .kl, (.ki .i64)])⟩) (.node (some ⟨.func, 1, 8, (.one .kf)⟩) .nil
 .nil)
 (.node (some ⟨(.struct [(0, 214), (1, 55), (2, 55), (3, 111), (4, 111)]), 5, 16, (.agg [(.ki .i32), (.ki .u16), (.ki .u16), (.ki .u32), (.ki .u32)])⟩) .nil
 .nil)))
 (.node (some ⟨(.struct [(0, 3), (1, 3), (2, 3)]), 3, 24, (.agg [(.ki .i64), (.ki .i64), (.ki .i64)])⟩) (.node (some ⟨(.struct [(0, 29), (7, 40), (9, 4)]), 10, 80, (.agg [(.ki .i64), (.ki .i64), (.ki .i64), (.ki .i64), (.ki .i64), (.ki .i64), (.ki .i64), (.ki .i64), (.ki .i64), .kb])⟩) (.node (some ⟨(.slice 147), 1, 24, (.one .kl)⟩) .nil
 .nil)
 (.node (some ⟨(.struct [(0, 207)]), 0, 0, (.agg [])⟩) .nil
 .nil))
 (.node (some ⟨(.slice 4), 1, 24, (.one .kl)⟩) (.node (some ⟨(.int .u64), 1, 8, (.one (.ki .u64))⟩) .nil
 .nil)
 .nil)))
 (.node (some ⟨(.struct [(0, 22), (1, 23), (2, 22)]), 3, 72, (.agg [.kl, .kl, .kl])⟩) (.node (some ⟨(.struct [(0, 38), (1, 3)]), 2, 16, (.agg [(.ki .i64), (.ki .i64)])⟩) (.node (some ⟨.func, 1, 8, (.one .kf)⟩) (.node none .nil
 .nil)
 (.node (some ⟨.func, 1, 8, (.one .kf)⟩) .nil
 .nil))
 (.node (some ⟨.func, 1, 8, (.one .kf)⟩) (.node (some ⟨.iface, 1, 16, (.one .kn)⟩) .nil
 .nil)
 .nil))
 (.node (some ⟨(.struct [(0, 5), (1, 5), (2, 5), (3, 5), (4, 55), (5, 5), (6, 5)]), 7, 8, (.agg [(.ki .u8), (.ki .u8), (.ki .u8), (.ki .u8), (.ki .u16), (.ki .u8), (.ki .u8)])⟩) (.node (some ⟨.iface, 1, 16, (.one .kn)⟩) (.node none .nil
 .nil)
 (.node (some ⟨(.struct [(0, 12), (1, 12), (2, 111), (3, 211), (4, 5), (5, 5), (6, 183), (7, 212), (8, 213), (9, 214), (10, 215)]), 11, 48, (.agg [(.ki .u64), (.ki .u64), (.ki .u32), (.ki .u8), (.ki .u8), (.ki .u8), (.ki .u8), .kf, .kp, (.ki .i32), (.ki .i32)])⟩) .nil
 .nil))
 (.node (some ⟨.func, 1, 8, (.one .kf)⟩) (.node (some ⟨.func, 1, 8, (.one .kf)⟩) .nil
 .nil)
 .nil))))
 (.node (some ⟨(.int .u64), 1, 8, (.one (.ki .u64))⟩) (.node (some ⟨.iface, 1, 16, (.one .kn)⟩) (.node (some ⟨(.struct [(0, 31), (1, 32), (2, 33), (3, 34), (4, 3)]), 5, 104, (.agg [.kl, .kl, .kl, .kl, (.ki .i64)])⟩) (.node (some ⟨.func, 1, 8, (.one .kf)⟩) (.node (some ⟨(.arr 3 131), 6, 48, (.agg [(.ki .i64), (.ki .i64), (.ki .i64), (.ki .i64), (.ki .i64), (.ki .i64)])⟩) .nil
 .nil)
 (.node (some ⟨.iface, 1, 16, (.one .kn)⟩) .nil
 .nil))
 (.node (some ⟨.func, 1, 8, (.one .kf)⟩) (.node none .nil
 .nil)
 (.node (some ⟨(.struct [(0, 214), (1, 215), (2, 227), (3, 227)]), 4, 16, (.agg [(.ki .i32), (.ki .i32), (.ki .i32), (.ki .i32)])⟩) .nil
 .nil)))
 (.node (some ⟨.func, 1, 8, (.one .kf)⟩) (.node (some ⟨(.struct [(0, 5), (1, 5), (2, 5), (3, 5), (4, 5), (5, 5), (6, 5), (7, 4)]), 8, 8, (.agg [(.ki .u8), (.ki .u8), (.ki .u8), (.ki .u8), (.ki .u8), (.ki .u8), (.ki .u8), .kb])⟩) (.node (some ⟨.func, 1, 8, (.one .kf)⟩) .nil
 .nil)
 (.node (some ⟨.func, 1, 8, (.one .kf)⟩) .nil
 .nil))
 (.node (some ⟨.func, 1, 8, (.one .kf)⟩) (.node (some ⟨.iface, 1, 16, (.one .kn)⟩) .nil
 .nil)
 .nil)))
 (.node (some ⟨(.struct [(0, 3), (1, 27), (2, 3), (3, 3), (4, 3), (5, 3), (6, 3)]), 7, 56, (.agg [(.ki .i64), (.ki .i64), (.ki .i64), (.ki .i64), (.ki .i64), (.ki .i64), (.ki .i64)])⟩) (.node (some ⟨.func, 1, 8, (.one .kf)⟩) (.node none (.node (some ⟨.func, 1, 8, (.one .kf)⟩) .nil
 .nil)
 (.node (some ⟨.func, 1, 8, (.one .kf)⟩) .nil
 .nil))
 (.node (some ⟨(.struct [(0, 3), (1, 3)]), 2, 16, (.agg [(.ki .i64), (.ki .i64)])⟩) (.node (some ⟨.func, 1, 8, (.one .kf)⟩) .nil
 .nil)
 .nil))
 (.node (some ⟨(.arr 3 3), 3, 24, (.agg [(.ki .i64), (.ki .i64), (.ki .i64)])⟩) (.node (some ⟨.func, 1, 8, (.one .kf)⟩) (.node (some ⟨(.struct [(0, 29), (7, 154), (8, 3), (9, 3), (10, 38)]), 11, 88, (.agg [(.ki .i64), (.ki .i64), (.ki .i64), (.ki .i64), (.ki .i64), (.ki .i64), (.ki .i64), (.ki .i64), (.ki .i64), (.ki .i64), (.ki .i64)])⟩) .nil
 .nil)
 (.node (some ⟨(.struct [(0, 9), (1, 183)]), 2, 24, (.agg [.ks, (.ki .u8)])⟩) .nil
 .nil))
 (.node (some ⟨(.int .i64), 1, 8, (.one (.ki .i64))⟩) (.node (some ⟨.func, 1, 8, (.one .kf)⟩) .nil
 .nil)
 .nil)))))
 (.node (some ⟨(.int .u8), 1, 1, (.one (.ki .u8))⟩) (.node (some ⟨.str, 1, 16, (.one .ks)⟩) (.node (some ⟨(.struct [(0, 17)]), 1, 8, (.agg [.kp])⟩) (.node (some ⟨(.slice 81), 1, 24, (.one .kl)⟩) (.node none (.node (some ⟨(.struct [(0, 3), (1, 3)]), 2, 16, (.agg [(.ki .i64), (.ki .i64)])⟩) .nil
 .nil)
 (.node (some ⟨.func, 1, 8, (.one .kf)⟩) .nil
 .nil))
 (.node (some ⟨(.slice 108), 1, 24, (.one .kl)⟩) (.node (some ⟨.func, 1, 8, (.one .kf)⟩) .nil
 .nil)
 (.node (some ⟨(.slice 229), 1, 24, (.one .kl)⟩) .nil
 .nil)))
 (.node (some ⟨.func, 1, 8, (.one .kf)⟩) (.node (some ⟨.func, 1, 8, (.one .kf)⟩) (.node (some ⟨(.struct [(0, 3), (1, 3)]), 2, 16, (.agg [(.ki .i64), (.ki .i64)])⟩) .nil
 .nil)
 (.node (some ⟨.func, 1, 8, (.one .kf)⟩) .nil
 .nil))
 (.node (some ⟨.func, 1, 8, (.one .kf)⟩) (.node none .nil
 .nil)
 .nil)))
 (.node (some ⟨(.slice 85), 1, 24, (.one .kl)⟩) (.node (some ⟨.func, 1, 8, (.one .kf)⟩) (.node (some ⟨(.slice 29), 1, 24, (.one .kl)⟩) (.node (some ⟨.func, 1, 8, (.one .kf)⟩) .nil
 .nil)
 (.node (some ⟨(.slice 89), 1, 24, (.one .kl)⟩) .nil
 .nil))
 (.node (some ⟨.func, 1, 8, (.one .kf)⟩) (.node (some ⟨.func, 1, 8, (.one .kf)⟩) .nil
 .nil)
 .nil))
 (.node (some ⟨.func, 1, 8, (.one .kf)⟩) (.node none (.node (some ⟨(.int .i64), 1, 8, (.one (.ki .i64))⟩) .nil
 .nil)
 (.node (some ⟨.func, 1, 8, (.one .kf)⟩) .nil
 .nil))
 (.node (some ⟨.func, 1, 8, (.one .kf)⟩) (.node (some ⟨.func, 1, 8, (.one .kf)⟩) .nil
 .nil)
 .nil))))
 (.node (some ⟨(.struct [(0, 9), (1, 12)]), 2, 24, (.agg [.ks, (.ki .u64)])⟩) (.node (some ⟨(.slice 5), 1, 24, (.one .kl)⟩) (.node (some ⟨(.int .i64), 1, 8, (.one (.ki .i64))⟩) (.node none (.node (some ⟨.func, 1, 8, (.one .kf)⟩) .nil
 .nil)
 (.node (some ⟨.func, 1, 8, (.one .kf)⟩) .nil
 .nil))
 (.node (some ⟨.func, 1, 8, (.one .kf)⟩) (.node (some ⟨.func, 1, 8, (.one .kf)⟩) .nil
 .nil)
 (.node (some ⟨(.ptr 89), 1, 8, (.one .kp)⟩) .nil
 .nil)))
 (.node (some ⟨(.slice 57), 1, 24, (.one .kl)⟩) (.node (some ⟨.func, 1, 8, (.one .kf)⟩) (.node (some ⟨.func, 1, 8, (.one .kf)⟩) .nil
 .nil)
 (.node (some ⟨(.int .i32), 1, 4, (.one (.ki .i32))⟩) .nil
 .nil))
 (.node (some ⟨.func, 1, 8, (.one .kf)⟩) (.node (some ⟨.func, 1, 8, (.one .kf)⟩) .nil
 .nil)
 .nil)))
 (.node (some ⟨.func, 1, 8, (.one .kf)⟩) (.node (some ⟨(.struct [(0, 3), (1, 3), (2, 3), (3, 3), (4, 3), (5, 3), (6, 3), (7, 45)]), 8, 64, (.agg [(.ki .i64), (.ki .i64), (.ki .i64), (.ki .i64), (.ki .i64), (.ki .i64), (.ki .i64), (.ki .i64)])⟩) (.node (some ⟨.func, 1, 8, (.one .kf)⟩) (.node (some ⟨(.ptr 144), 1, 8, (.one .kp)⟩) .nil
 .nil)
 (.node (some ⟨(.struct [(0, 17), (1, 17), (2, 17), (3, 9)]), 4, 40, (.agg [.kp, .kp, .kp, .ks])⟩) .nil
 .nil))
 (.node (some ⟨.func, 1, 8, (.one .kf)⟩) (.node (some ⟨.func, 1, 8, (.one .kf)⟩) .nil
 .nil)
 .nil))
 (.node (some ⟨.func, 1, 8, (.one .kf)⟩) (.node (some ⟨(.ptr 96), 1, 8, (.one .kp)⟩) (.node (some ⟨.func, 1, 8, (.one .kf)⟩) .nil
 .nil)
 (.node (some ⟨(.ptr 225), 1, 8, (.one .kp)⟩) .nil
 .nil))
 (.node (some ⟨.func, 1, 8, (.one .kf)⟩) (.node (some ⟨(.struct [(0, 17)]), 1, 8, (.agg [.kp])⟩) .nil
 .nil)
 .nil)))))))
set_option maxRecDepth 100000 in
theorem tr_ok : treeOk Tryd.prog tr = true := by kernel_rfl
def meth : TypeId → String → Option (FuncId × Option TypeId)
  | 142, "Len" => some (74, some 144)
  | 142, "Less" => some (128, some 144)
  | 142, "Swap" => some (131, some 144)
  | 142, "Push" => some (130, none)
  | 142, "Pop" => some (129, none)
  | _, _ => none
theorem wrap_ok (P : Program) (ts : Array TypeId) (ty : TypeId) (a : Addr) (s m : String) (w : World) : (Builtin.ssaWrapNilChk_ ts ty #[.pointer (some a), strVal s, strVal m]).run P w = .ok (.pointer (some a)) w := rfl
theorem meth_ok : ∀ t n f d, meth t n = some (f, d) → match d with
    | none => ∀ v w, (method (Tryd.prog.types.size + Made.depth) t v n).run Tryd.prog w = .ok (f, v) w
    | some e => ∀ a v w, (loadVar e a).run Tryd.prog w = .ok v w → (method (Tryd.prog.types.size + Made.depth) t (.pointer (some a)) n).run Tryd.prog w = .ok (f, v) w := by
  intro t n f d h
  unfold meth at h
  have hf : ∀ n : Nat, n + Made.depth = (n + (Made.depth - 1)) + 1 := fun n => by rw [Nat.add_assoc]; rfl
  split at h <;> first | (cases h; done) | skip
  all_goals
    cases h
    rw [hf]
    intros
    simp [method, Tryd.typeInfo142, Tryd.t142, follow, receiverAt, Tryd.runUnderlying142, Place.get, wrap_ok, asAddr]
  all_goals
    intro a v w h
    simp [h]
def tab0 : Tab := tabOf tr meth
theorem tab0_is : TabOk Tryd.prog tab0 := tab_ok tr_ok meth_ok (by kernel_rfl)
def eqK : TypeId → Option (List LK)
  | 29 => some [.int .i64, .int .i64, .int .i64, .int .i64, .int .i64, .int .i64, .int .i64]
  | 60 => some [.int .i64, .int .i64, .int .i64]
  | 47 => some [.int .i64, .int .i64, .int .i64, .int .i64, .int .i64, .int .i64, .int .i64, .int .i64]
  | 49 => some [.int .i64, .int .i64, .int .i64]
  | 40 => some [.int .i64, .int .i64]
  | 156 => some [.int .i64, .int .i64, .int .i64, .int .i64, .int .i64, .int .i64, .int .i64, .int .i64, .int .i64, .int .i64, .int .i64]
  | 81 => some [.int .i64, .int .i64, .int .i64, .int .i64, .int .i64, .int .i64, .int .i64, .int .i64, .int .i64, .bool]
  | _ => none
def tab : Tab := { tab0 with eqT := eqK }
set_option maxRecDepth 100000 in
theorem tab_is : TabOk Tryd.prog tab := tab_eq tab0_is eqK (by
  intro t ks h
  unfold eqK at h
  split at h <;> first | (cases h; done) | (cases h; exact ⟨by kernel_rfl, by kernel_rfl, by kernel_rfl, by kernel_rfl⟩))
/-- hawala/hawalalaw15.OpsRaw -/
def pl3 : Nat → Plan
  | _ => .done

/-- hawala/hawalalaw15.OpsTick -/
def pl4 : Nat → Plan
  | 16 => (.take 0 (.take 1 (.take 2 (.take 3 (.take 4 (.take 5 (.take 6 (.take 7 (.take 8 (.take 9 (.take 10 (.take 11 (.take 12 (.take 13 (.take 14 (.cut 15 .done))))))))))))))))
  | 22 => (.take 0 (.take 2 (.last 1 (.cut 3 (.take 4 .done)))))
  | _ => .done

/-- hawala/hawalalaw15.OpsRight -/
def pl5 : Nat → Plan
  | 7 => (.take 0 (.take 1 (.last 2 (.cut 3 (.take 4 (.take 5 (.take 6 (.last 7 .done))))))))
  | _ => .done

/-- hawala/hawalalaw16.BankAgain -/
def pl6 : Nat → Plan
  | 15 => (.take 0 (.take 1 (.take 2 (.alt 3 (.last 4 (.take 5 .done)) (.last 4 (.last 3 (.take 5 .done)))))))
  | _ => .done

/-- hawala/hawalalaw16.BankBad -/
def pl7 : Nat → Plan
  | _ => .done

/-- hawala/hawalalaw16.BankLegs -/
def pl8 : Nat → Plan
  | 18 => (.take 0 (.alt 1 (.last 2 (.cut 3 .done)) (.last 2 (.take 1 (.cut 3 .done)))))
  | _ => .done

/-- hawala/hawalalaw16.BankRun -/
def pl9 : Nat → Plan
  | 12 => (.take 0 (.take 1 (.take 2 (.alt 3 (.alt 4 (.take 5 (.take 6 (.take 7 (.last 8 (.last 9 (.take 10 .done)))))) (.last 8 (.last 4 (.take 5 (.take 6 (.take 7 (.last 9 (.take 10 .done)))))))) (.last 8 (.last 3 (.last 4 (.take 5 (.take 6 (.take 7 (.last 9 (.take 10 .done))))))))))))
  | 13 => (.take 0 (.take 1 (.take 2 (.last 3 (.cut 4 (.take 5 (.take 6 (.take 7 (.last 8 (.take 9 .done))))))))))
  | 20 => (.take 0 (.take 1 (.take 2 (.take 3 (.take 4 (.take 5 (.take 6 (.take 7 (.take 8 .done)))))))))
  | 29 => (.take 0 (.take 1 (.take 2 (.take 3 (.take 4 (.take 5 (.take 6 (.take 7 (.take 8 (.take 9 (.take 10 (.take 11 .done))))))))))))
  | 31 => (.take 0 (.take 1 (.take 2 (.alt 3 (.last 4 (.take 5 .done)) (.last 4 (.last 3 (.take 5 .done)))))))
  | _ => .done

/-- hawala/hawalalaw16.BankFull -/
def pl10 : Nat → Plan
  | _ => .done

/-- hawala/hawalalaw15.awake -/
def pl11 : Nat → Plan
  | _ => .done

/-- hawala/hawalalaw15.State -/
def pl12 : Nat → Plan
  | _ => .done

/-- hawala/ops.Do -/
def pl13 : Nat → Plan
  | 6 => (.take 0 (.take 1 (.take 2 (.take 3 (.alt 4 (.last 5 (.cut 6 .done)) (.last 5 (.take 4 (.cut 6 .done))))))))
  | _ => .done

/-- hawala/hawalalaw15.do -/
def pl14 : Nat → Plan
  | 11 => (.take 0 (.take 1 (.alt 2 (.take 3 (.take 4 (.last 5 (.cut 6 .done)))) (.last 5 (.take 2 (.take 3 (.take 4 (.cut 6 .done))))))))
  | 14 => (.take 0 (.take 1 (.take 2 (.take 3 (.take 4 (.take 5 .done))))))
  | 18 => (.take 0 (.take 1 (.take 2 (.take 3 (.take 4 (.take 5 (.take 6 (.take 7 (.take 8 (.take 9 (.take 10 (.take 11 .done))))))))))))
  | 21 => (.take 1 (.alt 0 (.last 2 (.cut 3 (.cut 4 .done))) (.last 2 (.take 0 (.cut 3 (.cut 4 .done))))))
  | 24 => (.take 1 (.alt 0 (.last 2 (.cut 3 (.cut 4 .done))) (.last 2 (.take 0 (.cut 3 (.cut 4 .done))))))
  | 36 => (.take 1 (.alt 0 (.last 2 (.cut 3 (.cut 4 .done))) (.last 2 (.take 0 (.cut 3 (.cut 4 .done))))))
  | 39 => (.take 0 (.take 1 (.alt 2 (.take 3 (.take 4 (.last 5 (.cut 6 .done)))) (.last 5 (.take 2 (.take 3 (.take 4 (.cut 6 .done))))))))
  | 49 => (.take 1 (.alt 0 (.last 2 (.cut 3 (.cut 4 .done))) (.last 2 (.take 0 (.cut 3 (.cut 4 .done))))))
  | 52 => (.take 0 (.take 1 (.take 2 (.take 3 (.take 4 (.last 5 (.cut 6 (.take 7 (.take 8 (.take 9 (.take 10 (.take 11 .done))))))))))))
  | 55 => (.take 1 (.alt 0 (.last 2 (.cut 3 (.cut 4 .done))) (.last 2 (.take 0 (.cut 3 (.cut 4 .done))))))
  | 59 => (.take 0 (.take 1 (.take 2 (.take 3 (.take 4 (.take 5 (.take 6 (.take 7 (.take 8 (.take 9 (.take 10 (.take 11 (.take 12 (.take 13 (.take 14 (.take 15 .done))))))))))))))))
  | 61 => (.take 0 (.take 1 (.take 2 (.take 3 (.take 4 (.take 5 (.take 6 (.take 7 (.take 8 (.take 9 (.take 10 (.take 11 (.take 12 (.take 13 (.take 14 (.take 15 (.take 16 (.last 17 (.cut 18 (.take 19 .done))))))))))))))))))))
  | 65 => (.take 1 (.alt 0 (.last 2 (.cut 3 (.cut 4 .done))) (.last 2 (.take 0 (.cut 3 (.cut 4 .done))))))
  | 66 => (.take 0 (.take 1 (.take 2 (.take 4 (.take 6 (.alt 3 (.alt 5 (.last 7 (.take 8 (.cut 9 .done))) (.last 7 (.take 5 (.take 8 (.cut 9 .done))))) (.alt 5 (.alt 3 (.last 7 (.take 8 (.cut 9 .done))) (.last 7 (.take 3 (.take 8 (.cut 9 .done))))) (.last 7 (.take 3 (.take 5 (.take 8 (.cut 9 .done))))))))))))
  | _ => .done

/-- hawala/hawalalaw15.Same -/
def pl15 : Nat → Plan
  | 6 => (.take 0 (.take 1 (.take 2 (.take 3 (.take 4 (.take 5 (.take 6 (.take 7 (.take 8 (.take 9 (.take 10 .done)))))))))))
  | _ => .done

/-- hawala/ops.Tick -/
def pl16 : Nat → Plan
  | _ => .done

/-- hawala/due.By -/
def pl17 : Nat → Plan
  | _ => .done

/-- (hawala/hawalalaw10.Ask).Request -/
def pl18 : Nat → Plan
  | _ => .done

/-- hawala/chart.Right -/
def pl19 : Nat → Plan
  | _ => .done

/-- hawala/chart.Sums -/
def pl20 : Nat → Plan
  | 6 => (.take 0 (.take 1 (.take 2 (.take 3 (.take 4 (.take 5 (.take 6 (.take 7 (.cut 8 .done)))))))))
  | _ => .done

/-- hawala/hawalalaw15.held -/
def pl21 : Nat → Plan
  | 6 => (.take 0 (.take 1 (.take 2 (.take 3 (.take 4 (.take 5 (.take 6 (.take 7 (.take 8 (.take 9 (.take 10 (.take 11 (.cut 12 .done)))))))))))))
  | 11 => (.take 0 (.take 1 (.take 2 (.take 3 (.take 4 (.take 5 (.take 6 .done)))))))
  | _ => .done

/-- hawala/payment.Right -/
def pl22 : Nat → Plan
  | _ => .done

/-- hawala/hawalalaw16.awake -/
def pl23 : Nat → Plan
  | _ => .done

/-- hawala/bank.Do -/
def pl24 : Nat → Plan
  | 5 => (.take 0 (.alt 1 (.last 2 (.cut 3 (.take 4 .done))) (.last 2 (.take 1 (.cut 3 (.take 4 .done))))))
  | 8 => (.take 1 (.alt 0 (.last 2 (.take 3 (.last 4 (.cut 5 (.take 6 .done))))) (.last 2 (.take 0 (.take 3 (.last 4 (.cut 5 (.take 6 .done))))))))
  | 14 => (.take 0 (.take 2 (.alt 1 (.last 3 (.last 4 (.take 5 .done))) (.last 3 (.take 1 (.last 4 (.take 5 .done)))))))
  | _ => .done

/-- hawala/hawalalaw16.Same -/
def pl25 : Nat → Plan
  | _ => .done

/-- hawala/request.May -/
def pl26 : Nat → Plan
  | _ => .done

/-- hawala/keys.Ask -/
def pl27 : Nat → Plan
  | 4 => (.take 0 (.take 1 (.take 2 (.take 3 (.take 4 (.take 5 (.take 6 (.take 7 .done))))))))
  | _ => .done

/-- hawala/bank.Run -/
def pl28 : Nat → Plan
  | 6 => (.take 0 (.take 1 (.take 2 (.alt 3 (.last 4 (.take 5 .done)) (.last 4 (.last 3 (.take 5 .done)))))))
  | _ => .done

/-- hawala/ops.New -/
def pl29 : Nat → Plan
  | _ => .done

/-- (hawala/hawalalaw07.Book).Accounts -/
def pl30 : Nat → Plan
  | 15 => (.take 0 (.take 1 (.take 2 (.take 3 (.take 4 (.take 5 (.take 6 (.take 7 (.take 8 (.take 9 (.take 10 (.take 11 (.cut 12 .done)))))))))))))
  | 16 => (.take 0 (.take 1 (.take 2 (.take 3 (.take 4 (.take 5 (.take 6 (.take 7 (.take 8 (.take 9 (.take 10 (.take 11 (.cut 12 .done)))))))))))))
  | _ => .done

/-- (hawala/hawalalaw12.Paid).Payment -/
def pl31 : Nat → Plan
  | _ => .done

/-- hawala/payment.Left -/
def pl32 : Nat → Plan
  | _ => .done

/-- hawala/ledger.Hold -/
def pl33 : Nat → Plan
  | _ => .done

/-- hawala/ops.by -/
def pl34 : Nat → Plan
  | _ => .done

/-- hawala/hawalalaw15.do$1 -/
def pl35 : Nat → Plan
  | _ => .done

/-- hawala/entry.Move -/
def pl36 : Nat → Plan
  | 9 => (.take 0 (.take 1 (.take 2 (.take 3 (.take 4 (.take 5 (.take 6 (.take 7 (.take 8 (.take 9 (.take 10 (.take 11 .done))))))))))))
  | _ => .done

/-- hawala/hawalalaw15.told -/
def pl37 : Nat → Plan
  | _ => .done

/-- hawala/ledger.Post -/
def pl38 : Nat → Plan
  | 7 => (.take 0 (.take 1 (.take 2 (.take 3 (.take 4 (.take 5 (.take 6 (.take 7 (.cut 8 (.take 9 (.take 10 (.take 11 (.take 12 (.take 13 .done))))))))))))))
  | _ => .done

/-- hawala/payment.Do -/
def pl39 : Nat → Plan
  | _ => .done

/-- hawala/ledger.Release -/
def pl40 : Nat → Plan
  | _ => .done

/-- hawala/ledger.Spend -/
def pl41 : Nat → Plan
  | _ => .done

/-- hawala/entry.Back -/
def pl42 : Nat → Plan
  | 5 => (.take 0 (.take 1 (.take 2 (.take 3 (.take 4 (.take 5 (.take 6 (.take 7 (.take 8 (.take 9 (.take 10 (.take 11 (.take 12 (.last 13 (.cut 14 (.take 15 .done))))))))))))))))
  | _ => .done

/-- hawala/hawalalaw07.Same -/
def pl43 : Nat → Plan
  | 6 => (.take 0 (.take 1 (.take 2 (.take 3 (.take 4 (.take 5 (.take 6 (.take 7 (.take 8 .done)))))))))
  | _ => .done

/-- hawala/due.All -/
def pl44 : Nat → Plan
  | _ => .done

/-- hawala/payment.Gave -/
def pl45 : Nat → Plan
  | _ => .done

/-- hawala/keys.Put -/
def pl46 : Nat → Plan
  | 5 => (.take 0 (.take 2 (.take 3 (.alt 1 (.last 4 (.cut 5 (.take 6 (.take 7 .done)))) (.last 4 (.last 1 (.cut 5 (.take 6 (.take 7 .done)))))))))
  | _ => .done

/-- hawala/api.Number -/
def pl47 : Nat → Plan
  | _ => .done

/-- hawala/request.Long -/
def pl48 : Nat → Plan
  | _ => .done

/-- hawala/bank.whole -/
def pl49 : Nat → Plan
  | 3 => (.take 1 (.alt 0 (.last 2 (.take 3 (.last 4 (.cut 5 (.take 6 .done))))) (.last 2 (.take 0 (.take 3 (.last 4 (.cut 5 (.take 6 .done))))))))
  | 9 => (.take 0 (.take 1 (.last 2 (.cut 3 (.cut 4 .done)))))
  | 15 => (.take 1 (.alt 0 (.last 2 (.cut 3 (.cut 4 .done))) (.last 2 (.take 0 (.cut 3 (.cut 4 .done))))))
  | 17 => (.take 0 (.take 1 (.take 4 (.take 5 (.take 6 (.alt 2 (.take 3 (.last 7 (.last 8 (.take 9 .done)))) (.last 7 (.take 2 (.take 3 (.last 8 (.take 9 .done)))))))))))
  | _ => .done

/-- hawala/keys.Tell -/
def pl50 : Nat → Plan
  | _ => .done

/-- hawala/hawalalaw11.Same -/
def pl51 : Nat → Plan
  | 6 => (.take 0 (.take 1 (.take 2 (.take 3 (.take 4 (.take 5 (.take 6 (.take 7 (.take 8 .done)))))))))
  | _ => .done

/-- hawala/money.Amount -/
def pl52 : Nat → Plan
  | _ => .done

/-- hawala/keys.Find -/
def pl53 : Nat → Plan
  | _ => .done

/-- hawala/chart.New -/
def pl54 : Nat → Plan
  | _ => .done

/-- hawala/chart.IsClient -/
def pl55 : Nat → Plan
  | _ => .done

/-- hawala/chart.Free -/
def pl56 : Nat → Plan
  | _ => .done

/-- hawala/chart.Clone -/
def pl57 : Nat → Plan
  | _ => .done

/-- (*hawala/ops.desk).open -/
def pl58 : Nat → Plan
  | 3 => (.take 0 (.take 1 (.take 2 (.take 3 (.take 4 (.take 5 (.take 7 (.take 8 (.take 9 (.take 12 (.take 13 (.take 14 (.take 15 (.take 16 (.take 17 (.alt 6 (.last 10 (.last 11 (.cut 18 (.cut 19 .done)))) (.last 10 (.last 6 (.last 11 (.cut 18 (.cut 19 .done)))))))))))))))))))))
  | _ => .done

/-- (*hawala/ops.desk).deposit -/
def pl59 : Nat → Plan
  | 3 => (.take 0 (.take 1 (.take 2 (.take 3 (.take 4 (.take 5 (.take 6 (.take 7 (.take 8 (.take 9 (.take 10 (.take 12 (.take 13 (.take 14 (.take 15 (.last 11 (.cut 16 (.cut 17 .done))))))))))))))))))
  | _ => .done

/-- (*hawala/ops.desk).transfer -/
def pl60 : Nat → Plan
  | _ => .done

/-- (*hawala/ops.desk).auth -/
def pl61 : Nat → Plan
  | 3 => (.take 0 (.take 1 (.take 2 (.take 3 (.take 4 (.take 5 (.take 6 (.take 7 (.take 8 (.take 9 (.take 10 (.take 11 (.take 12 (.take 13 (.take 14 (.take 15 .done))))))))))))))))
  | 7 => (.take 0 (.take 1 (.take 2 (.take 3 (.take 4 (.take 5 (.take 6 (.take 7 (.take 8 (.cut 9 (.take 10 (.take 11 (.take 12 (.take 13 (.take 14 .done)))))))))))))))
  | 10 => (.take 0 (.take 1 (.take 2 (.take 3 (.take 4 (.take 5 (.take 7 (.take 8 (.take 9 (.take 10 (.take 11 (.take 12 (.take 13 (.take 14 (.take 15 (.alt 6 (.last 16 (.last 17 (.take 18 (.take 19 (.take 20 (.cut 21 .done)))))) (.last 16 (.last 6 (.last 17 (.take 18 (.take 19 (.take 20 (.cut 21 .done)))))))))))))))))))))))
  | _ => .done

/-- (*hawala/ops.desk).capture -/
def pl62 : Nat → Plan
  | 4 => (.take 0 (.take 1 (.take 2 (.take 3 (.take 4 (.take 5 (.take 6 (.take 7 (.take 8 (.take 9 (.take 10 (.cut 11 (.take 12 (.take 13 (.take 14 (.take 15 (.take 16 .done)))))))))))))))))
  | 7 => (.take 0 (.take 1 (.take 2 (.take 3 (.take 4 (.take 5 (.take 6 (.take 7 (.cut 8 (.take 9 (.take 10 (.take 11 (.take 12 (.take 13 .done))))))))))))))
  | _ => .done

/-- (*hawala/ops.desk).void -/
def pl63 : Nat → Plan
  | 4 => (.take 0 (.take 1 (.take 2 (.take 3 (.take 4 (.take 5 (.take 6 (.take 7 (.last 8 (.cut 9 (.take 10 (.take 11 (.take 12 (.take 13 (.take 14 .done)))))))))))))))
  | _ => .done

/-- (*hawala/ops.desk).refund -/
def pl64 : Nat → Plan
  | _ => .done

/-- (*hawala/ops.desk).charge -/
def pl65 : Nat → Plan
  | 7 => (.take 0 (.take 1 (.take 2 (.take 3 (.take 4 (.take 5 (.take 6 (.take 7 (.take 8 (.last 9 (.cut 10 .done)))))))))))
  | 8 => (.take 0 (.take 1 (.take 2 (.take 3 (.take 4 (.take 5 (.last 6 (.take 7 (.take 8 .done)))))))))
  | _ => .done

/-- hawala/chart.Of -/
def pl66 : Nat → Plan
  | _ => .done

/-- hawala/chart.Number -/
def pl67 : Nat → Plan
  | _ => .done

/-- hawala/money.Convert -/
def pl68 : Nat → Plan
  | 6 => (.take 0 (.take 1 (.take 2 (.take 3 (.take 4 (.take 5 (.take 6 (.take 7 (.take 8 (.take 9 (.take 10 .done)))))))))))
  | _ => .done

/-- hawala/money.Rates -/
def pl69 : Nat → Plan
  | _ => .done

/-- hawala/entry.Balanced -/
def pl70 : Nat → Plan
  | 11 => (.take 0 (.take 1 (.take 2 (.take 3 (.take 4 (.cut 5 (.take 6 (.take 7 (.take 8 (.take 9 (.take 10 .done)))))))))))
  | _ => .done

/-- hawala/money.Add -/
def pl71 : Nat → Plan
  | _ => .done

/-- hawala/payment.by -/
def pl72 : Nat → Plan
  | _ => .done

/-- container/heap.Push -/
def pl73 : Nat → Plan
  | _ => .done

/-- (hawala/due.row).Len -/
def pl74 : Nat → Plan
  | _ => .done

/-- container/heap.Pop -/
def pl75 : Nat → Plan
  | _ => .done

/-- hawala/ops.Reserve -/
def pl77 : Nat → Plan
  | _ => .done

/-- (*hawala/bank.Legs).next -/
def pl78 : Nat → Plan
  | _ => .done

/-- hawala/saga.Begin -/
def pl79 : Nat → Plan
  | _ => .done

/-- hawala/saga.Ready -/
def pl80 : Nat → Plan
  | _ => .done

/-- hawala/saga.Leg -/
def pl81 : Nat → Plan
  | _ => .done

/-- hawala/ops.Settle -/
def pl82 : Nat → Plan
  | _ => .done

/-- hawala/saga.Turn -/
def pl83 : Nat → Plan
  | _ => .done

/-- hawala/ops.Undo -/
def pl84 : Nat → Plan
  | _ => .done

/-- (*hawala/ops.desk).take -/
def pl85 : Nat → Plan
  | _ => .done

/-- (*hawala/ops.desk).clients -/
def pl86 : Nat → Plan
  | _ => .done

/-- (*hawala/ops.desk).post -/
def pl87 : Nat → Plan
  | _ => .done

/-- (*hawala/ops.desk).both -/
def pl88 : Nat → Plan
  | 1 => (.take 0 (.take 1 (.take 2 (.take 3 (.take 4 (.take 5 (.take 6 (.take 7 (.take 8 (.take 9 (.take 10 (.take 11 (.take 12 (.take 13 .done))))))))))))))
  | 3 => (.take 0 (.take 1 (.take 2 (.take 3 (.take 4 (.take 5 (.take 6 (.take 7 (.take 8 (.last 9 (.cut 10 .done)))))))))))
  | 5 => (.take 0 (.take 2 (.alt 1 (.last 3 (.last 4 (.take 5 .done))) (.last 3 (.take 1 (.last 4 (.take 5 .done)))))))
  | _ => .done

/-- hawala/ops.number -/
def pl89 : Nat → Plan
  | _ => .done

/-- (*hawala/ops.desk).pay -/
def pl90 : Nat → Plan
  | 4 => (.take 0 (.take 1 (.take 2 (.take 3 (.take 4 (.take 5 (.take 6 (.take 7 (.cut 8 .done)))))))))
  | _ => .done

/-- (*hawala/ops.desk).back -/
def pl91 : Nat → Plan
  | 1 => (.take 0 (.take 1 (.take 2 (.take 3 (.take 4 (.take 5 (.take 6 (.take 7 (.take 8 (.take 9 (.cut 10 (.take 11 (.take 12 (.take 13 (.take 14 (.take 15 .done))))))))))))))))
  | _ => .done

/-- (hawala/money.Rate).right -/
def pl92 : Nat → Plan
  | _ => .done

/-- hawala/money.May -/
def pl93 : Nat → Plan
  | _ => .done

/-- hawala/payment.capture -/
def pl94 : Nat → Plan
  | _ => .done

/-- hawala/payment.refund -/
def pl95 : Nat → Plan
  | _ => .done

/-- hawala/payment.charge -/
def pl96 : Nat → Plan
  | _ => .done

/-- hawala/payment.shut -/
def pl97 : Nat → Plan
  | _ => .done

/-- container/heap.up -/
def pl98 : Nat → Plan
  | _ => .done

/-- container/heap.down -/
def pl99 : Nat → Plan
  | _ => .done

/-- hawala/saga.refuse -/
def pl104 : Nat → Plan
  | _ => .done

/-- hawala/saga.agree -/
def pl105 : Nat → Plan
  | _ => .done

-- 127 (hawala/api.Errno).Error: no body

/-- (hawala/due.row).Less -/
def pl128 : Nat → Plan
  | 1 => (.take 0 (.take 1 (.take 2 (.take 3 (.take 4 (.take 5 (.take 6 (.take 7 (.take 8 (.take 9 (.take 10 (.take 11 (.take 12 (.take 13 (.take 14 (.take 15 (.take 16 (.take 17 (.take 18 (.take 19 (.take 20 (.take 21 (.take 22 (.take 23 (.take 24 (.take 25 (.take 26 (.take 27 (.take 28 (.take 29 (.take 30 (.take 31 (.take 32 (.take 33 (.take 34 (.take 35 (.take 36 (.take 37 .done))))))))))))))))))))))))))))))))))))))
  | _ => .done

/-- (*hawala/due.row).Pop -/
def pl129 : Nat → Plan
  | _ => .done

/-- (*hawala/due.row).Push -/
def pl130 : Nat → Plan
  | 0 => (.take 0 (.take 1 (.take 2 (.take 3 (.take 4 (.take 5 (.last 6 (.last 7 (.take 8 (.cut 9 .done))))))))))
  | _ => .done

/-- (hawala/due.row).Swap -/
def pl131 : Nat → Plan
  | 0 => (.take 0 (.take 1 (.take 2 (.take 3 (.take 4 (.take 5 (.take 6 (.take 7 (.take 8 (.take 9 (.take 10 (.take 11 (.take 12 (.last 13 (.take 14 (.cut 15 .done))))))))))))))))
  | _ => .done

-- 149 var's door: errors.errorType is laid by its own call of reflectlite.TypeOf on a nil pointer and Elem of it (handle 1): no body

-- 150 var's door: gosem.cut.vars holds initialisers alone; see the manifest's row cutvarsword (look 11, test files too): no body

-- 151 var's door: the look of gosem.cut.vars went over the folder that the caller named as the repository's root (look 11): no body

end Go.Proofs.YtkeafcjdejmohaaDoor.A
