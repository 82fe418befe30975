/- The seat's types' tree and the plans of the drawn regions: both printed by a program (wip/core/Gen.tpl). -/
import Derived.Test.YtbpcofnhndgoeaaGC
import Derived.Test.YtbpcofnhndgoeaaProg
import Derived.KernelRfl
namespace Go.Proofs.Ytbpcofnhndgoeaa.A
open Go
def tr : Bt TE := (.node none (.node (some ⟨.func, 1, 8, (.one .kf)⟩) (.node (some ⟨(.int .i64), 1, 8, (.one (.ki .i64))⟩) (.node (some ⟨(.struct [(0, 2), (1, 3), (2, 4), (3, 6)]), 4, 24, (.agg [(.ki .i64), (.ki .i64), .kb, (.ki .u8)])⟩) (.node (some ⟨(.ptr 104), 1, 8, (.one .kp)⟩) (.node (some ⟨.iface, 1, 16, (.one .kn)⟩) (.node (some ⟨(.struct [(0, 25), (1, 3), (2, 29), (3, 22), (4, 4)]), 5, 72, (.agg [.kp, (.ki .i64), .kl, .kl, .kb])⟩) .nil
 .nil)
 (.node (some ⟨.func, 1, 8, (.one .kf)⟩) .nil
 .nil))
 (.node (some ⟨(.slice 49), 1, 24, (.one .kl)⟩) (.node (some ⟨.func, 1, 8, (.one .kf)⟩) .nil
 .nil)
 (.node (some ⟨(.ptr 5), 1, 8, (.one .kp)⟩) .nil
 .nil)))
 (.node (some ⟨.func, 1, 8, (.one .kf)⟩) (.node none (.node (some ⟨(.int .u64), 1, 8, (.one (.ki .u64))⟩) .nil
 .nil)
 (.node (some ⟨(.struct [(0, 17), (1, 17), (2, 17), (3, 9)]), 4, 40, (.agg [.kp, .kp, .kp, .ks])⟩) .nil
 .nil))
 (.node (some ⟨(.struct [(0, 54), (1, 3), (2, 3), (3, 4)]), 4, 32, (.agg [.km, (.ki .i64), (.ki .i64), .kb])⟩) (.node (some ⟨.func, 1, 8, (.one .kf)⟩) .nil
 .nil)
 .nil)))
 (.node (some ⟨.str, 1, 16, (.one .ks)⟩) (.node (some ⟨(.struct [(0, 17)]), 1, 8, (.agg [.kp])⟩) (.node none (.node none .nil
 .nil)
 (.node (some ⟨(.ptr 92), 1, 8, (.one .kp)⟩) .nil
 .nil))
 (.node (some ⟨.func, 1, 8, (.one .kf)⟩) (.node none .nil
 .nil)
 (.node (some ⟨(.struct [(0, 12), (1, 12), (2, 72), (3, 108), (4, 5), (5, 5), (6, 109), (7, 110), (8, 111), (9, 112), (10, 113)]), 11, 48, (.agg [(.ki .u64), (.ki .u64), (.ki .u32), (.ki .u8), (.ki .u8), (.ki .u8), (.ki .u8), .kf, .kp, (.ki .i32), (.ki .i32)])⟩) .nil
 .nil)))
 (.node (some ⟨(.slice 3), 1, 24, (.one .kl)⟩) (.node (some ⟨.func, 1, 8, (.one .kf)⟩) (.node (some ⟨.func, 1, 8, (.one .kf)⟩) .nil
 .nil)
 (.node (some ⟨(.struct [(0, 105)]), 0, 0, (.agg [])⟩) .nil
 .nil))
 (.node (some ⟨.func, 1, 8, (.one .kf)⟩) (.node (some ⟨.func, 1, 8, (.one .kf)⟩) .nil
 .nil)
 .nil))))
 (.node (some ⟨(.int .u8), 1, 1, (.one (.ki .u8))⟩) (.node (some ⟨.str, 1, 16, (.one .ks)⟩) (.node (some ⟨(.ptr 115), 1, 8, (.one .kp)⟩) (.node (some ⟨.func, 1, 8, (.one .kf)⟩) (.node none .nil
 .nil)
 (.node (some ⟨.func, 1, 8, (.one .kf)⟩) .nil
 .nil))
 (.node (some ⟨(.struct [(0, 5), (1, 22), (2, 29)]), 3, 56, (.agg [(.ki .u8), .kl, .kl])⟩) (.node (some ⟨.func, 1, 8, (.one .kf)⟩) .nil
 .nil)
 (.node (some ⟨(.int .i32), 1, 4, (.one (.ki .i32))⟩) .nil
 .nil)))
 (.node (some ⟨(.ptr 56), 1, 8, (.one .kp)⟩) (.node (some ⟨.func, 1, 8, (.one .kf)⟩) (.node (some ⟨.func, 1, 8, (.one .kf)⟩) .nil
 .nil)
 (.node (some ⟨(.arr 0 16), 0, 0, (.agg [])⟩) .nil
 .nil))
 (.node (some ⟨.func, 1, 8, (.one .kf)⟩) (.node (some ⟨.func, 1, 8, (.one .kf)⟩) .nil
 .nil)
 .nil)))
 (.node (some ⟨(.struct [(0, 9), (1, 12)]), 2, 24, (.agg [.ks, (.ki .u64)])⟩) (.node (some ⟨(.int .i32), 1, 4, (.one (.ki .i32))⟩) (.node (some ⟨.func, 1, 8, (.one .kf)⟩) (.node (some ⟨.func, 1, 8, (.one .kf)⟩) .nil
 .nil)
 (.node (some ⟨.func, 1, 8, (.one .kf)⟩) .nil
 .nil))
 (.node (some ⟨.func, 1, 8, (.one .kf)⟩) (.node (some ⟨.func, 1, 8, (.one .kf)⟩) .nil
 .nil)
 .nil))
 (.node (some ⟨(.slice 5), 1, 24, (.one .kl)⟩) (.node (some ⟨.func, 1, 8, (.one .kf)⟩) (.node (some ⟨.func, 1, 8, (.one .kf)⟩) .nil
 .nil)
 (.node (some ⟨(.int .u8), 1, 1, (.one (.ki .u8))⟩) .nil
 .nil))
 (.node (some ⟨(.struct [(0, 29), (1, 3)]), 2, 32, (.agg [.kl, (.ki .i64)])⟩) (.node (some ⟨.func, 1, 8, (.one .kf)⟩) .nil
 .nil)
 .nil)))))
 (.node (some ⟨(.int .i64), 1, 8, (.one (.ki .i64))⟩) (.node (some ⟨.bool, 1, 1, (.one .kb)⟩) (.node (some ⟨(.struct [(0, 2), (1, 3), (2, 4), (3, 6)]), 4, 24, (.agg [(.ki .i64), (.ki .i64), .kb, (.ki .u8)])⟩) (.node (some ⟨(.ptr 107), 1, 8, (.one .kp)⟩) (.node (some ⟨.func, 1, 8, (.one .kf)⟩) (.node (some ⟨(.struct [(0, 25), (1, 3), (2, 29), (3, 22), (4, 4)]), 5, 72, (.agg [.kp, (.ki .i64), .kl, .kl, .kb])⟩) .nil
 .nil)
 (.node (some ⟨(.ptr 3), 1, 8, (.one .kp)⟩) .nil
 .nil))
 (.node (some ⟨(.struct [(0, 5), (1, 22), (2, 29)]), 3, 56, (.agg [(.ki .u8), .kl, .kl])⟩) (.node (some ⟨.func, 1, 8, (.one .kf)⟩) .nil
 .nil)
 (.node (some ⟨(.int .i32), 1, 4, (.one (.ki .i32))⟩) .nil
 .nil)))
 (.node (some ⟨.func, 1, 8, (.one .kf)⟩) (.node (some ⟨.func, 1, 8, (.one .kf)⟩) (.node (some ⟨(.int .u32), 1, 4, (.one (.ki .u32))⟩) .nil
 .nil)
 (.node (some ⟨(.struct [(0, 17), (1, 17), (2, 17), (3, 9)]), 4, 40, (.agg [.kp, .kp, .kp, .ks])⟩) .nil
 .nil))
 (.node (some ⟨(.struct [(0, 54), (1, 3), (2, 3), (3, 4)]), 4, 32, (.agg [.km, (.ki .i64), (.ki .i64), .kb])⟩) (.node none .nil
 .nil)
 .nil)))
 (.node (some ⟨(.int .u64), 1, 8, (.one (.ki .u64))⟩) (.node (some ⟨.iface, 1, 16, (.one .kn)⟩) (.node (some ⟨.func, 1, 8, (.one .kf)⟩) (.node (some ⟨.func, 1, 8, (.one .kf)⟩) .nil
 .nil)
 (.node none .nil
 .nil))
 (.node (some ⟨.func, 1, 8, (.one .kf)⟩) (.node (some ⟨.func, 1, 8, (.one .kf)⟩) .nil
 .nil)
 (.node none .nil
 .nil)))
 (.node (some ⟨.func, 1, 8, (.one .kf)⟩) (.node (some ⟨(.slice 9), 1, 24, (.one .kl)⟩) (.node (some ⟨(.int .u64), 1, 8, (.one (.ki .u64))⟩) .nil
 .nil)
 (.node (some ⟨(.int .u8), 1, 1, (.one (.ki .u8))⟩) .nil
 .nil))
 (.node (some ⟨(.ptr 62), 1, 8, (.one .kp)⟩) (.node (some ⟨(.int .u64), 1, 8, (.one (.ki .u64))⟩) .nil
 .nil)
 .nil))))
 (.node (some ⟨(.int .u8), 1, 1, (.one (.ki .u8))⟩) (.node (some ⟨.str, 1, 16, (.one .ks)⟩) (.node (some ⟨(.struct [(0, 17)]), 1, 8, (.agg [.kp])⟩) (.node (some ⟨.func, 1, 8, (.one .kf)⟩) (.node (some ⟨.func, 1, 8, (.one .kf)⟩) .nil
 .nil)
 (.node (some ⟨.func, 1, 8, (.one .kf)⟩) .nil
 .nil))
 (.node (some ⟨.func, 1, 8, (.one .kf)⟩) (.node (some ⟨(.int .i64), 1, 8, (.one (.ki .i64))⟩) .nil
 .nil)
 (.node (some ⟨(.struct [(0, 12), (1, 12), (2, 72), (3, 108), (4, 5), (5, 5), (6, 109), (7, 110), (8, 111), (9, 112), (10, 113)]), 11, 48, (.agg [(.ki .u64), (.ki .u64), (.ki .u32), (.ki .u8), (.ki .u8), (.ki .u8), (.ki .u8), .kf, .kp, (.ki .i32), (.ki .i32)])⟩) .nil
 .nil)))
 (.node (some ⟨.func, 1, 8, (.one .kf)⟩) (.node none (.node (some ⟨.func, 1, 8, (.one .kf)⟩) .nil
 .nil)
 (.node (some ⟨(.struct [(0, 105)]), 0, 0, (.agg [])⟩) .nil
 .nil))
 (.node (some ⟨(.int .i64), 1, 8, (.one (.ki .i64))⟩) (.node (some ⟨.func, 1, 8, (.one .kf)⟩) .nil
 .nil)
 .nil)))
 (.node (some ⟨(.struct [(0, 9), (1, 12)]), 2, 24, (.agg [.ks, (.ki .u64)])⟩) (.node (some ⟨(.slice 29), 1, 24, (.one .kl)⟩) (.node (some ⟨(.ptr 64), 1, 8, (.one .kp)⟩) (.node (some ⟨.func, 1, 8, (.one .kf)⟩) .nil
 .nil)
 (.node (some ⟨.func, 1, 8, (.one .kf)⟩) .nil
 .nil))
 (.node (some ⟨(.mp 3 60), 1, 8, (.one .km)⟩) (.node (some ⟨.func, 1, 8, (.one .kf)⟩) .nil
 .nil)
 .nil))
 (.node (some ⟨.iface, 1, 16, (.one .kn)⟩) (.node (some ⟨.func, 1, 8, (.one .kf)⟩) (.node (some ⟨.func, 1, 8, (.one .kf)⟩) .nil
 .nil)
 (.node (some ⟨.func, 1, 8, (.one .kf)⟩) .nil
 .nil))
 (.node (some ⟨(.struct [(0, 29), (1, 3)]), 2, 32, (.agg [.kl, (.ki .i64)])⟩) (.node (some ⟨.func, 1, 8, (.one .kf)⟩) .nil
 .nil)
 .nil))))))
set_option maxRecDepth 100000 in
theorem tr_ok : treeOk Try.prog tr = true := by kernel_rfl
def meth : TypeId → String → Option (FuncId × Option TypeId) := fun _ _ => none
def tab0 : Tab := tabOf tr meth
theorem tab0_is : TabOk Try.prog tab0 := tab_ok tr_ok (by intro t n f d h; cases h) (by kernel_rfl)
def eqK : TypeId → Option (List LK)
  | _ => none
def tab : Tab := { tab0 with eqT := eqK }
set_option maxRecDepth 100000 in
theorem tab_is : TabOk Try.prog tab := tab_eq tab0_is eqK (by
  intro t ks h
  unfold eqK at h
  split at h <;> first | (cases h; done) | (cases h; exact ⟨by kernel_rfl, by kernel_rfl, by kernel_rfl, by kernel_rfl⟩))
/-- hawala/hawalalaw05.DiskSafe -/
def pl3 : Nat → Plan
  | 21 => (.take 0 (.take 1 (.take 2 (.take 3 (.take 4 (.take 5 (.take 6 (.take 7 (.take 8 (.take 9 (.take 10 (.take 11 (.take 12 (.take 13 (.take 14 (.take 15 (.take 16 (.take 18 (.take 19 (.take 20 (.alt 17 (.last 21 (.take 22 (.take 23 .done))) (.last 21 (.last 17 (.take 22 (.take 23 .done)))))))))))))))))))))))))
  | _ => .done

/-- hawala/hawalalaw06.JournalTorn -/
def pl4 : Nat → Plan
  | 3 => (.take 0 (.take 2 (.take 3 (.take 4 (.take 5 (.take 7 (.take 8 (.take 9 (.take 10 (.alt 1 (.take 12 (.alt 6 (.take 13 (.last 11 (.take 14 .done))) (.last 11 (.last 6 (.take 13 (.take 14 .done)))))) (.alt 6 (.alt 1 (.take 12 (.take 13 (.last 11 (.take 14 .done)))) (.last 11 (.last 1 (.take 12 (.take 13 (.take 14 .done)))))) (.last 11 (.alt 1 (.take 12 (.last 6 (.take 13 (.take 14 .done)))) (.last 6 (.last 1 (.take 12 (.take 13 (.take 14 .done))))))))))))))))))
  | _ => .done

/-- hawala/hawalalaw06.JournalScript -/
def pl5 : Nat → Plan
  | _ => .done

/-- hawala/hawalalaw05.awake -/
def pl6 : Nat → Plan
  | _ => .done

/-- hawala/hawalalaw04.Few -/
def pl7 : Nat → Plan
  | _ => .done

/-- hawala/disk.Of -/
def pl8 : Nat → Plan
  | _ => .done

/-- (*hawala/disk.Disk).Names -/
def pl9 : Nat → Plan
  | _ => .done

/-- (*hawala/disk.Disk).Append -/
def pl10 : Nat → Plan
  | 3 => (.take 0 (.take 2 (.take 3 (.take 5 (.take 6 (.take 7 (.take 8 (.last 1 (.take 4 (.take 9 .done))))))))))
  | _ => .done

/-- (*hawala/disk.Disk).Sync -/
def pl11 : Nat → Plan
  | _ => .done

/-- (*hawala/disk.Disk).Restart -/
def pl12 : Nat → Plan
  | 3 => (.take 0 (.take 1 (.take 2 (.take 3 (.take 4 (.take 5 (.take 6 (.take 7 (.take 8 (.take 9 (.take 10 .done)))))))))))
  | 7 => (.take 0 (.take 1 (.take 2 (.take 3 (.take 4 (.take 5 (.take 6 (.take 7 (.take 8 (.take 9 (.take 10 (.last 11 (.take 12 (.take 13 (.cut 14 .done)))))))))))))))
  | _ => .done

/-- (*hawala/disk.Disk).Read -/
def pl13 : Nat → Plan
  | _ => .done

/-- hawala/hawalalaw06.awake -/
def pl14 : Nat → Plan
  | _ => .done

/-- hawala/journal.Open -/
def pl15 : Nat → Plan
  | _ => .done

/-- (*hawala/journal.Journal).Append -/
def pl16 : Nat → Plan
  | 18 => (.take 0 (.take 1 (.take 2 (.take 3 (.take 4 (.take 5 (.last 6 (.last 7 (.last 8 (.take 9 (.take 10 (.cut 11 .done))))))))))))
  | _ => .done

/-- hawala/frame.One -/
def pl17 : Nat → Plan
  | 3 => (.take 0 (.take 1 (.take 2 (.take 3 (.take 4 (.take 5 (.take 6 (.take 7 (.take 8 (.take 9 (.take 10 .done)))))))))))
  | 6 => (.take 0 (.take 1 (.take 2 (.take 3 (.take 4 (.take 5 (.take 6 (.take 7 (.take 8 (.take 9 (.take 10 (.take 11 (.take 12 (.take 13 (.take 14 (.take 15 (.take 16 (.take 17 (.take 18 (.take 19 (.take 20 (.take 21 (.take 22 .done)))))))))))))))))))))))
  | _ => .done

/-- hawala/hawalalaw06.Shows -/
def pl18 : Nat → Plan
  | 7 => (.take 0 (.take 1 (.take 2 (.take 3 (.take 5 (.take 6 (.take 7 (.take 8 (.last 4 (.take 9 .done))))))))))
  | _ => .done

/-- (*hawala/journal.Journal).Save -/
def pl19 : Nat → Plan
  | _ => .done

/-- (hawala/hawalalaw06.Act).bytes -/
def pl20 : Nat → Plan
  | _ => .done

/-- (hawala/hawalalaw06.Act).few -/
def pl21 : Nat → Plan
  | _ => .done

/-- (*hawala/journal.Journal).Broken -/
def pl22 : Nat → Plan
  | _ => .done

/-- sort.Ints -/
def pl23 : Nat → Plan
  | _ => .done

/-- (*hawala/disk.Disk).Used -/
def pl24 : Nat → Plan
  | _ => .done

/-- (*hawala/disk.Disk).works -/
def pl25 : Nat → Plan
  | _ => .done

/-- (*hawala/journal.Journal).Base -/
def pl26 : Nat → Plan
  | _ => .done

/-- (*hawala/journal.Journal).Records -/
def pl27 : Nat → Plan
  | _ => .done

/-- (*hawala/journal.Journal).Turn -/
def pl28 : Nat → Plan
  | _ => .done

/-- hawala/varint.Get -/
def pl29 : Nat → Plan
  | 13 => (.take 0 (.take 1 (.take 2 (.take 3 (.take 5 (.last 4 (.take 6 (.take 7 .done))))))))
  | _ => .done

/-- (*hawala/disk.Disk).Remove -/
def pl30 : Nat → Plan
  | _ => .done

/-- hawala/frame.Scan -/
def pl31 : Nat → Plan
  | _ => .done

/-- (*hawala/disk.Disk).Cut -/
def pl32 : Nat → Plan
  | _ => .done

/-- hawala/frame.Make -/
def pl33 : Nat → Plan
  | _ => .done

/-- (*hawala/journal.Journal).put -/
def pl34 : Nat → Plan
  | _ => .done

/-- hawala/crc.Sum -/
def pl35 : Nat → Plan
  | _ => .done

/-- hawala/varint.All -/
def pl36 : Nat → Plan
  | _ => .done

/-- (*hawala/disk.Disk).Rename -/
def pl37 : Nat → Plan
  | _ => .done

/-- (*hawala/journal.Journal).fail -/
def pl38 : Nat → Plan
  | _ => .done

/-- slices.Sort[[]int,int] -/
def pl39 : Nat → Plan
  | _ => .done

/-- hawala/crc.step -/
def pl40 : Nat → Plan
  | _ => .done

/-- hawala/varint.Put -/
def pl41 : Nat → Plan
  | _ => .done

/-- slices.pdqsortOrdered[int] -/
def pl42 : Nat → Plan
  | 17 => (.take 0 (.take 1 (.take 2 (.take 3 (.take 4 (.take 5 (.take 6 (.take 7 (.take 8 (.take 9 (.take 10 (.take 11 (.cut 12 (.take 13 (.take 14 .done)))))))))))))))
  | _ => .done

/-- math/bits.Len -/
def pl43 : Nat → Plan
  | _ => .done

/-- slices.insertionSortOrdered[int] -/
def pl44 : Nat → Plan
  | 4 => (.take 0 (.take 1 (.take 2 (.take 3 (.take 4 (.take 5 (.take 6 (.take 7 (.take 8 (.take 9 (.take 10 (.take 11 (.take 12 (.cut 13 (.take 14 .done)))))))))))))))
  | 6 => (.take 0 (.take 1 (.take 2 (.take 3 (.take 4 (.take 5 (.take 6 (.take 7 (.take 8 (.take 9 (.take 10 (.take 11 (.take 12 (.take 13 (.take 14 (.last 15 (.take 16 (.cut 17 .done))))))))))))))))))
  | _ => .done

/-- slices.heapSortOrdered[int] -/
def pl45 : Nat → Plan
  | 10 => (.take 0 (.take 1 (.take 2 (.take 3 (.take 4 (.take 5 (.take 6 (.take 7 (.take 8 (.take 9 (.take 10 (.take 11 (.take 12 (.take 13 (.take 14 (.take 15 (.take 16 (.last 17 (.take 18 (.cut 19 .done))))))))))))))))))))
  | _ => .done

/-- slices.breakPatternsOrdered[int] -/
def pl46 : Nat → Plan
  | 10 => (.take 0 (.take 1 (.take 2 (.take 3 (.take 4 (.take 5 (.take 6 (.take 7 (.take 8 (.take 9 (.take 10 (.take 11 (.take 12 (.take 13 (.take 14 (.take 15 (.take 16 (.last 17 (.take 18 (.cut 19 .done))))))))))))))))))))
  | _ => .done

/-- slices.choosePivotOrdered[int] -/
def pl47 : Nat → Plan
  | _ => .done

/-- slices.reverseRangeOrdered[int] -/
def pl48 : Nat → Plan
  | 3 => (.take 0 (.take 1 (.take 2 (.take 3 (.take 4 (.take 5 (.take 6 (.take 7 (.take 8 (.take 9 (.take 10 (.take 11 (.take 12 (.last 13 (.take 14 (.cut 15 .done))))))))))))))))
  | _ => .done

/-- slices.partialInsertionSortOrdered[int] -/
def pl49 : Nat → Plan
  | 5 => (.take 0 (.take 1 (.take 2 (.take 3 (.take 4 (.take 5 (.take 6 (.take 7 (.take 8 (.take 9 (.take 10 (.take 11 (.take 12 (.cut 13 (.take 14 (.take 15 .done))))))))))))))))
  | 11 => (.take 0 (.take 1 (.take 2 (.take 3 (.take 4 (.take 5 (.take 6 (.take 7 (.take 8 (.take 9 (.take 10 (.take 11 (.take 12 (.take 13 (.take 14 (.last 15 (.take 16 (.cut 17 .done))))))))))))))))))
  | 16 => (.take 0 (.take 1 (.take 2 (.take 3 (.take 4 (.take 5 (.take 6 (.take 7 (.take 8 (.cut 9 (.take 10 .done)))))))))))
  | 17 => (.take 0 (.take 1 (.take 2 (.take 3 (.take 4 (.take 5 (.take 6 (.take 7 (.take 8 (.take 9 (.take 10 (.take 11 (.take 12 (.take 13 (.take 14 (.last 15 (.take 16 (.cut 17 .done))))))))))))))))))
  | 22 => (.take 0 (.take 1 (.take 2 (.take 3 (.take 4 (.take 5 (.take 6 (.take 7 (.take 8 (.cut 9 (.take 10 .done)))))))))))
  | 23 => (.take 0 (.take 1 (.take 2 (.take 3 (.take 4 (.take 5 (.take 6 (.take 7 (.take 8 (.take 9 (.take 10 (.take 11 (.take 12 (.take 13 (.take 14 (.last 15 (.take 16 (.cut 17 .done))))))))))))))))))
  | _ => .done

/-- cmp.Less[int] -/
def pl50 : Nat → Plan
  | _ => .done

/-- slices.partitionEqualOrdered[int] -/
def pl51 : Nat → Plan
  | 1 => (.take 0 (.take 1 (.take 2 (.take 3 (.take 4 (.take 5 (.take 6 (.take 7 (.take 8 (.take 9 (.take 10 (.take 11 (.take 12 (.last 13 (.take 14 (.cut 15 .done))))))))))))))))
  | 3 => (.take 0 (.take 1 (.take 2 (.take 3 (.take 4 (.take 5 (.take 6 (.take 7 (.take 8 (.take 9 (.take 10 (.take 11 (.cut 12 (.take 13 (.take 14 .done)))))))))))))))
  | 5 => (.take 0 (.take 1 (.take 2 (.take 3 (.take 4 (.take 5 (.take 6 (.take 7 (.take 8 (.take 9 (.take 10 (.take 11 (.cut 12 (.take 13 .done))))))))))))))
  | 8 => (.take 0 (.take 1 (.take 2 (.take 3 (.take 4 (.take 5 (.take 6 (.take 7 (.take 8 (.take 9 (.take 10 (.take 11 (.take 12 (.last 13 (.take 14 (.cut 15 .done))))))))))))))))
  | _ => .done

/-- slices.partitionOrdered[int] -/
def pl52 : Nat → Plan
  | 1 => (.take 0 (.take 1 (.take 2 (.take 3 (.take 4 (.take 5 (.take 6 (.take 7 (.take 8 (.take 9 (.take 10 (.take 11 (.take 12 (.last 13 (.take 14 (.cut 15 .done))))))))))))))))
  | 3 => (.take 0 (.take 1 (.take 2 (.take 3 (.take 4 (.take 5 (.take 6 (.take 7 (.take 8 (.take 9 (.take 10 (.take 11 (.cut 12 (.take 13 .done))))))))))))))
  | 5 => (.take 0 (.take 1 (.take 2 (.take 3 (.take 4 (.take 5 (.take 6 (.take 7 (.take 8 (.take 9 (.take 10 (.take 11 (.cut 12 (.take 13 (.take 14 .done)))))))))))))))
  | 8 => (.take 0 (.take 1 (.take 2 (.take 3 (.take 4 (.take 5 (.take 6 (.take 7 (.take 8 (.take 9 (.take 10 (.take 11 (.take 12 (.last 13 (.take 14 (.cut 15 .done))))))))))))))))
  | 10 => (.take 0 (.take 1 (.take 2 (.take 3 (.take 4 (.take 5 (.take 6 (.take 7 (.take 8 (.take 9 (.take 10 (.take 11 (.take 12 (.last 13 (.take 14 (.cut 15 .done))))))))))))))))
  | 13 => (.take 0 (.take 1 (.take 2 (.take 3 (.take 4 (.take 5 (.take 6 (.take 7 (.take 8 (.take 9 (.take 10 (.take 11 (.cut 12 (.take 13 .done))))))))))))))
  | 15 => (.take 0 (.take 1 (.take 2 (.take 3 (.take 4 (.take 5 (.take 6 (.take 7 (.take 8 (.take 9 (.take 10 (.take 11 (.cut 12 (.take 13 (.take 14 .done)))))))))))))))
  | 18 => (.take 0 (.take 1 (.take 2 (.take 3 (.take 4 (.take 5 (.take 6 (.take 7 (.take 8 (.take 9 (.take 10 (.take 11 (.take 12 (.last 13 (.take 14 (.cut 15 .done))))))))))))))))
  | 21 => (.take 0 (.take 1 (.take 2 (.take 3 (.take 4 (.take 5 (.take 6 (.take 7 (.take 8 (.take 9 (.take 10 (.take 11 (.take 12 (.last 13 (.take 14 (.cut 15 .done))))))))))))))))
  | _ => .done

/-- math/bits.Len32 -/
def pl53 : Nat → Plan
  | _ => .done

/-- math/bits.Len64 -/
def pl54 : Nat → Plan
  | _ => .done

/-- slices.siftDownOrdered[int] -/
def pl55 : Nat → Plan
  | 3 => (.take 0 (.take 1 (.take 2 (.take 3 (.take 4 (.take 5 (.take 6 (.take 7 (.take 8 (.take 9 (.take 10 (.take 11 (.take 12 (.take 13 (.take 14 (.take 15 (.take 16 (.take 17 (.cut 18 (.take 19 .done))))))))))))))))))))
  | 5 => (.take 0 (.take 1 (.take 2 (.take 3 (.take 4 (.take 5 (.take 6 (.take 7 (.take 8 (.take 9 (.take 10 (.take 11 (.cut 12 (.take 13 .done))))))))))))))
  | 6 => (.take 0 (.take 1 (.take 2 (.take 3 (.take 4 (.take 5 (.take 6 (.take 7 (.take 8 (.take 9 (.take 10 (.take 11 (.take 12 (.take 13 (.take 14 (.take 15 (.take 16 (.take 17 (.take 18 (.take 19 (.take 20 (.last 21 (.take 22 (.cut 23 .done))))))))))))))))))))))))
  | _ => .done

/-- slices.nextPowerOfTwo -/
def pl56 : Nat → Plan
  | _ => .done

/-- (*slices.xorshift).Next -/
def pl57 : Nat → Plan
  | 1 => (.take 0 (.take 1 (.take 2 (.take 3 (.take 4 (.take 5 (.take 6 (.take 7 (.take 8 (.cut 9 .done))))))))))
  | 2 => (.take 0 (.take 1 (.take 2 (.take 3 (.take 4 (.take 5 (.take 6 (.take 7 (.take 8 (.cut 9 .done))))))))))
  | 3 => (.take 0 (.take 1 (.take 2 (.take 3 (.take 4 (.take 5 (.take 6 (.take 7 (.take 8 (.cut 9 .done))))))))))
  | _ => .done

/-- slices.medianAdjacentOrdered[int] -/
def pl58 : Nat → Plan
  | _ => .done

/-- slices.medianOrdered[int] -/
def pl59 : Nat → Plan
  | _ => .done

/-- cmp.isNaN[int] -/
def pl60 : Nat → Plan
  | _ => .done

/-- slices.order2Ordered[int] -/
def pl61 : Nat → Plan
  | 1 => (.take 0 (.take 1 (.take 2 (.take 3 (.take 4 (.take 5 (.take 6 (.take 7 (.cut 8 .done)))))))))
  | _ => .done

-- 77 (*hawala/disk.Disk).Arm: no body

-- 78 (hawala/api.Errno).Error: no body

end Go.Proofs.Ytbpcofnhndgoeaa.A
