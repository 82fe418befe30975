/- The ledger's data, plain. -/
import Init
import Derived.Test.YtbpcofnhndgoeaaB0
import Derived.Test.YtbpcofnhndgoeaaGC
namespace Go.Proofs.Ytbpcofnhndgoeaa.Q
structure Acc where
  (cur bal held : Int)
structure Pay where
  (src dst auth capt refu chrg til stage : Int)
structure Req where
  (key op a b amt legs til : Int)
structure Sag where
  req : Req
  (phase leg tries why : Int)
structure Kno where
  req : Req
  (err id : Int)
  told : Bool
structure Sta where
  accs : List Acc
  pays : List Pay
  sags : List Sag
  kns : List Kno
  now : Int
end Go.Proofs.Ytbpcofnhndgoeaa.Q

/- The ledger's data as abstract values. -/
namespace Go.Proofs.Ytbpcofnhndgoeaa.A
open Go Q
def w64 (n : Int) : Int := IntKind.i64.wrap n
theorem wrap_of {n : Int} (h0 : -9223372036854775808 ≤ n) (h1 : n < 9223372036854775808) : IntKind.i64.wrap n = n := by
  simp [IntKind.wrap, IntKind.signed, IntKind.bits]; omega
def accA (p : Acc) : AV := .agg [.int .i64 p.cur, .int .i64 p.bal, .int .i64 p.held]
def payA (p : Pay) : AV := .agg [.int .i64 p.src, .int .i64 p.dst, .int .i64 p.auth, .int .i64 p.capt, .int .i64 p.refu, .int .i64 p.chrg, .int .i64 p.til, .int .i64 p.stage]
def reqA (r : Req) : AV := .agg [.int .i64 r.key, .int .i64 r.op, .int .i64 r.a, .int .i64 r.b, .int .i64 r.amt, .int .i64 r.legs, .int .i64 r.til]
def sagA (g : Sag) : AV := .agg [.int .i64 g.req.key, .int .i64 g.req.op, .int .i64 g.req.a, .int .i64 g.req.b, .int .i64 g.req.amt, .int .i64 g.req.legs, .int .i64 g.req.til, .int .i64 g.phase, .int .i64 g.leg, .int .i64 g.tries, .int .i64 g.why]
def knoA (k : Kno) : AV := .agg [.int .i64 k.req.key, .int .i64 k.req.op, .int .i64 k.req.a, .int .i64 k.req.b, .int .i64 k.req.amt, .int .i64 k.req.legs, .int .i64 k.req.til, .int .i64 k.err, .int .i64 k.id, .bool k.told]
def repA (e i : Int) : AV := .agg [.int .i64 e, .int .i64 i]
theorem map_at {α : Type} {f : α → AV} {l : List α} {i : Nat} (h : i < l.length) : (l.map f)[i]? = some (f l[i]) := by
  rw [List.getElem?_map, List.getElem?_eq_getElem h]; rfl
theorem map_of {α : Type} {f : α → AV} {l : List α} {i : Nat} {x : α} (h : l[i]? = some x) : (l.map f)[i]? = some (f x) := by
  rw [List.getElem?_map, h]; rfl
end Go.Proofs.Ytbpcofnhndgoeaa.A
