/- The ledger's data, plain. -/
import Init
namespace Go.Proofs.YtmlgkojmbnjfbaaDoor.Q
structure Acc where
  (cur bal held : Int)
structure Pay where
  (src dst auth capt refu chrg til stage : Int)
structure Req where
  (key op a b amt legs til : Int)
structure Sag where
  req : Req
  (phase leg tries why : Int)
structure Kno where
  req : Req
  (err id : Int)
  told : Bool
structure Sta where
  accs : List Acc
  pays : List Pay
  sags : List Sag
  kns : List Kno
  now : Int
end Go.Proofs.YtmlgkojmbnjfbaaDoor.Q
