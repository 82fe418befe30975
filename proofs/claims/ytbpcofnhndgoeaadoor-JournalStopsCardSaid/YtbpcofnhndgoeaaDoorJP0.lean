/- A disk, plain. -/
import Init
namespace Go.Proofs.YtbpcofnhndgoeaaDoor.Q
/-- A file: its name, its bytes, how many of them are safe. -/
abbrev Fil := Int × List Int × Int
structure Dk where
  fs : List Fil
  room : Int
  left : Int
  stop : Bool
def fget : List Fil → Int → Option (List Int × Int)
  | [], _ => none
  | (n, v) :: fs, k => if k = n then some v else fget fs k
def fset : List Fil → Int → List Int × Int → List Fil
  | [], k, v => [(k, v)]
  | (n, w) :: fs, k, v => if k = n then (n, v) :: fs else (n, w) :: fset fs k v
def fdel : List Fil → Int → List Fil
  | [], _ => []
  | (n, w) :: fs, k => if k = n then fs else (n, w) :: fdel fs k
def usedF : List Fil → Nat
  | [] => 0
  | f :: fs => f.2.1.length + usedF fs
def Dk.used (d : Dk) : Nat := usedF d.fs
/-- Whether a call that changes it is done, and what is left then. -/
def Dk.wk (d : Dk) : Bool := !(d.stop || d.left == 0)
def Dk.lf (d : Dk) : Int := if 0 < d.left then d.left - 1 else d.left
def Dk.st (d : Dk) : Bool := d.stop || d.left == 0
def newD (room : Int) : Dk := ⟨[], max 0 (min room 262144), -1, false⟩
def worksD (d : Dk) : Dk := ⟨d.fs, d.room, d.lf, d.st⟩
def appendD (d : Dk) (k : Int) (b : List Int) : Int × Dk :=
  if d.stop = true then (12, d) else if (d.used : Int) + b.length > d.room then (8, d) else
  let v := (fget d.fs k).getD ([], 0)
  (if d.wk then 0 else 12, ⟨fset d.fs k (v.1 ++ b, v.2), d.room, d.lf, d.st⟩)
def syncD (d : Dk) (k : Int) : Int × Dk :=
  if d.stop = true then (12, d) else match fget d.fs k with
  | none => (2, d)
  | some v => if d.wk then (0, ⟨fset d.fs k (v.1, v.1.length), d.room, d.lf, d.st⟩) else (12, worksD d)
def renameD (d : Dk) (a b : Int) : Int × Dk :=
  if d.stop = true then (12, d) else match fget d.fs a with
  | none => (2, d)
  | some v => if d.wk then (0, ⟨fset (fdel d.fs a) b v, d.room, d.lf, d.st⟩) else (12, worksD d)
def removeD (d : Dk) (k : Int) : Int × Dk :=
  if d.stop = true then (12, d) else match fget d.fs k with
  | none => (2, d)
  | some _ => if d.wk then (0, ⟨fdel d.fs k, d.room, d.lf, d.st⟩) else (12, worksD d)
def cutD (d : Dk) (k n : Int) : Int × Dk :=
  if d.stop = true then (12, d) else match fget d.fs k with
  | none => (2, d)
  | some v => if n < 0 ∨ n > v.1.length then (13, d) else if d.wk then (0, ⟨fset d.fs k (v.1.take n.toNat, n), d.room, d.lf, d.st⟩) else (12, worksD d)
def readD (d : Dk) (k : Int) : List Int × Bool := match fget d.fs k with
  | none => ([], false)
  | some v => (v.1, true)
def armD (d : Dk) (n : Int) : Dk := ⟨d.fs, d.room, max 0 n, d.stop⟩
/-- How many of a file's bytes are there behind a stop. -/
def keptF (f : Fil) (keep : Int) : Int :=
  let m : Int := f.2.1.length - f.2.2
  let k := keep.tmod (m + 1)
  f.2.2 + if k < 0 then k + (m + 1) else k
def fcut (f : Fil) (keep : Int) : Fil := (f.1, f.2.1.take (keptF f keep).toNat, keptF f keep)
def restartD (d : Dk) (keep : Int) : Dk := ⟨d.fs.map (fcut · keep), d.room, -1, false⟩
/-- Put where it belongs among numbers that rise. -/
def insI : Int → List Int → List Int
  | x, [] => [x]
  | x, y :: l => if x ≤ y then x :: y :: l else y :: insI x l
def sortI : List Int → List Int
  | [] => []
  | x :: l => insI x (sortI l)
def namesD (d : Dk) : List Int := sortI (d.fs.map (·.1))
structure DOk (d : Dk) : Prop where
  us : d.used ≤ 262144
  r0 : 0 ≤ d.room
  r1 : d.room ≤ 262144
  l0 : -1 ≤ d.left
  l1 : d.left < 9223372036854775808
  n : d.fs.length ≤ 3
  safe : ∀ f ∈ d.fs, 0 ≤ f.2.2 ∧ f.2.2 ≤ f.2.1.length
end Go.Proofs.YtbpcofnhndgoeaaDoor.Q
