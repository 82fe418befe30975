/- The ledger's data, plain. -/
import Init
import Derived.Test.YtbpcofnhndgoeaaDoorB0
import Derived.Test.YtbpcofnhndgoeaaDoorGC
import Derived.Stop.Asserts
import Derived.LaidEql
import Derived.RowKitTokens
import Derived.Below
namespace Go.Proofs.YtbpcofnhndgoeaaDoor.Q
structure Acc where
  (cur bal held : Int)
structure Pay where
  (src dst auth capt refu chrg til stage : Int)
structure Req where
  (key op a b amt legs til : Int)
structure Sag where
  req : Req
  (phase leg tries why : Int)
structure Kno where
  req : Req
  (err id : Int)
  told : Bool
structure Sta where
  accs : List Acc
  pays : List Pay
  sags : List Sag
  kns : List Kno
  now : Int
end Go.Proofs.YtbpcofnhndgoeaaDoor.Q

/- The ledger's data as abstract values. -/
namespace Go.Proofs.YtbpcofnhndgoeaaDoor.A
open Go Q
def w64 (n : Int) : Int := IntKind.i64.wrap n
theorem wrap_of {n : Int} (h0 : -9223372036854775808 ≤ n) (h1 : n < 9223372036854775808) : IntKind.i64.wrap n = n := by
  simp [IntKind.wrap, IntKind.signed, IntKind.bits]; omega
def accA (p : Acc) : AV := .agg [.int .i64 p.cur, .int .i64 p.bal, .int .i64 p.held]
def payA (p : Pay) : AV := .agg [.int .i64 p.src, .int .i64 p.dst, .int .i64 p.auth, .int .i64 p.capt, .int .i64 p.refu, .int .i64 p.chrg, .int .i64 p.til, .int .i64 p.stage]
def reqA (r : Req) : AV := .agg [.int .i64 r.key, .int .i64 r.op, .int .i64 r.a, .int .i64 r.b, .int .i64 r.amt, .int .i64 r.legs, .int .i64 r.til]
def sagA (g : Sag) : AV := .agg [.int .i64 g.req.key, .int .i64 g.req.op, .int .i64 g.req.a, .int .i64 g.req.b, .int .i64 g.req.amt, .int .i64 g.req.legs, .int .i64 g.req.til, .int .i64 g.phase, .int .i64 g.leg, .int .i64 g.tries, .int .i64 g.why]
def knoA (k : Kno) : AV := .agg [.int .i64 k.req.key, .int .i64 k.req.op, .int .i64 k.req.a, .int .i64 k.req.b, .int .i64 k.req.amt, .int .i64 k.req.legs, .int .i64 k.req.til, .int .i64 k.err, .int .i64 k.id, .bool k.told]
def repA (e i : Int) : AV := .agg [.int .i64 e, .int .i64 i]
theorem map_at {α : Type} {f : α → AV} {l : List α} {i : Nat} (h : i < l.length) : (l.map f)[i]? = some (f l[i]) := by
  rw [List.getElem?_map, List.getElem?_eq_getElem h]; rfl
theorem map_of {α : Type} {f : α → AV} {l : List α} {i : Nat} {x : α} (h : l[i]? = some x) : (l.map f)[i]? = some (f x) := by
  rw [List.getElem?_map, h]; rfl
end Go.Proofs.YtbpcofnhndgoeaaDoor.A

/- errors.As at a concrete target (*Errno), after the guide's worked example; api.Number. -/
namespace Go.Proofs.YtbpcofnhndgoeaaDoor
open Go.RowKit Go.Extern.Stop Go.Stop Go.Extern
theorem as_nil (t : Value) (w : World) :
    Calls Tryd.prog 37 #[.nilIface, t] w fun e w' => e = .returned (.bool false) ∧ w' = w := by
  go_enter Tryd.func37, Tryd.ntmps37
  go_wp2
  go_ret
  exact ⟨rfl, rfl⟩

theorem Tryd.valueOf27 (t : Addr) (w : World) : (ReflectliteValue.unpack (.iface 75 (.pointer (some t)))).run Tryd.prog w
    = .ok (.agg #[.pointer (some ⟨1, 75, none⟩), .pointer (some ⟨w.heap.size, 0, none⟩), .int .u64 150]) (w.alloc (.cells #[.pointer (some t)] 75)) := by kernel_rfl
theorem Tryd.type27 (a : Addr) (w : World) : (ReflectliteValue.methodAny (ReflectliteValue.valueError "reflectlite.Value.Type" 0) (fun t _ _ _ => ReflectliteType.toType t) #[.agg #[.pointer (some ⟨1, 75, none⟩), .pointer (some a), .int .u64 150]]).run Tryd.prog w
    = .ok (.iface 101 (.agg #[.pointer (some ⟨1, 75, none⟩)])) w := by kernel_rfl
theorem Tryd.methodKind (h : Value) (w : World) : (Go.method (164 + 100) 101 (.agg #[h]) "Kind").run Tryd.prog w = .ok (91, h) w := by kernel_rfl
theorem Tryd.kind27 (w : World) : ((ReflectliteType.abiMethod fun t => (fun a : Nat => Value.int IntKind.u8 (a : Int)) <$> Rtype.kind t) #[.pointer (some ⟨1, 75, none⟩)]).run Tryd.prog w = .ok (.int .u8 22) w := by kernel_rfl
theorem Tryd.kind25 (w : World) : ((ReflectliteType.abiMethod fun t => (fun a : Nat => Value.int IntKind.u8 (a : Int)) <$> Rtype.kind t) #[.pointer (some ⟨1, 34, none⟩)]).run Tryd.prog w = .ok (.int .u8 2) w := by kernel_rfl

theorem rlm (z : Sem Value) (f : TypeId → Addr → Nat → Nat → Sem Value) (v : Value) :
    ReflectliteValue.method z f #[v] = (do match ← ReflectliteValue.parts v with | none => z | some (t, a, fl) => f t a fl (fl % 32)) := rfl
theorem Tryd.parts27 (a : Addr) (w : World) : (ReflectliteValue.parts (.agg #[.pointer (some ⟨1, 75, none⟩), .pointer (some a), .int .u64 150])).run Tryd.prog w = .ok (some (75, a, 150)) w := by kernel_rfl
theorem Tryd.isNil27 (a p : Addr) (W : World) (ha : W.cell? a = some (.pointer (some p))) :
    (ReflectliteValue.method (ReflectliteValue.valueError "reflectlite.Value.IsNil" 0) ReflectliteValue.isNil #[.agg #[.pointer (some ⟨1, 75, none⟩), .pointer (some a), .int .u64 150]]).run Tryd.prog W = .ok (.bool false) W := by
  rw [rlm]
  simp only [Sem.run_bind, Tryd.parts27, Result.andThen]
  simp [ReflectliteValue.isNil, loadVar, isAgg, underlying, Tryd.underlying75, ha, Result.andThen]

theorem Tryd.methodElem (h : Value) (w : World) : (Go.method (164 + 100) 101 (.agg #[h]) "Elem").run Tryd.prog w = .ok (101, .agg #[h]) w := by kernel_rfl
theorem Tryd.methodImplements (h : Value) (w : World) : (Go.method (164 + 100) 101 (.agg #[h]) "Implements").run Tryd.prog w = .ok (102, .agg #[h]) w := by kernel_rfl
theorem Tryd.methodAssignableTo (h : Value) (w : World) : (Go.method (164 + 100) 101 (.agg #[h]) "AssignableTo").run Tryd.prog w = .ok (99, .agg #[h]) w := by kernel_rfl
theorem Tryd.elem27 (w : World) : (ReflectliteType.method ReflectliteType.elem #[.agg #[.pointer (some ⟨1, 75, none⟩)]]).run Tryd.prog w = .ok (.iface 101 (.agg #[.pointer (some ⟨1, 34, none⟩)])) w := by kernel_rfl
theorem Tryd.implements25 (w : World) : (ReflectliteType.relation "Implements" ReflectliteType.implements_ #[.agg #[.pointer (some ⟨1, 34, none⟩)], .iface 101 (.agg #[.pointer (some ⟨1, 27, none⟩)])]).run Tryd.prog w = .ok (.bool true) w := by kernel_rfl
theorem Tryd.typeOf25 (v : Value) (w : World) : (ReflectliteType.typeOf #[.iface 34 v]).run Tryd.prog w = .ok (.iface 101 (.agg #[.pointer (some ⟨1, 34, none⟩)])) w := by kernel_rfl
theorem Tryd.assignable25 (w : World) : (ReflectliteType.relation "AssignableTo" ReflectliteType.assignableTo #[.agg #[.pointer (some ⟨1, 34, none⟩)], .iface 101 (.agg #[.pointer (some ⟨1, 34, none⟩)])]).run Tryd.prog w = .ok (.bool true) w := by kernel_rfl
theorem Tryd.valueOf25 (e : Int) (w : World) : (ReflectliteValue.unpack (.iface 34 (.int .i64 e))).run Tryd.prog w
    = .ok (.agg #[.pointer (some ⟨1, 34, none⟩), .pointer (some ⟨w.heap.size, 0, none⟩), .int .u64 130]) (w.alloc (.cells #[.int .i64 e] 34)) := by kernel_rfl

theorem Tryd.elemOf27 (w : World) : (Rtype.elem? 75).run Tryd.prog w = .ok (some 34) w := by kernel_rfl
theorem Tryd.mk25 (p : Addr) (w : World) : (ReflectliteValue.mk 34 p ReflectliteValue.flagAddr).run Tryd.prog w = .ok (.agg #[.pointer (some ⟨1, 34, none⟩), .pointer (some p), .int .u64 386]) w := by kernel_rfl
theorem Tryd.elemV27 (a p : Addr) (W : World) (ha : W.cell? a = some (.pointer (some p))) :
    (ReflectliteValue.method (ReflectliteValue.valueError "reflectlite.Value.Elem" 0) ReflectliteValue.elem #[.agg #[.pointer (some ⟨1, 75, none⟩), .pointer (some a), .int .u64 150]]).run Tryd.prog W
      = .ok (.agg #[.pointer (some ⟨1, 34, none⟩), .pointer (some p), .int .u64 386]) W := by
  rw [rlm]
  simp only [Sem.run_bind, Tryd.parts27, Result.andThen]
  simp [ReflectliteValue.elem, loadVar, isAgg, underlying, Tryd.underlying75, ha, Result.andThen, Tryd.elemOf27, Tryd.mk25]
theorem rls (v x : Value) : ReflectliteValue.set #[v, x] = (do
    let (some (dst, a, fl), some (src, b, _)) := (← ReflectliteValue.parts v, ← ReflectliteValue.parts x)
      | unsupported (.noEntry "extern/(internal/reflectlite.Value).Set.zeroValue")
    if fl / ReflectliteValue.flagAddr % 2 == 0 then unsupported (.noEntry "extern/(internal/reflectlite.Value).Set.unaddressable")
    let val ← loadVar src b
    if ← Rtype.directlyAssignable dst src then storeVar dst a val
    else if ← Rtype.implements dst src then
      if (← Rtype.kind src) == 20 then
        match val with
        | .nilIface => unsupported (.noEntry "extern/reflectlite: a nil value of one interface type handed on as a value of another")
        | _ => storeVar dst a val
      else storeVar dst a (.iface src val)
    else panicString ("reflectlite.Set: value of type " ++ (← Rtype.spelt src) ++ " is not assignable to type " ++ (← Rtype.spelt dst))
    pure (.tuple #[])) := rfl
theorem Tryd.parts25a (a : Addr) (w : World) : (ReflectliteValue.parts (.agg #[.pointer (some ⟨1, 34, none⟩), .pointer (some a), .int .u64 386])).run Tryd.prog w = .ok (some (34, a, 386)) w := by kernel_rfl
theorem Tryd.parts25 (a : Addr) (w : World) : (ReflectliteValue.parts (.agg #[.pointer (some ⟨1, 34, none⟩), .pointer (some a), .int .u64 130])).run Tryd.prog w = .ok (some (34, a, 130)) w := by kernel_rfl
theorem Tryd.direct25 (w : World) : (Rtype.directlyAssignable 34 34).run Tryd.prog w = .ok true w := by kernel_rfl
theorem Tryd.size25 (w : World) : (sizeOf 34).run Tryd.prog w = .ok 1 w := by kernel_rfl
theorem Tryd.set25 (ta b : Addr) (e : Int) (old : Value) (W : World) (hb : W.cell? b = some (.int .i64 e)) (ht : W.cell? ta = some old) (hf : W.frozen? ta = false) :
    (ReflectliteValue.set #[.agg #[.pointer (some ⟨1, 34, none⟩), .pointer (some ta), .int .u64 386], .agg #[.pointer (some ⟨1, 34, none⟩), .pointer (some b), .int .u64 130]]).run Tryd.prog W
      = .ok (.tuple #[]) (W.setCell ta (.int .i64 e)) := by
  rw [rls]
  simp only [Sem.run_bind, Tryd.parts25a, Tryd.parts25, Result.andThen]
  simp [ReflectliteValue.flagAddr, loadVar, isAgg, underlying, Tryd.underlying34, hb, Result.andThen, Tryd.direct25, storeVar, Value.cells, storeCells, Addr.add]
  rw [run_store Tryd.prog W ta _ _ (by rfl)]
  simp [ht, hf]

set_option maxHeartbeats 4000000 in
theorem as_hit (e : Int) (t : Addr) (old : Value) (w : World) (hg : w.cell? ⟨0, 0, Option.none⟩ = some (.iface 101 (.agg #[.pointer (some ⟨1, 27, none⟩)]))) (ht0 : w.cell? t = some old) (hf0 : w.frozen? t = false) :
    Calls Tryd.prog 37 #[.iface 34 (.int .i64 e), .iface 75 (.pointer (some t))] w fun ev w' => ev = .returned (.bool true) ∧ w' = ((((w.alloc (.cells #[.pointer (some t)] 75)).alloc (.cells #[.pointer (some ⟨1, 75, none⟩), .pointer (some ⟨w.heap.size, 0, none⟩), .int .u64 150] 90)).alloc (.cells #[.pointer (some ⟨1, 75, none⟩), .pointer (some ⟨w.heap.size, 0, none⟩), .int .u64 150] 90)).alloc (.cells #[.int .i64 e] 34)).setCell t (.int .i64 e) := by
  have h6 := @run_callFunc_extern Tryd.prog 48 _ (fun args => ReflectliteValue.unpack (args.getD 0 (.tuple #[]))) Tryd.func48 (by kernel_rfl) (by kernel_rfl) (by kernel_rfl) (by kernel_rfl)
  have h7 := @run_callFunc_extern Tryd.prog 49 _ (ReflectliteValue.methodAny (ReflectliteValue.valueError "reflectlite.Value.Type" 0) (fun t _ _ _ => ReflectliteType.toType t)) Tryd.func49 (by kernel_rfl) (by kernel_rfl) (by kernel_rfl) (by kernel_rfl)
  have h8 := @run_callFunc_extern Tryd.prog 50 _ (ReflectliteValue.method (ReflectliteValue.valueError "reflectlite.Value.IsNil" 0) ReflectliteValue.isNil) Tryd.func50 (by kernel_rfl) (by kernel_rfl) (by kernel_rfl) (by kernel_rfl)
  have h27 := @run_callFunc_extern Tryd.prog 91 _ (ReflectliteType.abiMethod fun t => do pure (.int .u8 (← Rtype.kind t))) Tryd.func91 (by kernel_rfl) (by kernel_rfl) (by kernel_rfl) (by kernel_rfl)
  have h37 := @run_callFunc_extern Tryd.prog 101 _ (ReflectliteType.method ReflectliteType.elem) Tryd.func101 (by kernel_rfl) (by kernel_rfl) (by kernel_rfl) (by kernel_rfl)
  have h38 := @run_callFunc_extern Tryd.prog 102 _ (ReflectliteType.relation "Implements" ReflectliteType.implements_) Tryd.func102 (by kernel_rfl) (by kernel_rfl) (by kernel_rfl) (by kernel_rfl)
  have h10 := @run_callFunc_extern Tryd.prog 54 _ ReflectliteType.typeOf Tryd.func54 (by kernel_rfl) (by kernel_rfl) (by kernel_rfl) (by kernel_rfl)
  have h35 := @run_callFunc_extern Tryd.prog 99 _ (ReflectliteType.relation "AssignableTo" ReflectliteType.assignableTo) Tryd.func99 (by kernel_rfl) (by kernel_rfl) (by kernel_rfl) (by kernel_rfl)
  have h11 := @run_callFunc_extern Tryd.prog 55 _ (ReflectliteValue.method (ReflectliteValue.valueError "reflectlite.Value.Elem" 0) ReflectliteValue.elem) Tryd.func55 (by kernel_rfl) (by kernel_rfl) (by kernel_rfl) (by kernel_rfl)
  have h12 := @run_callFunc_extern Tryd.prog 56 _ ReflectliteValue.set Tryd.func56 (by kernel_rfl) (by kernel_rfl) (by kernel_rfl) (by kernel_rfl)
  have tO := Tryd.typeOf25
  have mA := Tryd.methodAssignableTo
  have a25 := Tryd.assignable25
  have v25 := Tryd.valueOf25
  have f6 := Tryd.valueOf27
  have f7 := Tryd.type27
  have mK := Tryd.methodKind
  have mE := Tryd.methodElem
  have mI := Tryd.methodImplements
  have k27 := Tryd.kind27
  have k25 := Tryd.kind25
  have e27 := Tryd.elem27
  have i25 := Tryd.implements25
  have n8 := Tryd.isNil27 ⟨w.heap.size, 0, none⟩ t ((w.alloc (.cells #[.pointer (some t)] 75)).alloc (.cells #[.pointer (some ⟨1, 75, none⟩), .pointer (some ⟨w.heap.size, 0, none⟩), .int .u64 150] 90)) (by simp)
  have hlt : 0 < w.heap.size := by
    rcases Nat.eq_zero_or_pos w.heap.size with h0 | h
    · simp [World.cell?, h0] at hg
    · exact h
  have hg2 : ((w.alloc (.cells #[.pointer (some t)] 75)).alloc (.cells #[.pointer (some ⟨1, 75, none⟩), .pointer (some ⟨w.heap.size, 0, none⟩), .int .u64 150] 90)).cell? ⟨0, 0, Option.none⟩ = some (.iface 101 (.agg #[.pointer (some ⟨1, 27, none⟩)])) := by
    rw [World.cell?_alloc_lt _ _ ⟨0, 0, Option.none⟩ (by simp), World.cell?_alloc_lt _ _ ⟨0, 0, Option.none⟩ hlt]; exact hg
  have htl : t.block < w.heap.size := by
    rcases Nat.lt_or_ge t.block w.heap.size with h | h
    · exact h
    · simp [World.cell?, Array.getElem?_eq_none h] at ht0
  have el := Tryd.elemV27 ⟨w.heap.size, 0, none⟩ t (((w.alloc (.cells #[.pointer (some t)] 75)).alloc (.cells #[.pointer (some ⟨1, 75, none⟩), .pointer (some ⟨w.heap.size, 0, none⟩), .int .u64 150] 90)).alloc (.cells #[.pointer (some ⟨1, 75, none⟩), .pointer (some ⟨w.heap.size, 0, none⟩), .int .u64 150] 90)) (by rw [World.cell?_alloc_lt _ _ ⟨w.heap.size, 0, none⟩ (by simp; omega)]; simp)
  have st := Tryd.set25 t ⟨w.heap.size + 1 + 1 + 1, 0, none⟩ e old ((((w.alloc (.cells #[.pointer (some t)] 75)).alloc (.cells #[.pointer (some ⟨1, 75, none⟩), .pointer (some ⟨w.heap.size, 0, none⟩), .int .u64 150] 90)).alloc (.cells #[.pointer (some ⟨1, 75, none⟩), .pointer (some ⟨w.heap.size, 0, none⟩), .int .u64 150] 90)).alloc (.cells #[.int .i64 e] 34))
    (by rw [World.cell?_alloc_at _ _ _ _ (by simp)]; rfl)
    (by rw [World.cell?_alloc_lt _ _ t (by simp; omega), World.cell?_alloc_lt _ _ t (by simp; omega), World.cell?_alloc_lt _ _ t (by simp; omega), World.cell?_alloc_lt _ _ t htl]; exact ht0)
    (by rw [World.frozen?_alloc_old _ _ t (by simp; omega), World.frozen?_alloc_old _ _ t (by simp; omega), World.frozen?_alloc_old _ _ t (by simp; omega), World.frozen?_alloc_old _ _ t (Nat.ne_of_lt htl)]; exact hf0)
  go_enter Tryd.func37, Tryd.ntmps37
  go_wp2
  refine wp_loop_rounds 1 ?_
  rw [rounds_succ]
  go_wp2
  go_ret
  exact ⟨rfl, rfl⟩
theorem number_nil (w : World) : Calls Tryd.prog 17 #[.nilIface] w fun ev w' => ev = .returned (.int .i64 0) ∧ Below w.heap.size w w' := by
  go_enter Tryd.func17, Tryd.ntmps17
  go_wp2_with (first | (go_at_call 37; refine (as_nil _ _).mono ?_; rintro e w' ⟨rfl, rfl⟩))
  go_ret
  exact ⟨rfl, (Below.refl _ _).alloc (Nat.le_refl _) _⟩
set_option maxHeartbeats 4000000 in
theorem number_hit (n : Int) (w : World) (hg : w.cell? ⟨0, 0, Option.none⟩ = some (.iface 101 (.agg #[.pointer (some ⟨1, 27, none⟩)]))) : Calls Tryd.prog 17 #[.iface 34 (.int .i64 n)] w fun ev w' => ev = .returned (.int .i64 n) ∧ Below w.heap.size w w' := by
  have hlt : 0 < w.heap.size := by
    rcases Nat.eq_zero_or_pos w.heap.size with h0 | h
    · simp [World.cell?, h0] at hg
    · exact h
  have hgA : (w.alloc (.cells #[.int .i64 0] 34)).cell? ⟨0, 0, Option.none⟩ = some (.iface 101 (.agg #[.pointer (some ⟨1, 27, none⟩)])) := by
    rw [World.cell?_alloc_lt _ _ ⟨0, 0, Option.none⟩ hlt]; exact hg
  have htA : (w.alloc (.cells #[.int .i64 0] 34)).cell? ⟨w.heap.size, 0, none⟩ = some (.int .i64 0) := by simp
  have hfA : (w.alloc (.cells #[.int .i64 0] 34)).frozen? ⟨w.heap.size, 0, none⟩ = false := by simp
  have key := as_hit n ⟨w.heap.size, 0, none⟩ (.int .i64 0) (w.alloc (.cells #[.int .i64 0] 34)) hgA htA hfA
  go_enter Tryd.func17, Tryd.ntmps17
  go_wp2_with (first | (go_at_call 37; refine key.mono ?_; rintro e w' ⟨rfl, rfl⟩))
  go_ret
  refine ⟨rfl, ?_⟩
  have b1 := (Below.refl w.heap.size w).alloc (Nat.le_refl _) (.cells #[.int .i64 n] 34)
  refine Below.alloc (Below.alloc (Below.alloc (Below.alloc b1 ?_ _) ?_ _) ?_ _) ?_ _ <;> simp <;> omega
namespace A
open Go
/-- api.Number: an error's number; of nil it is 0. -/
def errA (n : Int) : AV := .ifc 34 (.int .i64 n)
/-- An error, by its number: 0 is nil. -/
def errV (n : Int) : AV := if n = 0 then .nilifc else errA n
def numberC (args : List AV) (bs : List Box) (K : AV → List Box → Prop) : Prop := bs = [] ∧ ((args = [.nilifc] ∧ K (.int .i64 0) []) ∨ ∃ n, args = [errA n] ∧ K (.int .i64 n) [])
theorem below_step {c : Cx} {w' : World} (h : RowKit.Below c.w.heap.size c.w w') : Step c ⟨w', c.Z, c.bk, c.fm⟩ :=
  ⟨h.size, h.os, h.tape, h.output, fun g hg _ => h.block g hg, fun _ hg => .inl hg, fun _ hg => hg, fun _ hg => .inl hg, fun _ _ _ => rfl⟩
theorem below_ok {c : Cx} {w' : World} (hok : c.Ok) (h : RowKit.Below c.w.heap.size c.w w') : Cx.Ok ⟨w', c.Z, c.bk, c.fm⟩ :=
  ⟨fun g hg => Nat.lt_of_lt_of_le (hok.zlt g hg) h.size, fun b g hg => Nat.lt_of_lt_of_le (hok.blt b g hg) h.size, fun F g hg => Nat.lt_of_lt_of_le (hok.flt F g hg) h.size, hok.zb, hok.zf, hok.bb, hok.ff, hok.bf, hok.gl.move fun g hg => ⟨hg, h.block g (hok.zlt g hg)⟩⟩
theorem number_ok : FnOk Tryd.prog tab 17 numberC := by
  refine ⟨fun args w => ?_, fun args bs K hS c vs hok _ hV hB => ?_⟩
  · simp [callFunc, Tryd.func17, Tryd.f17]
  obtain ⟨rfl, hS⟩ := hS
  match vs, hV with
  | [], hV => rcases hS with ⟨rfl, -⟩ | ⟨n, rfl, -⟩ <;> exact absurd hV.1 (by simp)
  | _ :: _ :: _, hV => rcases hS with ⟨rfl, -⟩ | ⟨n, rfl, -⟩ <;> exact absurd hV.1 (by simp)
  | [v], hV =>
    rcases hS with ⟨rfl, hK⟩ | ⟨n, rfl, hK⟩
    · have h0 := hV.2 0 _ v rfl rfl
      cases h0
      refine Calls.mono (number_nil c.w) ?_
      rintro e w' ⟨rfl, hb⟩
      exact ⟨_, ⟨w', c.Z, c.bk, c.fm⟩, _, [], rfl, rfl, below_ok hok hb, below_step hb, .int _ _, fun i x hx => by simp at hx, hK⟩
    · have h0 := hV.2 0 _ v rfl rfl
      cases h0 with
      | ifc _ _ u hu =>
        cases hu
        refine Calls.mono (number_hit n c.w (hok.gl _ rfl).2) ?_
        rintro e w' ⟨rfl, hb⟩
        exact ⟨_, ⟨w', c.Z, c.bk, c.fm⟩, _, [], rfl, rfl, below_ok hok hb, below_step hb, .int _ _, fun i x hx => by simp at hx, hK⟩
end A
end Go.Proofs.YtbpcofnhndgoeaaDoor
