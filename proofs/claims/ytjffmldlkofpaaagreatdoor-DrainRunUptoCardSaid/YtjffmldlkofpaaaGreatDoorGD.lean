/- The ledger's data, plain. -/
import Init
import Derived.Test.YtjffmldlkofpaaaGreatDoorB0
import Derived.Test.YtjffmldlkofpaaaGreatDoorGC
import Derived.Stop.Asserts
import Derived.LaidEql
import Derived.RowKitTokens
import Derived.Below
namespace Go.Proofs.YtjffmldlkofpaaaGreatDoor.Q
structure Acc where
  (cur bal held : Int)
structure Pay where
  (src dst auth capt refu chrg til stage : Int)
structure Req where
  (key op a b amt legs til : Int)
structure Sag where
  req : Req
  (phase leg tries why : Int)
structure Kno where
  req : Req
  (err id : Int)
  told : Bool
structure Sta where
  accs : List Acc
  pays : List Pay
  sags : List Sag
  kns : List Kno
  now : Int
end Go.Proofs.YtjffmldlkofpaaaGreatDoor.Q

/- The ledger's data as abstract values. -/
namespace Go.Proofs.YtjffmldlkofpaaaGreatDoor.A
open Go Q
def w64 (n : Int) : Int := IntKind.i64.wrap n
theorem wrap_of {n : Int} (h0 : -9223372036854775808 ≤ n) (h1 : n < 9223372036854775808) : IntKind.i64.wrap n = n := by
  simp [IntKind.wrap, IntKind.signed, IntKind.bits]; omega
def accA (p : Acc) : AV := .agg [.int .i64 p.cur, .int .i64 p.bal, .int .i64 p.held]
def payA (p : Pay) : AV := .agg [.int .i64 p.src, .int .i64 p.dst, .int .i64 p.auth, .int .i64 p.capt, .int .i64 p.refu, .int .i64 p.chrg, .int .i64 p.til, .int .i64 p.stage]
def reqA (r : Req) : AV := .agg [.int .i64 r.key, .int .i64 r.op, .int .i64 r.a, .int .i64 r.b, .int .i64 r.amt, .int .i64 r.legs, .int .i64 r.til]
def sagA (g : Sag) : AV := .agg [.int .i64 g.req.key, .int .i64 g.req.op, .int .i64 g.req.a, .int .i64 g.req.b, .int .i64 g.req.amt, .int .i64 g.req.legs, .int .i64 g.req.til, .int .i64 g.phase, .int .i64 g.leg, .int .i64 g.tries, .int .i64 g.why]
def knoA (k : Kno) : AV := .agg [.int .i64 k.req.key, .int .i64 k.req.op, .int .i64 k.req.a, .int .i64 k.req.b, .int .i64 k.req.amt, .int .i64 k.req.legs, .int .i64 k.req.til, .int .i64 k.err, .int .i64 k.id, .bool k.told]
def repA (e i : Int) : AV := .agg [.int .i64 e, .int .i64 i]
def accsA (l : List Acc) : AV := .sl .fz 65 (l.map accA)
def paysA (l : List Pay) : AV := .sl .fz 90 (l.map payA)
def sagsA (l : List Sag) : AV := .sl .fz 47 (l.map sagA)
def knsA (l : List Kno) : AV := .sl .fz 63 (l.map knoA)
def staA (s : Sta) : AV := .agg [accsA s.accs, paysA s.pays, sagsA s.sags, knsA s.kns, .int .i64 s.now]
theorem map_at {α : Type} {f : α → AV} {l : List α} {i : Nat} (h : i < l.length) : (l.map f)[i]? = some (f l[i]) := by
  rw [List.getElem?_map, List.getElem?_eq_getElem h]; rfl
theorem map_of {α : Type} {f : α → AV} {l : List α} {i : Nat} {x : α} (h : l[i]? = some x) : (l.map f)[i]? = some (f x) := by
  rw [List.getElem?_map, h]; rfl
end Go.Proofs.YtjffmldlkofpaaaGreatDoor.A

/- errors.As at a concrete target (*Errno), after the guide's worked example; api.Number. -/
namespace Go.Proofs.YtjffmldlkofpaaaGreatDoor
open Go.RowKit Go.Extern.Stop Go.Stop Go.Extern
theorem as_nil (t : Value) (w : World) :
    Calls Tryz.prog 81 #[.nilIface, t] w fun e w' => e = .returned (.bool false) ∧ w' = w := by
  go_enter Tryz.func81, Tryz.ntmps81
  go_wp2
  go_ret
  exact ⟨rfl, rfl⟩

theorem Tryz.valueOf27 (t : Addr) (w : World) : (ReflectliteValue.unpack (.iface 146 (.pointer (some t)))).run Tryz.prog w
    = .ok (.agg #[.pointer (some ⟨1, 146, none⟩), .pointer (some ⟨w.heap.size, 0, none⟩), .int .u64 150]) (w.alloc (.cells #[.pointer (some t)] 146)) := by kernel_rfl
theorem Tryz.type27 (a : Addr) (w : World) : (ReflectliteValue.methodAny (ReflectliteValue.valueError "reflectlite.Value.Type" 0) (fun t _ _ _ => ReflectliteType.toType t) #[.agg #[.pointer (some ⟨1, 146, none⟩), .pointer (some a), .int .u64 150]]).run Tryz.prog w
    = .ok (.iface 192 (.agg #[.pointer (some ⟨1, 146, none⟩)])) w := by kernel_rfl
theorem Tryz.methodKind (h : Value) (w : World) : (Go.method (264 + 100) 192 (.agg #[h]) "Kind").run Tryz.prog w = .ok (150, h) w := by kernel_rfl
theorem Tryz.kind27 (w : World) : ((ReflectliteType.abiMethod fun t => (fun a : Nat => Value.int IntKind.u8 (a : Int)) <$> Rtype.kind t) #[.pointer (some ⟨1, 146, none⟩)]).run Tryz.prog w = .ok (.int .u8 22) w := by kernel_rfl
theorem Tryz.kind25 (w : World) : ((ReflectliteType.abiMethod fun t => (fun a : Nat => Value.int IntKind.u8 (a : Int)) <$> Rtype.kind t) #[.pointer (some ⟨1, 45, none⟩)]).run Tryz.prog w = .ok (.int .u8 2) w := by kernel_rfl

theorem rlm (z : Sem Value) (f : TypeId → Addr → Nat → Nat → Sem Value) (v : Value) :
    ReflectliteValue.method z f #[v] = (do match ← ReflectliteValue.parts v with | none => z | some (t, a, fl) => f t a fl (fl % 32)) := rfl
theorem Tryz.parts27 (a : Addr) (w : World) : (ReflectliteValue.parts (.agg #[.pointer (some ⟨1, 146, none⟩), .pointer (some a), .int .u64 150])).run Tryz.prog w = .ok (some (146, a, 150)) w := by kernel_rfl
theorem Tryz.isNil27 (a p : Addr) (W : World) (ha : W.cell? a = some (.pointer (some p))) :
    (ReflectliteValue.method (ReflectliteValue.valueError "reflectlite.Value.IsNil" 0) ReflectliteValue.isNil #[.agg #[.pointer (some ⟨1, 146, none⟩), .pointer (some a), .int .u64 150]]).run Tryz.prog W = .ok (.bool false) W := by
  rw [rlm]
  simp only [Sem.run_bind, Tryz.parts27, Result.andThen]
  simp [ReflectliteValue.isNil, loadVar, isAgg, underlying, Tryz.underlying146, ha, Result.andThen]

theorem Tryz.methodElem (h : Value) (w : World) : (Go.method (264 + 100) 192 (.agg #[h]) "Elem").run Tryz.prog w = .ok (162, .agg #[h]) w := by kernel_rfl
theorem Tryz.methodImplements (h : Value) (w : World) : (Go.method (264 + 100) 192 (.agg #[h]) "Implements").run Tryz.prog w = .ok (163, .agg #[h]) w := by kernel_rfl
theorem Tryz.methodAssignableTo (h : Value) (w : World) : (Go.method (264 + 100) 192 (.agg #[h]) "AssignableTo").run Tryz.prog w = .ok (160, .agg #[h]) w := by kernel_rfl
theorem Tryz.elem27 (w : World) : (ReflectliteType.method ReflectliteType.elem #[.agg #[.pointer (some ⟨1, 146, none⟩)]]).run Tryz.prog w = .ok (.iface 192 (.agg #[.pointer (some ⟨1, 45, none⟩)])) w := by kernel_rfl
theorem Tryz.implements25 (w : World) : (ReflectliteType.relation "Implements" ReflectliteType.implements_ #[.agg #[.pointer (some ⟨1, 45, none⟩)], .iface 192 (.agg #[.pointer (some ⟨1, 110, none⟩)])]).run Tryz.prog w = .ok (.bool true) w := by kernel_rfl
theorem Tryz.typeOf25 (v : Value) (w : World) : (ReflectliteType.typeOf #[.iface 45 v]).run Tryz.prog w = .ok (.iface 192 (.agg #[.pointer (some ⟨1, 45, none⟩)])) w := by kernel_rfl
theorem Tryz.assignable25 (w : World) : (ReflectliteType.relation "AssignableTo" ReflectliteType.assignableTo #[.agg #[.pointer (some ⟨1, 45, none⟩)], .iface 192 (.agg #[.pointer (some ⟨1, 45, none⟩)])]).run Tryz.prog w = .ok (.bool true) w := by kernel_rfl
theorem Tryz.valueOf25 (e : Int) (w : World) : (ReflectliteValue.unpack (.iface 45 (.int .i64 e))).run Tryz.prog w
    = .ok (.agg #[.pointer (some ⟨1, 45, none⟩), .pointer (some ⟨w.heap.size, 0, none⟩), .int .u64 130]) (w.alloc (.cells #[.int .i64 e] 45)) := by kernel_rfl

theorem Tryz.elemOf27 (w : World) : (Rtype.elem? 146).run Tryz.prog w = .ok (some 45) w := by kernel_rfl
theorem Tryz.mk25 (p : Addr) (w : World) : (ReflectliteValue.mk 45 p ReflectliteValue.flagAddr).run Tryz.prog w = .ok (.agg #[.pointer (some ⟨1, 45, none⟩), .pointer (some p), .int .u64 386]) w := by kernel_rfl
theorem Tryz.elemV27 (a p : Addr) (W : World) (ha : W.cell? a = some (.pointer (some p))) :
    (ReflectliteValue.method (ReflectliteValue.valueError "reflectlite.Value.Elem" 0) ReflectliteValue.elem #[.agg #[.pointer (some ⟨1, 146, none⟩), .pointer (some a), .int .u64 150]]).run Tryz.prog W
      = .ok (.agg #[.pointer (some ⟨1, 45, none⟩), .pointer (some p), .int .u64 386]) W := by
  rw [rlm]
  simp only [Sem.run_bind, Tryz.parts27, Result.andThen]
  simp [ReflectliteValue.elem, loadVar, isAgg, underlying, Tryz.underlying146, ha, Result.andThen, Tryz.elemOf27, Tryz.mk25]
theorem rls (v x : Value) : ReflectliteValue.set #[v, x] = (do
    let (some (dst, a, fl), some (src, b, _)) := (← ReflectliteValue.parts v, ← ReflectliteValue.parts x)
      | unsupported (.noEntry "extern/(internal/reflectlite.Value).Set.zeroValue")
    if fl / ReflectliteValue.flagAddr % 2 == 0 then unsupported (.noEntry "extern/(internal/reflectlite.Value).Set.unaddressable")
    let val ← loadVar src b
    if ← Rtype.directlyAssignable dst src then storeVar dst a val
    else if ← Rtype.implements dst src then
      if (← Rtype.kind src) == 20 then
        match val with
        | .nilIface => unsupported (.noEntry "extern/reflectlite: a nil value of one interface type handed on as a value of another")
        | _ => storeVar dst a val
      else storeVar dst a (.iface src val)
    else panicString ("reflectlite.Set: value of type " ++ (← Rtype.spelt src) ++ " is not assignable to type " ++ (← Rtype.spelt dst))
    pure (.tuple #[])) := rfl
theorem Tryz.parts25a (a : Addr) (w : World) : (ReflectliteValue.parts (.agg #[.pointer (some ⟨1, 45, none⟩), .pointer (some a), .int .u64 386])).run Tryz.prog w = .ok (some (45, a, 386)) w := by kernel_rfl
theorem Tryz.parts25 (a : Addr) (w : World) : (ReflectliteValue.parts (.agg #[.pointer (some ⟨1, 45, none⟩), .pointer (some a), .int .u64 130])).run Tryz.prog w = .ok (some (45, a, 130)) w := by kernel_rfl
theorem Tryz.direct25 (w : World) : (Rtype.directlyAssignable 45 45).run Tryz.prog w = .ok true w := by kernel_rfl
theorem Tryz.size25 (w : World) : (sizeOf 45).run Tryz.prog w = .ok 1 w := by kernel_rfl
theorem Tryz.set25 (ta b : Addr) (e : Int) (old : Value) (W : World) (hb : W.cell? b = some (.int .i64 e)) (ht : W.cell? ta = some old) (hf : W.frozen? ta = false) :
    (ReflectliteValue.set #[.agg #[.pointer (some ⟨1, 45, none⟩), .pointer (some ta), .int .u64 386], .agg #[.pointer (some ⟨1, 45, none⟩), .pointer (some b), .int .u64 130]]).run Tryz.prog W
      = .ok (.tuple #[]) (W.setCell ta (.int .i64 e)) := by
  rw [rls]
  simp only [Sem.run_bind, Tryz.parts25a, Tryz.parts25, Result.andThen]
  simp [ReflectliteValue.flagAddr, loadVar, isAgg, underlying, Tryz.underlying45, hb, Result.andThen, Tryz.direct25, storeVar, Value.cells, storeCells, Addr.add]
  rw [run_store Tryz.prog W ta _ _ (by rfl)]
  simp [ht, hf]

set_option maxHeartbeats 4000000 in
theorem as_hit (e : Int) (t : Addr) (old : Value) (w : World) (hg : w.cell? ⟨0, 0, Option.none⟩ = some (.iface 192 (.agg #[.pointer (some ⟨1, 110, none⟩)]))) (ht0 : w.cell? t = some old) (hf0 : w.frozen? t = false) :
    Calls Tryz.prog 81 #[.iface 45 (.int .i64 e), .iface 146 (.pointer (some t))] w fun ev w' => ev = .returned (.bool true) ∧ w' = ((((w.alloc (.cells #[.pointer (some t)] 146)).alloc (.cells #[.pointer (some ⟨1, 146, none⟩), .pointer (some ⟨w.heap.size, 0, none⟩), .int .u64 150] 167)).alloc (.cells #[.pointer (some ⟨1, 146, none⟩), .pointer (some ⟨w.heap.size, 0, none⟩), .int .u64 150] 167)).alloc (.cells #[.int .i64 e] 45)).setCell t (.int .i64 e) := by
  have h6 := @run_callFunc_extern Tryz.prog 94 _ (fun args => ReflectliteValue.unpack (args.getD 0 (.tuple #[]))) Tryz.func94 (by kernel_rfl) (by kernel_rfl) (by kernel_rfl) (by kernel_rfl)
  have h7 := @run_callFunc_extern Tryz.prog 95 _ (ReflectliteValue.methodAny (ReflectliteValue.valueError "reflectlite.Value.Type" 0) (fun t _ _ _ => ReflectliteType.toType t)) Tryz.func95 (by kernel_rfl) (by kernel_rfl) (by kernel_rfl) (by kernel_rfl)
  have h8 := @run_callFunc_extern Tryz.prog 96 _ (ReflectliteValue.method (ReflectliteValue.valueError "reflectlite.Value.IsNil" 0) ReflectliteValue.isNil) Tryz.func96 (by kernel_rfl) (by kernel_rfl) (by kernel_rfl) (by kernel_rfl)
  have h27 := @run_callFunc_extern Tryz.prog 150 _ (ReflectliteType.abiMethod fun t => do pure (.int .u8 (← Rtype.kind t))) Tryz.func150 (by kernel_rfl) (by kernel_rfl) (by kernel_rfl) (by kernel_rfl)
  have h37 := @run_callFunc_extern Tryz.prog 162 _ (ReflectliteType.method ReflectliteType.elem) Tryz.func162 (by kernel_rfl) (by kernel_rfl) (by kernel_rfl) (by kernel_rfl)
  have h38 := @run_callFunc_extern Tryz.prog 163 _ (ReflectliteType.relation "Implements" ReflectliteType.implements_) Tryz.func163 (by kernel_rfl) (by kernel_rfl) (by kernel_rfl) (by kernel_rfl)
  have h10 := @run_callFunc_extern Tryz.prog 111 _ ReflectliteType.typeOf Tryz.func111 (by kernel_rfl) (by kernel_rfl) (by kernel_rfl) (by kernel_rfl)
  have h35 := @run_callFunc_extern Tryz.prog 160 _ (ReflectliteType.relation "AssignableTo" ReflectliteType.assignableTo) Tryz.func160 (by kernel_rfl) (by kernel_rfl) (by kernel_rfl) (by kernel_rfl)
  have h11 := @run_callFunc_extern Tryz.prog 112 _ (ReflectliteValue.method (ReflectliteValue.valueError "reflectlite.Value.Elem" 0) ReflectliteValue.elem) Tryz.func112 (by kernel_rfl) (by kernel_rfl) (by kernel_rfl) (by kernel_rfl)
  have h12 := @run_callFunc_extern Tryz.prog 113 _ ReflectliteValue.set Tryz.func113 (by kernel_rfl) (by kernel_rfl) (by kernel_rfl) (by kernel_rfl)
  have tO := Tryz.typeOf25
  have mA := Tryz.methodAssignableTo
  have a25 := Tryz.assignable25
  have v25 := Tryz.valueOf25
  have f6 := Tryz.valueOf27
  have f7 := Tryz.type27
  have mK := Tryz.methodKind
  have mE := Tryz.methodElem
  have mI := Tryz.methodImplements
  have k27 := Tryz.kind27
  have k25 := Tryz.kind25
  have e27 := Tryz.elem27
  have i25 := Tryz.implements25
  have n8 := Tryz.isNil27 ⟨w.heap.size, 0, none⟩ t ((w.alloc (.cells #[.pointer (some t)] 146)).alloc (.cells #[.pointer (some ⟨1, 146, none⟩), .pointer (some ⟨w.heap.size, 0, none⟩), .int .u64 150] 167)) (by simp)
  have hlt : 0 < w.heap.size := by
    rcases Nat.eq_zero_or_pos w.heap.size with h0 | h
    · simp [World.cell?, h0] at hg
    · exact h
  have hg2 : ((w.alloc (.cells #[.pointer (some t)] 146)).alloc (.cells #[.pointer (some ⟨1, 146, none⟩), .pointer (some ⟨w.heap.size, 0, none⟩), .int .u64 150] 167)).cell? ⟨0, 0, Option.none⟩ = some (.iface 192 (.agg #[.pointer (some ⟨1, 110, none⟩)])) := by
    rw [World.cell?_alloc_lt _ _ ⟨0, 0, Option.none⟩ (by simp), World.cell?_alloc_lt _ _ ⟨0, 0, Option.none⟩ hlt]; exact hg
  have htl : t.block < w.heap.size := by
    rcases Nat.lt_or_ge t.block w.heap.size with h | h
    · exact h
    · simp [World.cell?, Array.getElem?_eq_none h] at ht0
  have el := Tryz.elemV27 ⟨w.heap.size, 0, none⟩ t (((w.alloc (.cells #[.pointer (some t)] 146)).alloc (.cells #[.pointer (some ⟨1, 146, none⟩), .pointer (some ⟨w.heap.size, 0, none⟩), .int .u64 150] 167)).alloc (.cells #[.pointer (some ⟨1, 146, none⟩), .pointer (some ⟨w.heap.size, 0, none⟩), .int .u64 150] 167)) (by rw [World.cell?_alloc_lt _ _ ⟨w.heap.size, 0, none⟩ (by simp; omega)]; simp)
  have st := Tryz.set25 t ⟨w.heap.size + 1 + 1 + 1, 0, none⟩ e old ((((w.alloc (.cells #[.pointer (some t)] 146)).alloc (.cells #[.pointer (some ⟨1, 146, none⟩), .pointer (some ⟨w.heap.size, 0, none⟩), .int .u64 150] 167)).alloc (.cells #[.pointer (some ⟨1, 146, none⟩), .pointer (some ⟨w.heap.size, 0, none⟩), .int .u64 150] 167)).alloc (.cells #[.int .i64 e] 45))
    (by rw [World.cell?_alloc_at _ _ _ _ (by simp)]; rfl)
    (by rw [World.cell?_alloc_lt _ _ t (by simp; omega), World.cell?_alloc_lt _ _ t (by simp; omega), World.cell?_alloc_lt _ _ t (by simp; omega), World.cell?_alloc_lt _ _ t htl]; exact ht0)
    (by rw [World.frozen?_alloc_old _ _ t (by simp; omega), World.frozen?_alloc_old _ _ t (by simp; omega), World.frozen?_alloc_old _ _ t (by simp; omega), World.frozen?_alloc_old _ _ t (Nat.ne_of_lt htl)]; exact hf0)
  go_enter Tryz.func81, Tryz.ntmps81
  go_wp2
  refine wp_loop_rounds 1 ?_
  rw [rounds_succ]
  go_wp2
  go_ret
  exact ⟨rfl, rfl⟩
theorem number_nil (w : World) : Calls Tryz.prog 47 #[.nilIface] w fun ev w' => ev = .returned (.int .i64 0) ∧ Below w.heap.size w w' := by
  go_enter Tryz.func47, Tryz.ntmps47
  go_wp2_with (first | (go_at_call 81; refine (as_nil _ _).mono ?_; rintro e w' ⟨rfl, rfl⟩))
  go_ret
  exact ⟨rfl, (Below.refl _ _).alloc (Nat.le_refl _) _⟩
set_option maxHeartbeats 4000000 in
theorem number_hit (n : Int) (w : World) (hg : w.cell? ⟨0, 0, Option.none⟩ = some (.iface 192 (.agg #[.pointer (some ⟨1, 110, none⟩)]))) : Calls Tryz.prog 47 #[.iface 45 (.int .i64 n)] w fun ev w' => ev = .returned (.int .i64 n) ∧ Below w.heap.size w w' := by
  have hlt : 0 < w.heap.size := by
    rcases Nat.eq_zero_or_pos w.heap.size with h0 | h
    · simp [World.cell?, h0] at hg
    · exact h
  have hgA : (w.alloc (.cells #[.int .i64 0] 45)).cell? ⟨0, 0, Option.none⟩ = some (.iface 192 (.agg #[.pointer (some ⟨1, 110, none⟩)])) := by
    rw [World.cell?_alloc_lt _ _ ⟨0, 0, Option.none⟩ hlt]; exact hg
  have htA : (w.alloc (.cells #[.int .i64 0] 45)).cell? ⟨w.heap.size, 0, none⟩ = some (.int .i64 0) := by simp
  have hfA : (w.alloc (.cells #[.int .i64 0] 45)).frozen? ⟨w.heap.size, 0, none⟩ = false := by simp
  have key := as_hit n ⟨w.heap.size, 0, none⟩ (.int .i64 0) (w.alloc (.cells #[.int .i64 0] 45)) hgA htA hfA
  go_enter Tryz.func47, Tryz.ntmps47
  go_wp2_with (first | (go_at_call 81; refine key.mono ?_; rintro e w' ⟨rfl, rfl⟩))
  go_ret
  refine ⟨rfl, ?_⟩
  have b1 := (Below.refl w.heap.size w).alloc (Nat.le_refl _) (.cells #[.int .i64 n] 45)
  refine Below.alloc (Below.alloc (Below.alloc (Below.alloc b1 ?_ _) ?_ _) ?_ _) ?_ _ <;> simp <;> omega
namespace A
open Go
/-- api.Number: an error's number; of nil it is 0. -/
def errA (n : Int) : AV := .ifc 45 (.int .i64 n)
/-- An error, by its number: 0 is nil. -/
def errV (n : Int) : AV := if n = 0 then .nilifc else errA n
def numberC (args : List AV) (bs : List Box) (K : AV → List Box → Prop) : Prop := bs = [] ∧ ((args = [.nilifc] ∧ K (.int .i64 0) []) ∨ ∃ n, args = [errA n] ∧ K (.int .i64 n) [])
theorem below_step {c : Cx} {w' : World} (h : RowKit.Below c.w.heap.size c.w w') : Step c ⟨w', c.Z, c.bk, c.fm⟩ :=
  ⟨h.size, h.os, h.tape, h.output, fun g hg _ => h.block g hg, fun _ hg => .inl hg, fun _ hg => hg, fun _ hg => .inl hg, fun _ _ => rfl⟩
theorem below_ok {c : Cx} {w' : World} (hok : c.Ok) (h : RowKit.Below c.w.heap.size c.w w') : Cx.Ok ⟨w', c.Z, c.bk, c.fm⟩ :=
  ⟨fun g hg => Nat.lt_of_lt_of_le (hok.zlt g hg) h.size, fun b g hg => Nat.lt_of_lt_of_le (hok.blt b g hg) h.size, fun F g hg => Nat.lt_of_lt_of_le (hok.flt F g hg) h.size, hok.zb, hok.zf, hok.bb, hok.ff, hok.bf, hok.gl.move fun g hg => ⟨hg, h.block g (hok.zlt g hg)⟩⟩
theorem number_ok : FnOk Tryz.prog tab 47 numberC := by
  refine ⟨fun args w => ?_, fun args bs K hS c vs hok _ hV hB => ?_⟩
  · simp [callFunc, Tryz.func47, Tryz.f47]
  obtain ⟨rfl, hS⟩ := hS
  match vs, hV with
  | [], hV => rcases hS with ⟨rfl, -⟩ | ⟨n, rfl, -⟩ <;> exact absurd hV.1 (by simp)
  | _ :: _ :: _, hV => rcases hS with ⟨rfl, -⟩ | ⟨n, rfl, -⟩ <;> exact absurd hV.1 (by simp)
  | [v], hV =>
    rcases hS with ⟨rfl, hK⟩ | ⟨n, rfl, hK⟩
    · have h0 := hV.2 0 _ v rfl rfl
      cases h0
      refine Calls.mono (number_nil c.w) ?_
      rintro e w' ⟨rfl, hb⟩
      exact ⟨_, ⟨w', c.Z, c.bk, c.fm⟩, _, [], rfl, rfl, below_ok hok hb, below_step hb, .int _ _, fun i x hx => by simp at hx, hK⟩
    · have h0 := hV.2 0 _ v rfl rfl
      cases h0 with
      | ifc _ _ u hu =>
        cases hu
        refine Calls.mono (number_hit n c.w (hok.gl _ rfl).2) ?_
        rintro e w' ⟨rfl, hb⟩
        exact ⟨_, ⟨w', c.Z, c.bk, c.fm⟩, _, [], rfl, rfl, below_ok hok hb, below_step hb, .int _ _, fun i x hx => by simp at hx, hK⟩
end A
end Go.Proofs.YtjffmldlkofpaaaGreatDoor

/- Functions of one value: payment.Left, Gave, Right; chart.Of, IsClient; saga.Right. -/
namespace Go.Proofs.YtjffmldlkofpaaaGreatDoor.A
open Go Q
def R0 : Contract
  | _ => fun _ _ _ => False
theorem R0_ok : CallOk Tryz.prog tab R0 := by
  intro f args bs K h
  unfold R0 at h
  split at h
  · exact h.elim
def R0_E (pl : Nat → Plan) : En := ⟨tab, R0, fun _ => none, 0, pl⟩
theorem R0_J (pl : Nat → Plan) : JOk Tryz.prog (R0_E pl).T (R0_E pl).J := fun _ _ h => by cases h
def left (p : Pay) : Int := if p.stage = 0 then w64 (p.auth - p.capt) else 0
def gave (p : Pay) : Int := w64 (w64 (p.capt - p.refu) - p.chrg)
def rightP (p : Pay) : Bool := decide (p.auth ≥ 1) && decide (p.auth ≤ 1099511627776) && decide (p.capt ≥ 0) && decide (p.capt ≤ p.auth) && decide (p.refu ≥ 0) && decide (p.chrg ≥ 0) && decide (p.refu ≤ p.capt) && decide (p.chrg ≤ p.capt) && decide (gave p ≥ 0) && decide (p.til ≥ 0) && decide (p.til ≤ 1073741824) && (p.stage == 0 || p.stage == 1)
def leftC (args : List AV) (bs : List Box) (K : AV → List Box → Prop) : Prop := bs = [] ∧ ∃ p : Pay, args = [payA p] ∧ K (.int .i64 (left p)) []
def gaveC (args : List AV) (bs : List Box) (K : AV → List Box → Prop) : Prop := bs = [] ∧ ∃ p : Pay, args = [payA p] ∧ K (.int .i64 (gave p)) []
def rightPC (args : List AV) (bs : List Box) (K : AV → List Box → Prop) : Prop := bs = [] ∧ ∃ p : Pay, args = [payA p] ∧ K (.bool (rightP p)) []
set_option maxRecDepth 20000 in
theorem left_ok : FnOk Tryz.prog tab 35 leftC := by
  refine fn_ok (E := R0_E pl35) tab_is R0_ok (R0_J _) Tryz.func35 rfl rfl (by kernel_rfl) ?_
  rintro args bs K ⟨rfl, p, rfl, hK⟩
  refine ⟨rfl, ?_⟩
  have fin : ∀ n, n = left p → K (.int .i64 n) [] := fun n e => e ▸ hK
  constructor
  · intro h
    have h : ¬ p.stage = 0 := by simpa using h
    exact fin 0 (by simp [left, h])
  · intro h
    have h : p.stage = 0 := by simpa using h
    exact fin _ (by simp [left, h]; rfl)
set_option maxRecDepth 20000 in
theorem gave_ok : FnOk Tryz.prog tab 85 gaveC := by
  refine fn_ok (E := R0_E pl85) tab_is R0_ok (R0_J _) Tryz.func85 rfl rfl (by kernel_rfl) ?_
  rintro args bs K ⟨rfl, p, rfl, hK⟩
  exact ⟨rfl, hK⟩
def RP : Contract
  | 85 => gaveC
  | _ => fun _ _ _ => False
theorem RP_ok : CallOk Tryz.prog tab RP := by
  intro f args bs K h
  unfold RP at h
  split at h
  · exact ⟨_, h, gave_ok⟩
  · exact h.elim
def RP_E (pl : Nat → Plan) : En := ⟨tab, RP, fun _ => none, 0, pl⟩
theorem RP_J (pl : Nat → Plan) : JOk Tryz.prog (RP_E pl).T (RP_E pl).J := fun _ _ h => by cases h
set_option maxRecDepth 20000 in
set_option maxHeartbeats 1600000 in
theorem rightP_ok : FnOk Tryz.prog tab 64 rightPC := by
  refine fn_ok (E := RP_E pl64) tab_is RP_ok (RP_J _) Tryz.func64 rfl rfl (by kernel_rfl) ?_
  rintro args bs K ⟨rfl, p, rfl, hK⟩
  refine ⟨rfl, ?_⟩
  have fin : ∀ n, n = rightP p → K (.bool n) [] := fun n e => e ▸ hK
  repeat' first
    | (refine ⟨fun h => Bool.noConfusion h, fun _ => ?_⟩)
    | (refine ⟨rfl, p, rfl, ?_⟩)
    | (refine ⟨fun h => ?_, fun h => ?_⟩)
    | (refine fin _ ?_)
  all_goals first | (simp [rightP]; simp_all; done) | (simp [rightP]; simp_all; intros; omega)
/-- The number of an account, and whether it is one. -/
def ofN (n k : Int) : Int × Bool := if k < 0 ∨ k ≥ n then (0, false) else if k < 9 then (k.tmod 3, true) else (3, true)
def isCl (n k : Int) : Bool := decide (9 ≤ k) && decide (k < n)
def ofC (args : List AV) (bs : List Box) (K : AV → List Box → Prop) : Prop := bs = [] ∧ ∃ (l : List Acc) (k : Int), args = [accsA l, .int .i64 k] ∧ K (.tup [.int .i64 (ofN l.length k).1, .bool (ofN l.length k).2]) []
set_option maxRecDepth 20000 in
theorem of_ok : FnOk Tryz.prog tab 93 ofC := by
  refine fn_ok (E := R0_E pl93) tab_is R0_ok (R0_J _) Tryz.func93 rfl rfl (by kernel_rfl) ?_
  rintro args bs K ⟨rfl, l, k, rfl, hK⟩
  refine ⟨rfl, ?_⟩
  have hl : ((l.map accA).length : Int) = l.length := by simp
  have fin : ∀ n b, (n, b) = ofN l.length k → K (.tup [.int .i64 n, .bool b]) [] := fun n b e => by rw [← e] at hK; exact hK
  constructor
  · intro h
    have h : k < 0 := by simpa using h
    refine ⟨fun _ => ?_, fun h => by cases h⟩
    exact fin 0 false (by simp [ofN, h])
  · intro h
    have h : ¬ k < 0 := by simpa using h
    constructor
    · intro g
      have g : k ≥ ((l.map accA).length : Nat) := by simpa using g
      exact fin 0 false (by rw [hl] at g; simp [ofN, g])
    · intro g
      have g : ¬ k ≥ ((l.map accA).length : Nat) := by simpa using g
      rw [hl] at g
      have hn : ¬ (k < 0 ∨ k ≥ (l.length : Int)) := by omega
      constructor
      · intro q
        have q : k < 9 := by simpa using q
        refine ⟨by decide, ?_⟩
        exact fin _ true (by simp only [ofN, hn, q, if_true, if_false])
      · intro q
        have q : ¬ k < 9 := by simpa using q
        exact fin 3 true (by simp only [ofN, hn, q, if_false])
def isClC (args : List AV) (bs : List Box) (K : AV → List Box → Prop) : Prop := bs = [] ∧ ∃ (l : List Acc) (k : Int), args = [accsA l, .int .i64 k] ∧ K (.bool (isCl l.length k)) []
def RC : Contract
  | 93 => ofC
  | _ => fun _ _ _ => False
theorem RC_ok : CallOk Tryz.prog tab RC := by
  intro f args bs K h
  unfold RC at h
  split at h
  · exact ⟨_, h, of_ok⟩
  · exact h.elim
def RC_E (pl : Nat → Plan) : En := ⟨tab, RC, fun _ => none, 0, pl⟩
theorem RC_J (pl : Nat → Plan) : JOk Tryz.prog (RC_E pl).T (RC_E pl).J := fun _ _ h => by cases h
theorem is_cl (n k : Int) : isCl n k = ((ofN n k).2 && ((ofN n k).1 == 3)) := by
  unfold ofN isCl
  by_cases h1 : k < 0 ∨ k ≥ n
  · rw [if_pos h1]
    rcases h1 with h1 | h1
    · have : ¬ 9 ≤ k := by omega
      simp [this]
    · have : ¬ k < n := by omega
      simp [this]
  · rw [if_neg h1]
    by_cases h2 : k < 9
    · rw [if_pos h2]
      have h3 : ¬ 9 ≤ k := by omega
      have h4 : ¬ k.tmod 3 = 3 := by
        have := Int.tmod_lt_of_pos k (show (0 : Int) < 3 by decide)
        omega
      simp [h3, h4]
    · rw [if_neg h2]
      have h3 : 9 ≤ k := by omega
      have h4 : k < n := by omega
      simp [h3, h4]
set_option maxRecDepth 20000 in
theorem isCl_ok : FnOk Tryz.prog tab 76 isClC := by
  refine fn_ok (E := RC_E pl76) tab_is RC_ok (RC_J _) Tryz.func76 rfl rfl (by kernel_rfl) ?_
  rintro args bs K ⟨rfl, l, k, rfl, hK⟩
  refine ⟨rfl, ?_⟩
  have fin : ∀ b, b = isCl l.length k → K (.bool b) [] := fun b e => e ▸ hK
  refine ⟨rfl, l, k, rfl, ?_⟩
  constructor
  · intro h
    exact fin _ (by rw [is_cl, h]; rfl)
  · intro h
    exact fin false (by rw [is_cl, h]; rfl)
def rightS (s : Sag) : Bool := !(decide (s.leg < 0) || decide (s.leg > s.req.legs) || decide (s.tries < 0) || decide (s.tries > 4) || decide (s.req.legs < 0) || decide (s.req.legs > 4)) &&
  (if s.phase = 0 then s.why == 0 && decide (s.tries ≤ 3) && (decide (s.tries = 0) || decide (s.leg < s.req.legs)) else if s.phase = 1 then s.why != 0 else false)
def rightSC (args : List AV) (bs : List Box) (K : AV → List Box → Prop) : Prop := bs = [] ∧ ∃ s : Sag, args = [sagA s] ∧ K (.bool (rightS s)) []
set_option maxRecDepth 20000 in
set_option maxHeartbeats 1600000 in
theorem rightS_ok : FnOk Tryz.prog tab 65 rightSC := by
  refine fn_ok (E := R0_E pl65) tab_is R0_ok (R0_J _) Tryz.func65 rfl rfl (by kernel_rfl) ?_
  rintro args bs K ⟨rfl, p, rfl, hK⟩
  refine ⟨rfl, ?_⟩
  have fin : ∀ n, n = rightS p → K (.bool n) [] := fun n e => e ▸ hK
  repeat' first
    | (refine ⟨fun h => Bool.noConfusion h, fun _ => ?_⟩)
    | (refine ⟨fun _ => ?_, fun h => Bool.noConfusion h⟩)
    | (refine ⟨fun h => ?_, fun h => ?_⟩)
    | (refine fin _ ?_)
  all_goals first | (simp [rightS]; simp_all; done) | (simp [rightS]; simp_all; intros; omega) | (simp [rightS]; simp_all; omega)
end Go.Proofs.YtjffmldlkofpaaaGreatDoor.A

/- keys.Find, chart.Right, chart.Sums. -/
namespace Go.Proofs.YtjffmldlkofpaaaGreatDoor.A
open Go Q
def findK : List Kno → Int → Int → Int
  | [], _, _ => -1
  | k :: ks, key, i => if k.req.key = key then i else findK ks key (i + 1)
theorem find_at {key : Int} : ∀ {ks : List Kno} {i : Nat} {k : Kno} {o : Int}, ks[i]? = some k → k.req.key = key → (∀ (j : Nat) (q : Kno), j < i → ks[j]? = some q → ¬ q.req.key = key) → findK ks key o = o + i
  | [], i, _, _, h, _, _ => by simp at h
  | q :: qs, 0, k, o, h, hk, _ => by simp at h; subst h; simp [findK, hk]
  | q :: qs, i + 1, k, o, h, hk, hn => by
    have h0 := hn 0 q (by omega) rfl
    simp only [findK, h0, if_false]
    rw [find_at (ks := qs) (i := i) (by simpa using h) hk (fun j r hj hr => hn (j + 1) r (by omega) (by simpa using hr))]
    omega
theorem find_no {key : Int} : ∀ {ks : List Kno} {o : Int}, (∀ (j : Nat) (q : Kno), ks[j]? = some q → ¬ q.req.key = key) → findK ks key o = -1
  | [], _, _ => rfl
  | q :: qs, o, h => by
    have h0 := h 0 q rfl
    simp only [findK, h0, if_false]
    exact find_no (fun j r hr => h (j + 1) r (by simpa using hr))
def findC (args : List AV) (bs : List Box) (K : AV → List Box → Prop) : Prop := bs = [] ∧ ∃ (ks : List Kno) (key : Int), args = [knsA ks, .int .i64 key] ∧ ks.length < 4611686018427387904 ∧ K (.int .i64 (findK ks key 0)) []
set_option maxRecDepth 20000 in
theorem find_ok : FnOk Tryz.prog tab 80 findC := by
  refine fn_ok (E := R0_E pl80) tab_is R0_ok (R0_J _) Tryz.func80 rfl rfl (by kernel_rfl) ?_
  rintro args bs K ⟨rfl, ks, key, rfl, hN, hK⟩
  refine ⟨rfl, ?_⟩
  have fin : ∀ n, n = findK ks key 0 → K (.int .i64 n) [] := fun n e => e ▸ hK
  refine ⟨fun m s => ∃ (i : Nat), (i ≤ ks.length ∧ ∀ (j : Nat) (q : Kno), j < i → ks[j]? = some q → ¬ q.req.key = key) ∧ ks.length - i = m ∧ s.t 1 = .int .i64 key ∧ s.t 7 = knsA ks ∧ s.t 8 = .int .i64 ((ks.map knoA).length : Nat) ∧ s.t 9 = .int .i64 i,
    ⟨_, 0, ⟨Nat.zero_le _, fun j q h => absurd h (Nat.not_lt_zero _)⟩, rfl, rfl, rfl, rfl, rfl⟩, ?_⟩
  rintro _ ⟨t1, h1⟩ ⟨i, ⟨hi, hX⟩, rfl, e1, e7, e8, e9⟩
  have e1 : t1 1 = .int .i64 key := e1
  have e7 : t1 7 = knsA ks := e7
  have e8 : t1 8 = .int .i64 ((ks.map knoA).length : Nat) := e8
  have e9 : t1 9 = .int .i64 i := e9
  rw [← updL_has t1 [(1, .int .i64 key), (7, knsA ks), (8, .int .i64 ((ks.map knoA).length : Nat)), (9, .int .i64 i)] ⟨e1, e7, e8, e9, trivial⟩]
  constructor
  · intro hb
    have hi' : i < ks.length := by
      have : (i : Int) < ((ks.map knoA).length : Nat) := by simpa using hb
      simp at this; omega
    have w : IntKind.i64.wrap ((i : Int) + 1) = ((i + 1 : Nat) : Int) := by rw [wrap_of] <;> omega
    have hki : ks[i]? = some ks[i] := List.getElem?_eq_getElem hi'
    refine ⟨_, Int.natCast_nonneg i, map_at hi', ?_⟩
    constructor
    · intro hk
      have hk : ks[i].req.key = key := by simpa using hk
      exact fin _ (by rw [find_at hki hk hX]; omega)
    · intro hk
      have hk : ¬ ks[i].req.key = key := by simpa using hk
      refine ⟨_, (by omega : ks.length - (i + 1) < ks.length - i), i + 1, ⟨hi', ?_⟩, rfl, rfl, rfl, rfl, congrArg (AV.int .i64) w⟩
      intro j q hj hq
      by_cases h : j = i
      · subst h; rw [hki] at hq; cases hq; exact hk
      · exact hX j q (by omega) hq
  · intro hb
    have hi' : i = ks.length := by
      have : ¬ (i : Int) < ((ks.map knoA).length : Nat) := by simpa using hb
      simp at this; omega
    subst hi'
    exact fin _ (find_no (fun j q hq => hX j q (List.getElem?_eq_some_iff.1 hq).1 hq)).symm
def accOk (k : Int) (a : Acc) : Bool := !(decide (a.cur < 0) || decide (a.cur ≥ 3) || decide (a.bal > 1125899906842624) || decide (a.bal < -1125899906842624)) &&
  !(decide (k < 9) && (decide (¬ a.cur = w64 (k.tdiv 3)) || decide (¬ a.held = 0)) || decide (k ≥ 9) && (decide (a.held < 0) || decide (a.bal < a.held)))
def allI : Int → List Acc → Bool
  | _, [] => true
  | k, a :: l => accOk k a && allI (k + 1) l
def rightL (l : List Acc) : Bool := !(decide ((l.length : Int) < 9) || decide ((l.length : Int) > 64)) && allI 0 l
theorem allI_no : ∀ {l : List Acc} {i : Nat} {a : Acc} {o : Int}, l[i]? = some a → accOk (o + i) a = false → allI o l = false
  | [], i, _, _, h, _ => by simp at h
  | b :: l, 0, a, o, h, hk => by simp at h; subst h; simp at hk; simp [allI, hk]
  | b :: l, i + 1, a, o, h, hk => by
    have : allI (o + 1) l = false := allI_no (i := i) (by simpa using h) (by rw [← hk]; congr 1; omega)
    simp [allI, this]
theorem allI_yes : ∀ {l : List Acc} {o : Int}, (∀ (i : Nat) (a : Acc), l[i]? = some a → accOk (o + i) a = true) → allI o l = true
  | [], _, _ => rfl
  | b :: l, o, h => by
    have h0 := h 0 b rfl
    have h1 : allI (o + 1) l = true := allI_yes (fun i a ha => by
      have := h (i + 1) a (by simpa using ha)
      rw [← this]; congr 1; omega)
    simp at h0
    simp [allI, h0, h1]
def rightLC (args : List AV) (bs : List Box) (K : AV → List Box → Prop) : Prop := bs = [] ∧ ∃ (l : List Acc), args = [accsA l] ∧ K (.bool (rightL l)) []
set_option maxRecDepth 20000 in
set_option maxHeartbeats 1600000 in
theorem rightL_ok : FnOk Tryz.prog tab 56 rightLC := by
  refine fn_ok (E := R0_E pl56) tab_is R0_ok (R0_J _) Tryz.func56 rfl rfl (by kernel_rfl) ?_
  rintro args bs K ⟨rfl, l, rfl, hK⟩
  refine ⟨rfl, ?_⟩
  have fin : ∀ n, n = rightL l → K (.bool n) [] := fun n e => e ▸ hK
  have hl : ((l.map accA).length : Int) = l.length := by simp
  constructor
  · intro h
    have h : ((l.map accA).length : Int) < 9 := by simpa using h
    rw [hl] at h
    refine ⟨fun _ => ?_, fun h => Bool.noConfusion h⟩
    exact fin false (by simp [rightL, h])
  · intro h
    have h : ¬ ((l.map accA).length : Int) < 9 := by simpa using h
    rw [hl] at h
    constructor
    · intro g
      have g : ((l.map accA).length : Int) > 64 := by simpa using g
      rw [hl] at g
      exact fin false (by simp [rightL, g])
    · intro g
      have g : ¬ ((l.map accA).length : Int) > 64 := by simpa using g
      rw [hl] at g
      refine ⟨fun m s => ∃ (i : Nat), (i ≤ l.length ∧ ∀ (j : Nat) (a : Acc), j < i → l[j]? = some a → accOk j a = true) ∧ l.length - i = m ∧ s.t 13 = accsA l ∧ s.t 14 = .int .i64 ((l.map accA).length : Nat) ∧ s.t 15 = .int .i64 i,
        ⟨_, 0, ⟨Nat.zero_le _, fun j q h => absurd h (Nat.not_lt_zero _)⟩, rfl, rfl, rfl, rfl⟩, ?_⟩
      rintro _ ⟨t1, h1⟩ ⟨i, ⟨hi, hX⟩, rfl, e13, e14, e15⟩
      have e13 : t1 13 = accsA l := e13
      have e14 : t1 14 = .int .i64 ((l.map accA).length : Nat) := e14
      have e15 : t1 15 = .int .i64 i := e15
      rw [← updL_has t1 [(13, accsA l), (14, .int .i64 ((l.map accA).length : Nat)), (15, .int .i64 i)] ⟨e13, e14, e15, trivial⟩]
      constructor
      · intro hb
        have hi' : i < l.length := by
          have : (i : Int) < ((l.map accA).length : Nat) := by simpa using hb
          simp at this; omega
        have w : IntKind.i64.wrap ((i : Int) + 1) = ((i + 1 : Nat) : Int) := by rw [wrap_of] <;> omega
        have hki : l[i]? = some l[i] := List.getElem?_eq_getElem hi'
        have no : accOk i l[i] = false → K (.bool false) [] := fun e => fin false (by
          have := allI_no (o := 0) hki (by rw [Int.zero_add]; exact e)
          simp [rightL, this])
        have yes : accOk i l[i] = true → ∀ (j : Nat) (a : Acc), j < i + 1 → l[j]? = some a → accOk j a = true := fun e j a hj ha => by
          by_cases h : j = i
          · subst h; rw [hki] at ha; cases ha; exact e
          · exact hX j a (by omega) ha
        have hlt : l.length - (i + 1) < l.length - i := by omega
        refine ⟨_, Int.natCast_nonneg i, map_at hi', ?_⟩
        repeat' first
          | (refine ⟨(by decide : (3 : Int) ≠ 0), ?_⟩)
          | (refine ⟨fun h => Bool.noConfusion h, fun _ => ?_⟩)
          | (refine ⟨fun _ => ?_, fun h => Bool.noConfusion h⟩)
          | (refine ⟨fun h => ?_, fun h => ?_⟩)
          | (refine no ?_)
          | (refine ⟨_, hlt, i + 1, ⟨hi', yes ?_⟩, rfl, rfl, rfl, congrArg (AV.int .i64) w⟩)
          | fail
        all_goals (clear hK fin no yes hX e13 e14 e15; simp [accOk, w64]; first | (simp_all; done) | (simp_all; omega) | (simp_all; intros; omega))
      · intro hb
        have hi' : i = l.length := by
          have : ¬ (i : Int) < ((l.map accA).length : Nat) := by simpa using hb
          simp at this; omega
        subst hi'
        refine fin true ?_
        have := allI_yes (l := l) (o := 0) (fun j a ha => by rw [Int.zero_add]; exact hX j a (List.getElem?_eq_some_iff.1 ha).1 ha)
        simp [rightL, this]
        omega
end Go.Proofs.YtjffmldlkofpaaaGreatDoor.A

/- chart.Sums, chart.New. -/
namespace Go.Proofs.YtjffmldlkofpaaaGreatDoor.A
open Go Q
abbrev Tri := Int × Int × Int
def addS (t : Tri) (a : Acc) : Tri := if a.cur = 0 then (w64 (t.1 + a.bal), t.2.1, t.2.2) else if a.cur = 1 then (t.1, w64 (t.2.1 + a.bal), t.2.2) else if a.cur = 2 then (t.1, t.2.1, w64 (t.2.2 + a.bal)) else t
def sumsL (l : List Acc) : Tri := l.foldl addS (0, 0, 0)
def triA (t : Tri) : AV := .agg [.int .i64 t.1, .int .i64 t.2.1, .int .i64 t.2.2]
def triB (t : Tri) : Option Box := some (.cells 123 [.int .i64 t.1, .int .i64 t.2.1, .int .i64 t.2.2])
def sumsC (args : List AV) (bs : List Box) (K : AV → List Box → Prop) : Prop := bs = [] ∧ ∃ (l : List Acc), args = [accsA l] ∧ l.length < 4611686018427387904 ∧ K (triA (sumsL l)) []
set_option maxRecDepth 200000 in
set_option maxHeartbeats 1600000 in
theorem sums_ok : FnOk Tryz.prog tab 55 sumsC := by
  refine fn_ok (E := R0_E pl55) tab_is R0_ok (R0_J _) Tryz.func55 rfl rfl (by kernel_rfl) ?_
  rintro args bs K ⟨rfl, l, rfl, hN, hK⟩
  refine ⟨rfl, ?_⟩
  refine ⟨fun m s => ∃ (i : Nat) (t : Tri), (i ≤ l.length ∧ t = (l.take i).foldl addS (0, 0, 0)) ∧ l.length - i = m ∧ s.t 2 = .ptr 2 0 ∧ s.t 3 = .ptr 3 0 ∧ s.t 6 = accsA l ∧ s.t 7 = .int .i64 ((l.map accA).length : Nat) ∧ s.t 8 = .int .i64 i ∧ s.h 2 = triB (0, 0, 0) ∧ s.h 3 = triB t,
    ⟨_, 0, _, ⟨Nat.zero_le _, rfl⟩, rfl, rfl, rfl, rfl, rfl, rfl, (by kernel_rfl), (by kernel_rfl)⟩, ?_⟩
  rintro _ ⟨t1, h1⟩ ⟨i, t, ⟨hi, hT⟩, rfl, e2, e3, e6, e7, e8, b2, b3⟩
  obtain ⟨s0, s1, s2⟩ := t
  have e2 : t1 2 = .ptr 2 0 := e2
  have e3 : t1 3 = .ptr 3 0 := e3
  have e6 : t1 6 = accsA l := e6
  have e7 : t1 7 = .int .i64 ((l.map accA).length : Nat) := e7
  have e8 : t1 8 = .int .i64 i := e8
  have b2 : h1 2 = triB (0, 0, 0) := b2
  have b3 : h1 3 = triB (s0, s1, s2) := b3
  rw [← updL_has t1 [(2, .ptr 2 0), (3, .ptr 3 0), (6, accsA l), (7, .int .i64 ((l.map accA).length : Nat)), (8, .int .i64 i)] ⟨e2, e3, e6, e7, e8, trivial⟩, ← updL_has h1 [(2, triB (0, 0, 0)), (3, triB (s0, s1, s2))] ⟨b2, b3, trivial⟩]
  constructor
  · intro hb
    have hi' : i < l.length := by
      have : (i : Int) < ((l.map accA).length : Nat) := by simpa using hb
      simp at this; omega
    have w : IntKind.i64.wrap ((i : Int) + 1) = ((i + 1 : Nat) : Int) := by rw [wrap_of] <;> omega
    have hlt : l.length - (i + 1) < l.length - i := by omega
    obtain ⟨a, ha⟩ : ∃ a, l[i]? = some a := ⟨_, List.getElem?_eq_getElem hi'⟩
    have hst : (l.take (i + 1)).foldl addS (0, 0, 0) = addS (s0, s1, s2) a := by
      rw [List.take_add_one, List.foldl_append, ← hT, ha]; rfl
    refine ⟨_, Int.natCast_nonneg i, map_of ha, ?_⟩
    obtain ⟨cur, bal, held⟩ := a
    by_cases c0 : cur = 0
    · subst c0
      have hst : (l.take (i + 1)).foldl addS (0, 0, 0) = (w64 (s0 + bal), s1, s2) := by rw [hst]; simp [addS]
      refine ⟨fun _ => ?_, fun h => Bool.noConfusion (show true = false from h)⟩
      refine ⟨fun _ => ?_, fun h => Bool.noConfusion (show true = false from h)⟩
      repeat' first
        | (refine ⟨0, rfl, (by decide : 0 < 3), ?_⟩)
        | (refine ⟨_, hlt, i + 1, _, ⟨hi', hst.symm⟩, rfl, rfl, rfl, rfl, rfl, congrArg (AV.int .i64) w, rfl, rfl⟩)
        | (refine ⟨?_, ?_⟩)
        | fail
    · by_cases c1 : cur = 1
      · subst c1
        have hst : (l.take (i + 1)).foldl addS (0, 0, 0) = (s0, w64 (s1 + bal), s2) := by rw [hst]; simp [addS]
        refine ⟨fun _ => ?_, fun h => Bool.noConfusion (show true = false from h)⟩
        refine ⟨fun _ => ?_, fun h => Bool.noConfusion (show true = false from h)⟩
        repeat' first
          | (refine ⟨1, rfl, (by decide : 1 < 3), ?_⟩)
          | (refine ⟨_, hlt, i + 1, _, ⟨hi', hst.symm⟩, rfl, rfl, rfl, rfl, rfl, congrArg (AV.int .i64) w, rfl, rfl⟩)
          | (refine ⟨?_, ?_⟩)
          | fail
      · by_cases c2 : cur = 2
        · subst c2
          have hst : (l.take (i + 1)).foldl addS (0, 0, 0) = (s0, s1, w64 (s2 + bal)) := by rw [hst]; simp [addS]
          refine ⟨fun _ => ?_, fun h => Bool.noConfusion (show true = false from h)⟩
          refine ⟨fun _ => ?_, fun h => Bool.noConfusion (show true = false from h)⟩
          repeat' first
            | (refine ⟨2, rfl, (by decide : 2 < 3), ?_⟩)
            | (refine ⟨_, hlt, i + 1, _, ⟨hi', hst.symm⟩, rfl, rfl, rfl, rfl, rfl, congrArg (AV.int .i64) w, rfl, rfl⟩)
            | (refine ⟨?_, ?_⟩)
            | fail
        · have hst : (l.take (i + 1)).foldl addS (0, 0, 0) = (s0, s1, s2) := by rw [hst]; simp [addS, c0, c1, c2]
          have go : ∀ {P : Prop}, cur ≥ 0 → cur < 3 → P := fun h1 h2 => by omega
          constructor
          · intro h
            have h : cur ≥ 0 := by simpa using h
            constructor
            · intro g
              have g : cur < 3 := by simpa using g
              exact go h g
            · intro g
              exact ⟨_, hlt, i + 1, _, ⟨hi', hst.symm⟩, rfl, rfl, rfl, rfl, rfl, congrArg (AV.int .i64) w, rfl, rfl⟩
          · intro h
            refine ⟨fun h => Bool.noConfusion h, fun _ => ?_⟩
            exact ⟨_, hlt, i + 1, _, ⟨hi', hst.symm⟩, rfl, rfl, rfl, rfl, rfl, congrArg (AV.int .i64) w, rfl, rfl⟩
  · intro hb
    have hi' : i = l.length := by
      have : ¬ (i : Int) < ((l.map accA).length : Nat) := by simpa using hb
      simp at this; omega
    subst hi'
    rw [List.take_length] at hT
    unfold sumsL at hK
    rw [← hT] at hK
    exact hK
end Go.Proofs.YtjffmldlkofpaaaGreatDoor.A

/- chart.New. -/
namespace Go.Proofs.YtjffmldlkofpaaaGreatDoor.A
open Go Q
def newL : List Acc := [⟨0, 0, 0⟩, ⟨0, 0, 0⟩, ⟨0, 0, 0⟩, ⟨1, 0, 0⟩, ⟨1, 0, 0⟩, ⟨1, 0, 0⟩, ⟨2, 0, 0⟩, ⟨2, 0, 0⟩, ⟨2, 0, 0⟩]
def newA : Nat → AV
  | 0 => .sl .nl 0 []
  | n + 1 => .sl (.own 12000) 65 ((newL.take (n + 1)).map accA)
def newC0 (args : List AV) (bs : List Box) (K : AV → List Box → Prop) : Prop := bs = [] ∧ args = [] ∧ K (.sl (.own 12000) 65 (newL.map accA)) []
set_option maxRecDepth 200000 in
set_option maxHeartbeats 3200000 in
theorem new_ok0 : FnOk Tryz.prog tab 54 newC0 := by
  refine fn_ok (E := R0_E pl54) tab_is R0_ok (R0_J _) Tryz.func54 rfl rfl (by kernel_rfl) ?_
  rintro args bs K ⟨rfl, rfl, hK⟩
  refine ⟨rfl, ?_⟩
  refine ⟨fun m st => ∃ (i : Nat), (i ≤ 3) ∧ 3 - i = m ∧ st.t 1 = newA (3 * i) ∧ st.t 3 = .int .i64 i, ⟨_, 0, Nat.zero_le _, rfl, rfl, rfl⟩, ?_⟩
  rintro _ ⟨t1, h1⟩ ⟨i, hi, rfl, e1, e3⟩
  have e1 : t1 1 = newA (3 * i) := e1
  have e3 : t1 3 = .int .i64 i := e3
  rw [← updL_has t1 [(1, newA (3 * i)), (3, .int .i64 i)] ⟨e1, e3, trivial⟩]
  have inner : ∀ (i : Nat), i < 3 → ∃ c : Acc, c = ⟨i, 0, 0⟩ ∧ ∀ j, j < 3 → newL.take (3 * i + j + 1) = newL.take (3 * i + j) ++ [c] := by
    intro i hi
    rcases (by omega : i = 0 ∨ i = 1 ∨ i = 2) with rfl | rfl | rfl <;> refine ⟨_, rfl, fun j hj => ?_⟩ <;> rcases (by omega : j = 0 ∨ j = 1 ∨ j = 2) with rfl | rfl | rfl <;> rfl
  constructor
  · intro hb
    have hi' : i < 3 := by
      have : (i : Int) < 3 := by simpa using hb
      omega
    obtain ⟨c, rfl, hc⟩ := inner i hi'
    refine ⟨fun m st => ∃ (j : Nat), (j ≤ 3) ∧ 3 - j = m ∧ st.t 1 = newA (3 * i + j) ∧ st.t 2 = .int .i64 i ∧ st.t 3 = .int .i64 i ∧ st.t 6 = .int .i64 j, ⟨_, 0, Nat.zero_le _, rfl, rfl, rfl, rfl, rfl⟩, ?_⟩
    rintro _ ⟨t2, h2⟩ ⟨j, hj, rfl, f1, f2, f3, f6⟩
    have f1 : t2 1 = newA (3 * i + j) := f1
    have f2 : t2 2 = .int .i64 i := f2
    have f3 : t2 3 = .int .i64 i := f3
    have f6 : t2 6 = .int .i64 j := f6
    have wj : IntKind.i64.wrap ((j : Int) + 1) = ((j + 1 : Nat) : Int) := by rw [wrap_of] <;> omega
    have wi : IntKind.i64.wrap ((i : Int) + 1) = ((i + 1 : Nat) : Int) := by rw [wrap_of] <;> omega
    cases hn : 3 * i + j with
    | zero =>
      rw [hn] at f1
      have f1 : t2 1 = .sl .nl 0 [] := f1
      have hi0 : i = 0 := by omega
      have hj0 : j = 0 := by omega
      subst hi0
      subst hj0
      rw [← updL_has t2 [(1, .sl .nl 0 []), (2, .int .i64 (0 : Nat)), (3, .int .i64 (0 : Nat)), (6, .int .i64 (0 : Nat))] ⟨f1, f2, f3, f6, trivial⟩]
      refine ⟨fun _ => ?_, fun h => Bool.noConfusion (show true = false from h)⟩
      refine ⟨(by decide : 1 * 24 ≤ 140737488355328), ?_⟩
      exact ⟨_, (by decide : 2 < 3), 1, by decide, rfl, rfl, rfl, rfl, congrArg (AV.int .i64) wj⟩
    | succ n =>
      rw [hn] at f1
      have f1 : t2 1 = .sl (.own 12000) 65 ((newL.take (n + 1)).map accA) := f1
      rw [← updL_has t2 [(1, .sl (.own 12000) 65 ((newL.take (n + 1)).map accA)), (2, .int .i64 i), (3, .int .i64 i), (6, .int .i64 j)] ⟨f1, f2, f3, f6, trivial⟩]
      constructor
      · intro hb
        have hj' : j < 3 := by
          have : (j : Int) < 3 := by simpa using hb
          omega
        have hb2 : (((newL.take (n + 1)).map accA).length + 1) * 24 ≤ 140737488355328 := by
          have : (newL.take (n + 1)).length ≤ 9 := by rw [List.length_take]; exact Nat.min_le_right _ _
          rw [List.length_map]; omega
        have hcc := hc j hj'
        rw [hn] at hcc
        have hX : AV.sl (.own 12000) 65 ((newL.take (n + 1)).map accA ++ [accA ⟨i, 0, 0⟩]) = newA (3 * i + (j + 1)) := by
          rw [show 3 * i + (j + 1) = (n + 1) + 1 by omega]
          show _ = AV.sl (.own 12000) 65 ((newL.take (n + 1 + 1)).map accA)
          rw [hcc, List.map_append]; rfl
        refine ⟨hb2, ?_⟩
        exact ⟨_, (by omega : 3 - (j + 1) < 3 - j), j + 1, hj', rfl, hX, rfl, rfl, congrArg (AV.int .i64) wj⟩
      · intro hb
        have hj' : j = 3 := by
          have : ¬ (j : Int) < 3 := by simpa using hb
          omega
        refine ⟨_, (by omega : 3 - (i + 1) < 3 - i), i + 1, hi', rfl, ?_, congrArg (AV.int .i64) wi⟩
        rw [show 3 * (i + 1) = n + 1 by omega]
        rfl
  · intro hb
    have hi' : i = 3 := by
      have : ¬ (i : Int) < 3 := by simpa using hb
      omega
    subst hi'
    exact hK
end Go.Proofs.YtjffmldlkofpaaaGreatDoor.A

/- money: May, Add, Amount, Rate.right, Convert, Rates; chart: Number, Free, Clone. -/
namespace Go.Proofs.YtjffmldlkofpaaaGreatDoor.A
open Go Q
def mayB (n : Int) : Bool := decide (-1125899906842624 ≤ n) && decide (n ≤ 1125899906842624)
theorem mayB_iff {n : Int} : mayB n = true ↔ -1125899906842624 ≤ n ∧ n ≤ 1125899906842624 := by simp [mayB]
def maysC (args : List AV) (bs : List Box) (K : AV → List Box → Prop) : Prop := bs = [] ∧ ∃ n : Int, args = [.int .i64 n] ∧ K (.bool (mayB n)) []
set_option maxRecDepth 20000 in
theorem mays_ok : FnOk Tryz.prog tab 128 maysC := by
  refine fn_ok (E := R0_E pl128) tab_is R0_ok (R0_J _) Tryz.func128 rfl rfl (by kernel_rfl) ?_
  rintro args bs K ⟨rfl, n, rfl, hK⟩
  refine ⟨rfl, ?_⟩
  have fin : ∀ b, b = mayB n → K (.bool b) [] := fun b e => e ▸ hK
  constructor
  · intro h
    exact fin _ (by simp at h; simp [mayB, h])
  · intro h
    exact fin _ (by simp at h; simp [mayB]; omega)
/-- Two balances together. -/
def addM (a b : Int) : Except Int Int := if mayB a = true ∧ mayB b = true ∧ mayB (a + b) = true then .ok (a + b) else .error 4
def addMC (args : List AV) (bs : List Box) (K : AV → List Box → Prop) : Prop := bs = [] ∧ ∃ a b : Int, args = [.int .i64 a, .int .i64 b] ∧ (∀ s, addM a b = .ok s → K (.tup [.int .i64 s, .nilifc]) []) ∧ (∀ e, addM a b = .error e → K (.tup [.int .i64 0, errA e]) [])
def RM : Contract
  | 128 => maysC
  | _ => fun _ _ _ => False
theorem RM_ok : CallOk Tryz.prog tab RM := by
  intro f args bs K h
  unfold RM at h
  split at h
  · exact ⟨_, h, mays_ok⟩
  · exact h.elim
def RM_E (pl : Nat → Plan) : En := ⟨tab, RM, fun _ => none, 0, pl⟩
theorem RM_J (pl : Nat → Plan) : JOk Tryz.prog (RM_E pl).T (RM_E pl).J := fun _ _ h => by cases h
theorem addM_w {a b : Int} (ha : mayB a = true) (hb : mayB b = true) : IntKind.i64.wrap (a + b) = a + b := by
  rw [mayB_iff] at ha hb
  exact wrap_of (by omega) (by omega)
set_option maxRecDepth 20000 in
set_option maxHeartbeats 1600000 in
theorem addM_ok : FnOk Tryz.prog tab 122 addMC := by
  refine fn_ok (E := RM_E pl122) tab_is RM_ok (RM_J _) Tryz.func122 rfl rfl (by kernel_rfl) ?_
  rintro args bs K ⟨rfl, a, b, rfl, hok, her⟩
  refine ⟨rfl, ?_⟩
  have no : (¬ (mayB a = true ∧ mayB b = true ∧ mayB (a + b) = true)) → K (.tup [.int .i64 0, errA 4]) [] := fun h => her 4 (by unfold addM; rw [if_neg h])
  have yes : mayB a = true → mayB b = true → mayB (a + b) = true → K (.tup [.int .i64 (IntKind.i64.wrap (a + b)), .nilifc]) [] := fun h1 h2 h3 => by rw [addM_w h1 h2]; exact hok _ (by unfold addM; rw [if_pos ⟨h1, h2, h3⟩])
  refine ⟨rfl, a, rfl, ?_⟩
  cases ha : mayB a with
  | false =>
    rw [ha] at no
    refine ⟨fun _ => ?_, fun h => Bool.noConfusion h⟩
    refine ⟨fun _ => ?_, fun h => Bool.noConfusion h⟩
    refine ⟨fun _ => no (by simp), fun h => Bool.noConfusion h⟩
  | true =>
    refine ⟨fun h => Bool.noConfusion h, fun _ => ?_⟩
    refine ⟨rfl, b, rfl, ?_⟩
    cases hb : mayB b with
    | false =>
      rw [hb] at no
      refine ⟨fun _ => ?_, fun h => Bool.noConfusion h⟩
      refine ⟨fun _ => no (by simp), fun h => Bool.noConfusion h⟩
    | true =>
      refine ⟨fun h => Bool.noConfusion h, fun _ => ?_⟩
      refine ⟨rfl, IntKind.i64.wrap (a + b), rfl, ?_⟩
      rw [addM_w ha hb]
      cases hc : mayB (a + b) with
      | false =>
        rw [hc] at no
        refine ⟨fun _ => no (by simp), fun h => Bool.noConfusion h⟩
      | true =>
        refine ⟨fun h => Bool.noConfusion h, fun _ => ?_⟩
        exact yes ha hb hc
def amountB (n : Int) : Bool := decide (1 ≤ n) && decide (n ≤ 1099511627776)
theorem amountB_iff {n : Int} : amountB n = true ↔ 1 ≤ n ∧ n ≤ 1099511627776 := by simp [amountB]
def amtC (args : List AV) (bs : List Box) (K : AV → List Box → Prop) : Prop := bs = [] ∧ ∃ n : Int, args = [.int .i64 n] ∧ K (.bool (amountB n)) []
set_option maxRecDepth 20000 in
theorem amt_ok : FnOk Tryz.prog tab 77 amtC := by
  refine fn_ok (E := R0_E pl77) tab_is R0_ok (R0_J _) Tryz.func77 rfl rfl (by kernel_rfl) ?_
  rintro args bs K ⟨rfl, n, rfl, hK⟩
  refine ⟨rfl, ?_⟩
  have fin : ∀ b, b = amountB n → K (.bool b) [] := fun b e => e ▸ hK
  constructor
  · intro h
    exact fin _ (by simp at h; simp [amountB, h])
  · intro h
    exact fin _ (by simp at h; simp [amountB]; omega)
/-- May a rate be? -/
def rateB (p q : Int) : Bool := decide (1 ≤ p) && decide (p ≤ 1024) && decide (1 ≤ q) && decide (q ≤ 1024)
theorem rateB_iff {p q : Int} : rateB p q = true ↔ 1 ≤ p ∧ p ≤ 1024 ∧ 1 ≤ q ∧ q ≤ 1024 := by simp [rateB, and_assoc]
def rateA (p q : Int) : AV := .agg [.int .i64 p, .int .i64 q]
def rateC (args : List AV) (bs : List Box) (K : AV → List Box → Prop) : Prop := bs = [] ∧ ∃ p q : Int, args = [rateA p q] ∧ K (.bool (rateB p q)) []
set_option maxRecDepth 20000 in
theorem rate_ok : FnOk Tryz.prog tab 120 rateC := by
  refine fn_ok (E := R0_E pl120) tab_is R0_ok (R0_J _) Tryz.func120 rfl rfl (by kernel_rfl) ?_
  rintro args bs K ⟨rfl, p, q, rfl, hK⟩
  refine ⟨rfl, ?_⟩
  have fin : ∀ b, b = rateB p q → K (.bool b) [] := fun b e => e ▸ hK
  repeat' first
    | (refine ⟨fun h => Bool.noConfusion h, fun _ => ?_⟩)
    | (refine ⟨fun h => ?_, fun h => ?_⟩)
    | (refine fin _ ?_)
  all_goals (simp [rateB]; simp_all; try omega)
/-- An amount by a rate, rounded down, and what is left. -/
def convM (n p q : Int) : Except Int (Int × Int) := if amountB n = true ∧ rateB p q = true then (if (n * p).tdiv q > 1099511627776 then .error 4 else .ok ((n * p).tdiv q, (n * p).tmod q)) else .error 13
theorem mul_bound {n p : Int} (h1 : 1 ≤ n) (h2 : n ≤ 1099511627776) (h3 : 1 ≤ p) (h4 : p ≤ 1024) : 1 ≤ n * p ∧ n * p ≤ 1125899906842624 := by
  have h := Int.mul_le_mul h2 h4 (by omega) (by omega)
  have h' := Int.mul_le_mul h1 h3 (by omega) (by omega)
  omega
theorem tdiv_bound {x q : Int} (h1 : 1 ≤ x) (h2 : x ≤ 1125899906842624) (h3 : 1 ≤ q) : 0 ≤ x.tdiv q ∧ x.tdiv q ≤ 1125899906842624 := by
  rw [Int.tdiv_eq_ediv_of_nonneg (by omega)]
  exact ⟨Int.ediv_nonneg (by omega) (by omega), Int.le_trans (Int.ediv_le_self _ (by omega)) h2⟩
def convC (args : List AV) (bs : List Box) (K : AV → List Box → Prop) : Prop := bs = [] ∧ ∃ n p q : Int, args = [.int .i64 n, rateA p q] ∧ (∀ x y, convM n p q = .ok (x, y) → K (.tup [.int .i64 x, .int .i64 y, .nilifc]) []) ∧ (∀ e, convM n p q = .error e → K (.tup [.int .i64 0, .int .i64 0, errA e]) [])
def RV : Contract
  | 77 => amtC
  | 120 => rateC
  | _ => fun _ _ _ => False
theorem RV_ok : CallOk Tryz.prog tab RV := by
  intro f args bs K h
  unfold RV at h
  split at h
  · exact ⟨_, h, amt_ok⟩
  · exact ⟨_, h, rate_ok⟩
  · exact h.elim
def RV_E (pl : Nat → Plan) : En := ⟨tab, RV, fun _ => none, 0, pl⟩
theorem RV_J (pl : Nat → Plan) : JOk Tryz.prog (RV_E pl).T (RV_E pl).J := fun _ _ h => by cases h
set_option maxRecDepth 20000 in
set_option maxHeartbeats 1600000 in
theorem conv_ok : FnOk Tryz.prog tab 107 convC := by
  refine fn_ok (E := RV_E pl107) tab_is RV_ok (RV_J _) Tryz.func107 rfl rfl (by kernel_rfl) ?_
  rintro args bs K ⟨rfl, n, p, q, rfl, hok, her⟩
  refine ⟨rfl, ?_⟩
  have no : ¬ (amountB n = true ∧ rateB p q = true) → K (.tup [.int .i64 0, .int .i64 0, errA 13]) [] := fun h => her 13 (by unfold convM; rw [if_neg h])
  refine ⟨rfl, n, rfl, ?_⟩
  cases ha : amountB n with
  | false =>
    rw [ha] at no
    refine ⟨fun _ => ?_, fun h => Bool.noConfusion h⟩
    refine ⟨fun _ => no (by simp), fun h => Bool.noConfusion h⟩
  | true =>
    refine ⟨fun h => Bool.noConfusion h, fun _ => ?_⟩
    refine ⟨rfl, p, q, rfl, ?_⟩
    cases hb : rateB p q with
    | false =>
      rw [hb] at no
      refine ⟨fun _ => no (by simp), fun h => Bool.noConfusion h⟩
    | true =>
      refine ⟨fun h => Bool.noConfusion h, fun _ => ?_⟩
      obtain ⟨a1, a2⟩ := amountB_iff.1 ha
      obtain ⟨b1, b2, b3, b4⟩ := rateB_iff.1 hb
      obtain ⟨m1, m2⟩ := mul_bound a1 a2 b1 b2
      obtain ⟨d1, d2⟩ := tdiv_bound m1 m2 b3
      have w : IntKind.i64.wrap (n * p) = n * p := wrap_of (by omega) (by omega)
      have w2 : IntKind.i64.wrap ((n * p).tdiv q) = (n * p).tdiv q := wrap_of (by omega) (by omega)
      have hq : q ≠ 0 := by omega
      refine ⟨hq, ?_⟩
      constructor
      · intro h
        have h : IntKind.i64.wrap ((IntKind.i64.wrap (n * p)).tdiv q) > 1099511627776 := by simpa using h
        rw [w, w2] at h
        exact her 4 (by unfold convM; rw [if_pos ⟨ha, hb⟩, if_pos h])
      · intro h
        have h : ¬ IntKind.i64.wrap ((IntKind.i64.wrap (n * p)).tdiv q) > 1099511627776 := by simpa using h
        rw [w, w2] at h
        have hend : K (.tup [.int .i64 (IntKind.i64.wrap ((IntKind.i64.wrap (n * p)).tdiv q)), .int .i64 ((IntKind.i64.wrap (n * p)).tmod q), .nilifc]) [] := by
          rw [w, w2]
          exact hok _ _ (by unfold convM; rw [if_pos ⟨ha, hb⟩, if_neg h])
        repeat' first
          | exact hend
          | (refine ⟨hq, ?_⟩)
          | (refine And.intro ?_ ?_)
          | fail
def rateN (a b : Int) : Int × Int := if a = 0 then (if b = 0 then (1, 1) else if b = 1 then (9, 10) else (150, 1)) else if a = 1 then (if b = 0 then (11, 10) else if b = 1 then (1, 1) else (160, 1)) else (if b = 0 then (1, 151) else if b = 1 then (1, 161) else (1, 1))
def ratesA : AV := .agg ([1, 1, 9, 10, 150, 1, 11, 10, 1, 1, 160, 1, 1, 151, 1, 161, 1, 1].map (AV.int .i64))
def ratesC (args : List AV) (bs : List Box) (K : AV → List Box → Prop) : Prop := bs = [] ∧ args = [] ∧ K ratesA []
set_option maxRecDepth 200000 in
theorem rates_ok : FnOk Tryz.prog tab 108 ratesC := by
  refine fn_ok (E := R0_E pl108) tab_is R0_ok (R0_J _) Tryz.func108 rfl rfl (by kernel_rfl) ?_
  rintro args bs K ⟨rfl, rfl, hK⟩
  exact ⟨rfl, hK⟩
/-- The house's account of a kind, and a currency. -/
def numK (k c : Int) : Int := if k < 0 ∨ k > 2 ∨ c < 0 ∨ c ≥ 3 then -1 else 3 * c + k
def numKC (args : List AV) (bs : List Box) (K : AV → List Box → Prop) : Prop := bs = [] ∧ ∃ k c : Int, args = [.int .i64 k, .int .i64 c] ∧ K (.int .i64 (numK k c)) []
set_option maxRecDepth 20000 in
theorem numK_ok : FnOk Tryz.prog tab 106 numKC := by
  refine fn_ok (E := R0_E pl106) tab_is R0_ok (R0_J _) Tryz.func106 rfl rfl (by kernel_rfl) ?_
  rintro args bs K ⟨rfl, k, c, rfl, hK⟩
  refine ⟨rfl, ?_⟩
  have fin : ∀ b, b = numK k c → K (.int .i64 b) [] := fun b e => e ▸ hK
  have no : (k < 0 ∨ k > 2 ∨ c < 0 ∨ c ≥ 3) → K (.int .i64 (-1)) [] := fun h => fin _ (by unfold numK; rw [if_pos h])
  have yes : ¬ (k < 0 ∨ k > 2 ∨ c < 0 ∨ c ≥ 3) → K (.int .i64 (IntKind.i64.wrap (IntKind.i64.wrap (3 * c) + k))) [] := fun h => fin _ (by
    unfold numK; rw [if_neg h]
    have e1 : IntKind.i64.wrap (3 * c) = 3 * c := wrap_of (by omega) (by omega)
    rw [e1]
    exact wrap_of (by omega) (by omega))
  clear hK fin
  repeat' first
    | (refine ⟨fun h => Bool.noConfusion h, fun _ => ?_⟩)
    | (refine ⟨fun _ => ?_, fun h => Bool.noConfusion h⟩)
    | (refine ⟨fun h => ?_, fun h => ?_⟩)
    | (refine no ?_)
    | (refine yes ?_)
  all_goals (simp_all; try omega)
def freeN (a : Acc) : Int := w64 (a.bal - a.held)
def freeC (args : List AV) (bs : List Box) (K : AV → List Box → Prop) : Prop := bs = [] ∧ ∃ a : Acc, args = [accA a] ∧ K (.int .i64 (freeN a)) []
set_option maxRecDepth 20000 in
theorem free_ok : FnOk Tryz.prog tab 78 freeC := by
  refine fn_ok (E := R0_E pl78) tab_is R0_ok (R0_J _) Tryz.func78 rfl rfl (by kernel_rfl) ?_
  rintro args bs K ⟨rfl, p, rfl, hK⟩
  exact ⟨rfl, hK⟩
abbrev accsO (F : Nat) (l : List Acc) : AV := .sl (.own F) 65 (l.map accA)
def cloneC (args : List AV) (bs : List Box) (K : AV → List Box → Prop) : Prop := bs = [] ∧ ∃ l : List Acc, args = [accsA l] ∧ l.length ≤ 1000000 ∧ K (accsO 4000 l) []
set_option maxRecDepth 20000 in
theorem clone_ok : FnOk Tryz.prog tab 79 cloneC := by
  refine fn_ok (E := R0_E pl79) tab_is R0_ok (R0_J _) Tryz.func79 rfl rfl (by kernel_rfl) ?_
  rintro args bs K ⟨rfl, l, rfl, hl, hK⟩
  exact ⟨rfl, (by simp; omega : (l.map accA).length * 24 ≤ 140737488355328), hK⟩
end Go.Proofs.YtjffmldlkofpaaaGreatDoor.A

/- entry: Balanced, Back, Move. -/
namespace Go.Proofs.YtjffmldlkofpaaaGreatDoor.Q
structure Ent where
  (acct amt : Int)
end Go.Proofs.YtjffmldlkofpaaaGreatDoor.Q
namespace Go.Proofs.YtjffmldlkofpaaaGreatDoor.A
open Go Q
def entA (e : Ent) : AV := .agg [.int .i64 e.acct, .int .i64 e.amt]
abbrev entsS (g : Tag) (l : List Ent) : AV := .sl g 180 (l.map entA)
abbrev entsA (l : List Ent) : AV := entsS .fz l
theorem drop_at {α : Type} {l : List α} {i : Nat} {x : α} (h : l[i]? = some x) : l.drop i = x :: l.drop (i + 1) := by
  obtain ⟨hi, rfl⟩ := List.getElem?_eq_some_iff.1 h
  exact List.drop_eq_getElem_cons hi
/-- One entry more in the sums. -/
def balStep (al : List Acc) (t : Tri) (e : Ent) : Option Tri :=
  if (ofN al.length e.acct).2 = false ∨ mayB e.amt = false then none else
  match al[e.acct.toNat]? with
  | none => none
  | some a => if a.cur = 0 then (match addM t.1 e.amt with | .ok s => some (s, t.2.1, t.2.2) | .error _ => none)
    else if a.cur = 1 then (match addM t.2.1 e.amt with | .ok s => some (t.1, s, t.2.2) | .error _ => none)
    else if a.cur = 2 then (match addM t.2.2 e.amt with | .ok s => some (t.1, t.2.1, s) | .error _ => none) else none
def balGo (al : List Acc) : Tri → List Ent → Option Tri
  | t, [] => some t
  | t, e :: es => match balStep al t e with
    | some t' => balGo al t' es
    | none => none
def balM (al : List Acc) (es : List Ent) : Bool := match balGo al (0, 0, 0) es with
  | some t => (t.1 == 0) && ((t.2.1 == 0) && (t.2.2 == 0))
  | none => false
theorem balGo_cons (al : List Acc) (t : Tri) (e : Ent) (es : List Ent) : balGo al t (e :: es) = (match balStep al t e with
    | some t' => balGo al t' es
    | none => none) := rfl
def balC (args : List AV) (bs : List Box) (K : AV → List Box → Prop) : Prop := bs = [] ∧ ∃ (al : List Acc) (es : List Ent), args = [accsA al, entsA es] ∧ al.length ≤ 1000000 ∧ es.length ≤ 1000000 ∧ K (.bool (balM al es)) []
def RB : Contract
  | 93 => ofC
  | 128 => maysC
  | 122 => addMC
  | _ => fun _ _ _ => False
theorem RB_ok : CallOk Tryz.prog tab RB := by
  intro f args bs K h
  unfold RB at h
  split at h
  · exact ⟨_, h, of_ok⟩
  · exact ⟨_, h, mays_ok⟩
  · exact ⟨_, h, addM_ok⟩
  · exact h.elim
def RB_E (pl : Nat → Plan) : En := ⟨tab, RB, fun _ => none, 0, pl⟩
theorem RB_J (pl : Nat → Plan) : JOk Tryz.prog (RB_E pl).T (RB_E pl).J := fun _ _ h => by cases h
theorem of_true {n : Nat} {k : Int} (h : (ofN n k).2 = true) : 0 ≤ k ∧ k < n := by
  unfold ofN at h
  split at h
  · cases h
  · omega
set_option maxRecDepth 200000 in
set_option maxHeartbeats 3200000 in
theorem bal_ok : FnOk Tryz.prog tab 121 balC := by
  refine fn_ok (E := RB_E pl121) tab_is RB_ok (RB_J _) Tryz.func121 rfl rfl (by kernel_rfl) ?_
  rintro args bs K ⟨rfl, al, es, rfl, hla, hle, hK⟩
  refine ⟨rfl, ?_⟩
  refine ⟨fun mm st => ∃ (i : Nat) (t : Tri), (i ≤ es.length ∧ balGo al (0, 0, 0) es = balGo al t (es.drop i)) ∧ es.length - i = mm ∧ st.t 0 = accsA al ∧ st.t 13 = entsA es ∧ st.t 14 = .int .i64 ((es.map entA).length : Nat) ∧ st.t 15 = .int .i64 i ∧ st.t 5 = .ptr 5 0 ∧ st.h 5 = triB t,
    ⟨_, 0, (0, 0, 0), ⟨Nat.zero_le _, rfl⟩, rfl, rfl, rfl, rfl, rfl, rfl, (by kernel_rfl)⟩, ?_⟩
  rintro _ ⟨t1, h1⟩ ⟨i, t, ⟨hi, hT⟩, rfl, e0, e13, e14, e15, e5, b5⟩
  have e0 : t1 0 = accsA al := e0
  have e13 : t1 13 = entsA es := e13
  have e14 : t1 14 = .int .i64 ((es.map entA).length : Nat) := e14
  have e15 : t1 15 = .int .i64 i := e15
  have e5 : t1 5 = .ptr 5 0 := e5
  have b5 : h1 5 = triB t := b5
  rw [← updL_has t1 [(0, accsA al), (13, entsA es), (14, .int .i64 ((es.map entA).length : Nat)), (15, .int .i64 i), (5, .ptr 5 0)] ⟨e0, e13, e14, e15, e5, trivial⟩, ← updL_has h1 [(5, triB t)] ⟨b5, trivial⟩]
  obtain ⟨s0, s1, s2⟩ := t
  constructor
  · intro hb
    have hi' : i < es.length := by
      have : (i : Int) < ((es.map entA).length : Nat) := by simpa using hb
      simp at this; omega
    have w : IntKind.i64.wrap ((i : Int) + 1) = ((i + 1 : Nat) : Int) := by rw [wrap_of] <;> omega
    have hlt : es.length - (i + 1) < es.length - i := by omega
    obtain ⟨e, hx⟩ : ∃ x, es[i]? = some x := ⟨_, List.getElem?_eq_getElem hi'⟩
    have hm := List.mem_of_getElem? hx
    have hdr := drop_at hx
    rw [hdr, balGo_cons] at hT
    have no : balStep al (s0, s1, s2) e = none → K (.bool false) [] := fun h => by
      rw [h] at hT
      have : balM al es = false := by unfold balM; rw [hT]
      rw [this] at hK; exact hK
    refine ⟨_, Int.natCast_nonneg i, map_of hx, ?_⟩
    refine ⟨rfl, al, e.acct, rfl, ?_⟩
    cases ho : (ofN al.length e.acct).2 with
    | false =>
      have no := no (by unfold balStep; rw [if_pos (.inl ho)])
      refine ⟨fun _ => ?_, fun h => Bool.noConfusion (show true = false from h)⟩
      exact ⟨fun _ => no, fun h => Bool.noConfusion (show true = false from h)⟩
    | true =>
      refine ⟨fun h => Bool.noConfusion (show false = true from h), fun _ => ?_⟩
      refine ⟨rfl, e.amt, rfl, ?_⟩
      cases hmy : mayB e.amt with
      | false =>
        have no := no (by unfold balStep; rw [if_pos (.inr hmy)])
        exact ⟨fun _ => no, fun h => Bool.noConfusion (show true = false from h)⟩
      | true =>
        refine ⟨fun h => Bool.noConfusion (show false = true from h), fun _ => ?_⟩
        obtain ⟨k0, k1⟩ := of_true ho
        obtain ⟨a, ha⟩ : ∃ a, al[e.acct.toNat]? = some a := ⟨_, List.getElem?_eq_getElem (by omega)⟩
        have hst : balStep al (s0, s1, s2) e = (if a.cur = 0 then (match addM s0 e.amt with | .ok s => some (s, s1, s2) | .error _ => none)
            else if a.cur = 1 then (match addM s1 e.amt with | .ok s => some (s0, s, s2) | .error _ => none)
            else if a.cur = 2 then (match addM s2 e.amt with | .ok s => some (s0, s1, s) | .error _ => none) else none) := by
          unfold balStep; rw [if_neg (by simp [ho, hmy]), ha]
        refine ⟨_, k0, map_of ha, ?_⟩
        obtain ⟨cur, bal, held⟩ := a
        by_cases c0 : cur = 0
        · subst c0
          rw [if_pos rfl] at hst
          refine ⟨fun h => Bool.noConfusion (show false = true from h), fun _ => ?_⟩
          refine ⟨fun h => Bool.noConfusion (show false = true from h), fun _ => ?_⟩
          repeat' first
            | (refine ⟨0, rfl, (by decide : 0 < 3), ?_⟩)
            | (refine ⟨rfl, s0, e.amt, rfl, fun s hs => ?_, fun x hx2 => ?_⟩)
            | (refine ⟨fun h => Bool.noConfusion (show false = true from h), fun _ => ?_⟩)
            | (refine ⟨fun _ => ?_, fun h => Bool.noConfusion (show true = false from h)⟩)
            | exact no (by rw [hst, hx2])
            | (rw [hst, hs] at hT; exact ⟨_, hlt, i + 1, _, ⟨hi', hT⟩, rfl, rfl, rfl, rfl, congrArg (AV.int .i64) w, rfl, rfl⟩)
            | (refine And.intro ?_ ?_)
            | fail
        · rw [if_neg c0] at hst
          by_cases c1 : cur = 1
          · subst c1
            rw [if_pos rfl] at hst
            refine ⟨fun h => Bool.noConfusion (show false = true from h), fun _ => ?_⟩
            refine ⟨fun h => Bool.noConfusion (show false = true from h), fun _ => ?_⟩
            repeat' first
              | (refine ⟨1, rfl, (by decide : 1 < 3), ?_⟩)
              | (refine ⟨rfl, s1, e.amt, rfl, fun s hs => ?_, fun x hx2 => ?_⟩)
              | (refine ⟨fun h => Bool.noConfusion (show false = true from h), fun _ => ?_⟩)
              | (refine ⟨fun _ => ?_, fun h => Bool.noConfusion (show true = false from h)⟩)
              | exact no (by rw [hst, hx2])
              | (rw [hst, hs] at hT; exact ⟨_, hlt, i + 1, _, ⟨hi', hT⟩, rfl, rfl, rfl, rfl, congrArg (AV.int .i64) w, rfl, rfl⟩)
              | (refine And.intro ?_ ?_)
              | fail
          · rw [if_neg c1] at hst
            by_cases c2 : cur = 2
            · subst c2
              rw [if_pos rfl] at hst
              refine ⟨fun h => Bool.noConfusion (show false = true from h), fun _ => ?_⟩
              refine ⟨fun h => Bool.noConfusion (show false = true from h), fun _ => ?_⟩
              repeat' first
                | (refine ⟨2, rfl, (by decide : 2 < 3), ?_⟩)
                | (refine ⟨rfl, s2, e.amt, rfl, fun s hs => ?_, fun x hx2 => ?_⟩)
                | (refine ⟨fun h => Bool.noConfusion (show false = true from h), fun _ => ?_⟩)
                | (refine ⟨fun _ => ?_, fun h => Bool.noConfusion (show true = false from h)⟩)
                | exact no (by rw [hst, hx2])
                | (rw [hst, hs] at hT; exact ⟨_, hlt, i + 1, _, ⟨hi', hT⟩, rfl, rfl, rfl, rfl, congrArg (AV.int .i64) w, rfl, rfl⟩)
                | (refine And.intro ?_ ?_)
                | fail
            · rw [if_neg c2] at hst
              have no := no hst
              have bad : ¬ (cur ≥ 0 ∧ cur < 3) := by omega
              refine ⟨fun h => ?_, fun h => ?_⟩
              · exact ⟨fun _ => no, fun h => Bool.noConfusion (show true = false from h)⟩
              · refine ⟨fun _ => no, fun h2 => ?_⟩
                exact absurd ⟨by simpa using h, by simpa using h2⟩ bad
  · intro hb
    have hi' : i = es.length := by
      have : ¬ (i : Int) < ((es.map entA).length : Nat) := by simpa using hb
      simp at this; omega
    subst hi'
    rw [List.drop_length] at hT
    have hT : balGo al (0, 0, 0) es = some (s0, s1, s2) := hT
    have fin : ∀ b, b = balM al es → K (.bool b) [] := fun b e => e ▸ hK
    refine fin _ ?_
    unfold balM
    rw [hT]
    simp
/-- Entries the other way round. -/
def negE (e : Ent) : Ent := ⟨e.acct, w64 (0 - e.amt)⟩
def backM (es : List Ent) : List Ent := es.reverse.map negE
def entsN (F : Nat) : List Ent → AV
  | [] => .sl .nl 0 []
  | l => entsS (.own F) l
theorem entsN_cons (F : Nat) (e : Ent) (l : List Ent) : entsN F (e :: l) = entsS (.own F) (e :: l) := rfl
def backC (args : List AV) (bs : List Box) (K : AV → List Box → Prop) : Prop := bs = [] ∧ ∃ es : List Ent, args = [entsA es] ∧ es.length ≤ 1000000 ∧ K (entsN 26000 (backM es)) []
theorem ents_snoc (F : Nat) (l : List Ent) (x : Ent) : AV.sl (.own F) 180 (l.map entA ++ [entA x]) = entsN F (l ++ [x]) := by
  cases l <;> simp [entsN]
theorem backM_len (es : List Ent) : (backM es).length = es.length := by simp [backM]
theorem backM_at {es : List Ent} {j : Nat} {x : Ent} (hj : j < es.length) (hx : es[es.length - 1 - j]? = some x) : (backM es).take (j + 1) = (backM es).take j ++ [negE x] := by
  rw [List.take_add_one]
  have : (backM es)[j]? = some (negE x) := by
    unfold backM
    rw [List.getElem?_map, List.getElem?_reverse hj, hx]; rfl
  rw [this]; rfl
set_option maxRecDepth 200000 in
set_option maxHeartbeats 1600000 in
theorem back_ok : FnOk Tryz.prog tab 127 backC := by
  refine fn_ok (E := R0_E pl127) tab_is R0_ok (R0_J _) Tryz.func127 rfl rfl (by kernel_rfl) ?_
  rintro args bs K ⟨rfl, es, rfl, hle, hK⟩
  refine ⟨rfl, ?_⟩
  have w0 : IntKind.i64.wrap (((es.map entA).length : Nat) - 1 : Int) = (es.length : Int) - 1 := by rw [List.length_map, wrap_of] <;> omega
  refine ⟨fun mm st => ∃ (j : Nat) (k : Int) (L : List Ent), (j ≤ es.length ∧ k = (es.length : Int) - 1 - j ∧ L = (backM es).take j) ∧ es.length - j = mm ∧ st.t 0 = entsA es ∧ st.t 4 = .int .i64 k ∧ st.t 3 = entsN 26000 L,
    ⟨_, 0, (es.length : Int) - 1, [], ⟨Nat.zero_le _, by omega, rfl⟩, rfl, rfl, congrArg (AV.int .i64) w0, rfl⟩, ?_⟩
  rintro _ ⟨t1, h1⟩ ⟨j, k, L, ⟨hj, hk, hL⟩, rfl, e0, e4, e3⟩
  have e0 : t1 0 = entsA es := e0
  have e4 : t1 4 = .int .i64 k := e4
  have e3 : t1 3 = entsN 26000 L := e3
  rw [← updL_has t1 [(0, entsA es), (4, .int .i64 k), (3, entsN 26000 L)] ⟨e0, e4, e3, trivial⟩]
  have w : IntKind.i64.wrap (k - 1) = k - 1 := by rw [wrap_of] <;> omega
  have hLl : L.length = j := by rw [hL, List.length_take, backM_len]; omega
  cases L with
  | nil =>
    have bd : 1 * 16 ≤ 140737488355328 := by decide
    constructor
    · intro hb
      have hb : k ≥ 0 := by simpa using hb
      have hlt : es.length - (j + 1) < es.length - j := by omega
      have hkn : k.toNat = es.length - 1 - j := by omega
      obtain ⟨x, hx⟩ : ∃ x, es[es.length - 1 - j]? = some x := ⟨_, List.getElem?_eq_getElem (by omega)⟩
      have hnx := backM_at (by omega) hx
      rw [← hkn] at hx
      rw [← hL] at hnx
      repeat' first
        | (refine ⟨_, hb, map_of hx, ?_⟩)
        | (refine ⟨bd, ?_⟩)
        | (refine ⟨_, hlt, j + 1, k - 1, _, ⟨by omega, by omega, hnx.symm⟩, rfl, rfl, congrArg (AV.int .i64) w, ents_snoc 26000 [] (negE x)⟩)
        | (refine And.intro ?_ ?_)
        | fail
    · intro hb
      have hb : ¬ k ≥ 0 := by simpa using hb
      have hjn : j = es.length := by omega
      rw [hjn, ← backM_len es, List.take_length] at hL
      rw [← hL] at hK
      exact hK
  | cons e1 L =>
    have bd : (((e1 :: L).map entA).length + 1) * 16 ≤ 140737488355328 := by
      rw [List.length_map]; omega
    constructor
    · intro hb
      have hb : k ≥ 0 := by simpa using hb
      have hlt : es.length - (j + 1) < es.length - j := by omega
      have hkn : k.toNat = es.length - 1 - j := by omega
      obtain ⟨x, hx⟩ : ∃ x, es[es.length - 1 - j]? = some x := ⟨_, List.getElem?_eq_getElem (by omega)⟩
      have hnx := backM_at (by omega) hx
      rw [← hkn] at hx
      rw [← hL] at hnx
      repeat' first
        | (refine ⟨_, hb, map_of hx, ?_⟩)
        | (refine ⟨bd, ?_⟩)
        | (refine ⟨_, hlt, j + 1, k - 1, _, ⟨by omega, by omega, hnx.symm⟩, rfl, rfl, congrArg (AV.int .i64) w, ents_snoc 26000 (e1 :: L) (negE x)⟩)
        | (refine And.intro ?_ ?_)
        | fail
    · intro hb
      have hb : ¬ k ≥ 0 := by simpa using hb
      have hjn : j = es.length := by omega
      rw [hjn, ← backM_len es, List.take_length] at hL
      rw [← hL] at hK
      exact hK
end Go.Proofs.YtjffmldlkofpaaaGreatDoor.A

/- entry.Move. -/
namespace Go.Proofs.YtjffmldlkofpaaaGreatDoor.A
open Go Q
/-- The entries by which an amount goes from one account to another one. -/
def moveM (al : List Acc) (from' to' n : Int) : Except Int (List Ent) :=
  if (ofN al.length from').2 = false ∨ (ofN al.length to').2 = false then .error 2
  else if from' = to' ∨ amountB n = false then .error 1
  else match al[from'.toNat]?, al[to'.toNat]? with
  | some a, some b =>
    if a.cur = b.cur then .ok [⟨from', -n⟩, ⟨to', n⟩]
    else if numK 1 a.cur < 0 ∨ numK 1 b.cur < 0 then .error 2
    else match convM n (rateN a.cur b.cur).1 (rateN a.cur b.cur).2 with
    | .error e => .error e
    | .ok g => if g.1 = 0 then .error 1 else .ok [⟨from', -n⟩, ⟨numK 1 a.cur, n⟩, ⟨numK 1 b.cur, -g.1⟩, ⟨to', g.1⟩]
  | _, _ => .error 0
def moveC0 (args : List AV) (bs : List Box) (K : AV → List Box → Prop) : Prop := bs = [] ∧ ∃ (al : List Acc) (x y n : Int), args = [accsA al, .int .i64 x, .int .i64 y, .int .i64 n] ∧
  (∀ es, moveM al x y n = .ok es → K (.tup [entsS (.own 68000) es, .nilifc]) [] ∧ K (.tup [entsS (.own 113000) es, .nilifc]) []) ∧ (∀ e, moveM al x y n = .error e → K (.tup [.sl .nl 0 [], errA e]) [])
def moveC (args : List AV) (bs : List Box) (K : AV → List Box → Prop) : Prop := bs = [] ∧ ∃ (al : List Acc) (x y n : Int), args = [accsA al, .int .i64 x, .int .i64 y, .int .i64 n] ∧
  (∀ es, moveM al x y n = .ok es → K (.tup [entsA es, .nilifc]) []) ∧ (∀ e, moveM al x y n = .error e → K (.tup [.sl .nl 0 [], errA e]) [])
theorem cur_cases {a : Acc} (h : ¬ numK 1 a.cur < 0) : a.cur = 0 ∨ a.cur = 1 ∨ a.cur = 2 := by
  unfold numK at h
  split at h <;> omega
theorem conv_le {n p q x y : Int} (h : convM n p q = .ok (x, y)) : 0 ≤ x ∧ x ≤ 1099511627776 := by
  unfold convM at h
  split at h
  · rename_i hab
    split at h
    · cases h
    · obtain ⟨a1, a2⟩ := amountB_iff.1 hab.1
      obtain ⟨b1, b2, b3, b4⟩ := rateB_iff.1 hab.2
      obtain ⟨m1, m2⟩ := mul_bound a1 a2 b1 b2
      obtain ⟨d1, d2⟩ := tdiv_bound m1 m2 b3
      simp only [Except.ok.injEq, Prod.mk.injEq] at h
      omega
  · cases h
def RMv : Contract
  | 93 => ofC
  | 77 => amtC
  | 106 => numKC
  | 108 => ratesC
  | 107 => convC
  | _ => fun _ _ _ => False
theorem RMv_ok : CallOk Tryz.prog tab RMv := by
  intro f args bs K h
  unfold RMv at h
  split at h
  · exact ⟨_, h, of_ok⟩
  · exact ⟨_, h, amt_ok⟩
  · exact ⟨_, h, numK_ok⟩
  · exact ⟨_, h, rates_ok⟩
  · exact ⟨_, h, conv_ok⟩
  · exact h.elim
def RMv_E (pl : Nat → Plan) : En := ⟨tab, RMv, fun _ => none, 0, pl⟩
theorem RMv_J (pl : Nat → Plan) : JOk Tryz.prog (RMv_E pl).T (RMv_E pl).J := fun _ _ h => by cases h
set_option maxRecDepth 200000 in
set_option maxHeartbeats 6400000 in
theorem move_ok0 : FnOk Tryz.prog tab 87 moveC0 := by
  refine fn_ok (E := RMv_E pl87) tab_is RMv_ok (RMv_J _) Tryz.func87 rfl rfl (by kernel_rfl) ?_
  rintro args bs K ⟨rfl, al, x, y, n, rfl, hok, her⟩
  refine ⟨rfl, ?_⟩
  refine ⟨rfl, al, x, rfl, ?_⟩
  cases hx : (ofN al.length x).2 with
  | false =>
    have no := her 2 (by unfold moveM; rw [if_pos (.inl hx)])
    exact ⟨fun _ => no, fun h => Bool.noConfusion (show true = false from h)⟩
  | true =>
    refine ⟨fun h => Bool.noConfusion (show false = true from h), fun _ => ?_⟩
    refine ⟨rfl, al, y, rfl, ?_⟩
    cases hy : (ofN al.length y).2 with
    | false =>
      have no := her 2 (by unfold moveM; rw [if_pos (.inr hy)])
      exact ⟨fun _ => no, fun h => Bool.noConfusion (show true = false from h)⟩
    | true =>
      refine ⟨fun h => Bool.noConfusion (show false = true from h), fun _ => ?_⟩
      obtain ⟨x0, x1⟩ := of_true hx
      obtain ⟨y0, y1⟩ := of_true hy
      obtain ⟨a, ha⟩ : ∃ a, al[x.toNat]? = some a := ⟨_, List.getElem?_eq_getElem (by omega)⟩
      obtain ⟨b, hb⟩ : ∃ b, al[y.toNat]? = some b := ⟨_, List.getElem?_eq_getElem (by omega)⟩
      have step1 : moveM al x y n = (if x = y ∨ amountB n = false then .error 1
          else if a.cur = b.cur then .ok [⟨x, -n⟩, ⟨y, n⟩]
          else if numK 1 a.cur < 0 ∨ numK 1 b.cur < 0 then .error 2
          else match convM n (rateN a.cur b.cur).1 (rateN a.cur b.cur).2 with
          | .error e => .error e
          | .ok g => if g.1 = 0 then .error 1 else .ok [⟨x, -n⟩, ⟨numK 1 a.cur, n⟩, ⟨numK 1 b.cur, -g.1⟩, ⟨y, g.1⟩]) := by
        unfold moveM; rw [if_neg (by simp [hx, hy]), ha, hb]
      rw [step1] at hok her
      have bad : (x = y ∨ amountB n = false) → K (.tup [.sl .nl 0 [], errA 1]) [] := fun h => her 1 (by rw [if_pos h])
      refine ⟨fun hxy => ?_, fun hxy => ?_⟩
      · have hxy : x = y := by simpa using hxy
        exact ⟨fun _ => bad (.inl hxy), fun h => Bool.noConfusion (show true = false from h)⟩
      · have hxy : ¬ x = y := by simpa using hxy
        refine ⟨rfl, n, rfl, ?_⟩
        cases hn : amountB n with
        | false => exact ⟨fun _ => bad (.inr hn), fun h => Bool.noConfusion (show true = false from h)⟩
        | true =>
          refine ⟨fun h => Bool.noConfusion (show false = true from h), fun _ => ?_⟩
          rw [if_neg (by simp [hxy, hn])] at hok her
          clear bad step1
          obtain ⟨n1, n2⟩ := amountB_iff.1 hn
          have wn : IntKind.i64.wrap (0 - n) = -n := by rw [wrap_of] <;> omega
          obtain ⟨cur, bal, held⟩ := a
          obtain ⟨cur', bal', held'⟩ := b
          simp only at hok her
          refine ⟨_, x0, map_of ha, ?_⟩
          refine ⟨_, y0, map_of hb, ?_⟩
          refine ⟨fun h => ?_, fun h => ?_⟩
          · have hc : cur = cur' := by simpa using h
            rw [if_pos hc] at hok
            have hend := (hok _ rfl).1
            rw [← wn] at hend
            exact hend
          · have hc : ¬ cur = cur' := by simpa using h
            rw [if_neg hc] at hok her
            have unk : (numK 1 cur < 0 ∨ numK 1 cur' < 0) → K (.tup [.sl .nl 0 [], errA 2]) [] := fun h => her 2 (by rw [if_pos h])
            refine ⟨rfl, 1, cur, rfl, ?_⟩
            refine ⟨rfl, 1, cur', rfl, ?_⟩
            refine ⟨fun hA => ?_, fun hA => ?_⟩
            · exact ⟨fun _ => unk (.inl (by simpa using hA)), fun h => Bool.noConfusion (show true = false from h)⟩
            · have hA : ¬ numK 1 cur < 0 := by simpa using hA
              refine ⟨fun hB => unk (.inr (by simpa using hB)), fun hB => ?_⟩
              have hB : ¬ numK 1 cur' < 0 := by simpa using hB
              rw [if_neg (by omega)] at hok her
              refine ⟨rfl, rfl, ?_⟩
              rcases cur_cases (a := ⟨cur, bal, held⟩) hA with c1 | c1 | c1 <;> rcases cur_cases (a := ⟨cur', bal', held'⟩) hB with c2 | c2 | c2 <;> simp only at c1 c2 <;> subst c1 <;> subst c2 <;> first | exact absurd rfl hc | skip
              · refine ⟨0, rfl, (by decide : 0 < 3), ?_⟩
                refine ⟨1, rfl, (by decide : 1 < 3), ?_⟩
                have hq : convM n (rateN 0 1).1 (rateN 0 1).2 = convM n 9 10 := rfl
                rw [hq] at hok her
                refine ⟨rfl, n, 9, 10, rfl, fun g1 g2 hcv => ?_, fun e hcv => ?_⟩
                · rw [hcv] at hok her
                  obtain ⟨l1, l2⟩ := conv_le hcv
                  have wg : IntKind.i64.wrap (0 - g1) = -g1 := by rw [wrap_of] <;> omega
                  refine ⟨fun h => Bool.noConfusion (show false = true from h), fun _ => ?_⟩
                  refine ⟨fun h => ?_, fun h => ?_⟩
                  · exact her 1 (if_pos (show g1 = 0 by simpa using h))
                  · conv => whnf
                    have hend := (hok _ (if_neg (show ¬ g1 = 0 by simpa using h))).2
                    rw [← wn, ← wg] at hend
                    exact hend
                · rw [hcv] at her
                  exact ⟨fun _ => her e rfl, fun h => Bool.noConfusion (show true = false from h)⟩
              · refine ⟨0, rfl, (by decide : 0 < 3), ?_⟩
                refine ⟨2, rfl, (by decide : 2 < 3), ?_⟩
                have hq : convM n (rateN 0 2).1 (rateN 0 2).2 = convM n 150 1 := rfl
                rw [hq] at hok her
                refine ⟨rfl, n, 150, 1, rfl, fun g1 g2 hcv => ?_, fun e hcv => ?_⟩
                · rw [hcv] at hok her
                  obtain ⟨l1, l2⟩ := conv_le hcv
                  have wg : IntKind.i64.wrap (0 - g1) = -g1 := by rw [wrap_of] <;> omega
                  refine ⟨fun h => Bool.noConfusion (show false = true from h), fun _ => ?_⟩
                  refine ⟨fun h => ?_, fun h => ?_⟩
                  · exact her 1 (if_pos (show g1 = 0 by simpa using h))
                  · conv => whnf
                    have hend := (hok _ (if_neg (show ¬ g1 = 0 by simpa using h))).2
                    rw [← wn, ← wg] at hend
                    exact hend
                · rw [hcv] at her
                  exact ⟨fun _ => her e rfl, fun h => Bool.noConfusion (show true = false from h)⟩
              · refine ⟨1, rfl, (by decide : 1 < 3), ?_⟩
                refine ⟨0, rfl, (by decide : 0 < 3), ?_⟩
                have hq : convM n (rateN 1 0).1 (rateN 1 0).2 = convM n 11 10 := rfl
                rw [hq] at hok her
                refine ⟨rfl, n, 11, 10, rfl, fun g1 g2 hcv => ?_, fun e hcv => ?_⟩
                · rw [hcv] at hok her
                  obtain ⟨l1, l2⟩ := conv_le hcv
                  have wg : IntKind.i64.wrap (0 - g1) = -g1 := by rw [wrap_of] <;> omega
                  refine ⟨fun h => Bool.noConfusion (show false = true from h), fun _ => ?_⟩
                  refine ⟨fun h => ?_, fun h => ?_⟩
                  · exact her 1 (if_pos (show g1 = 0 by simpa using h))
                  · conv => whnf
                    have hend := (hok _ (if_neg (show ¬ g1 = 0 by simpa using h))).2
                    rw [← wn, ← wg] at hend
                    exact hend
                · rw [hcv] at her
                  exact ⟨fun _ => her e rfl, fun h => Bool.noConfusion (show true = false from h)⟩
              · refine ⟨1, rfl, (by decide : 1 < 3), ?_⟩
                refine ⟨2, rfl, (by decide : 2 < 3), ?_⟩
                have hq : convM n (rateN 1 2).1 (rateN 1 2).2 = convM n 160 1 := rfl
                rw [hq] at hok her
                refine ⟨rfl, n, 160, 1, rfl, fun g1 g2 hcv => ?_, fun e hcv => ?_⟩
                · rw [hcv] at hok her
                  obtain ⟨l1, l2⟩ := conv_le hcv
                  have wg : IntKind.i64.wrap (0 - g1) = -g1 := by rw [wrap_of] <;> omega
                  refine ⟨fun h => Bool.noConfusion (show false = true from h), fun _ => ?_⟩
                  refine ⟨fun h => ?_, fun h => ?_⟩
                  · exact her 1 (if_pos (show g1 = 0 by simpa using h))
                  · conv => whnf
                    have hend := (hok _ (if_neg (show ¬ g1 = 0 by simpa using h))).2
                    rw [← wn, ← wg] at hend
                    exact hend
                · rw [hcv] at her
                  exact ⟨fun _ => her e rfl, fun h => Bool.noConfusion (show true = false from h)⟩
              · refine ⟨2, rfl, (by decide : 2 < 3), ?_⟩
                refine ⟨0, rfl, (by decide : 0 < 3), ?_⟩
                have hq : convM n (rateN 2 0).1 (rateN 2 0).2 = convM n 1 151 := rfl
                rw [hq] at hok her
                refine ⟨rfl, n, 1, 151, rfl, fun g1 g2 hcv => ?_, fun e hcv => ?_⟩
                · rw [hcv] at hok her
                  obtain ⟨l1, l2⟩ := conv_le hcv
                  have wg : IntKind.i64.wrap (0 - g1) = -g1 := by rw [wrap_of] <;> omega
                  refine ⟨fun h => Bool.noConfusion (show false = true from h), fun _ => ?_⟩
                  refine ⟨fun h => ?_, fun h => ?_⟩
                  · exact her 1 (if_pos (show g1 = 0 by simpa using h))
                  · conv => whnf
                    have hend := (hok _ (if_neg (show ¬ g1 = 0 by simpa using h))).2
                    rw [← wn, ← wg] at hend
                    exact hend
                · rw [hcv] at her
                  exact ⟨fun _ => her e rfl, fun h => Bool.noConfusion (show true = false from h)⟩
              · refine ⟨2, rfl, (by decide : 2 < 3), ?_⟩
                refine ⟨1, rfl, (by decide : 1 < 3), ?_⟩
                have hq : convM n (rateN 2 1).1 (rateN 2 1).2 = convM n 1 161 := rfl
                rw [hq] at hok her
                refine ⟨rfl, n, 1, 161, rfl, fun g1 g2 hcv => ?_, fun e hcv => ?_⟩
                · rw [hcv] at hok her
                  obtain ⟨l1, l2⟩ := conv_le hcv
                  have wg : IntKind.i64.wrap (0 - g1) = -g1 := by rw [wrap_of] <;> omega
                  refine ⟨fun h => Bool.noConfusion (show false = true from h), fun _ => ?_⟩
                  refine ⟨fun h => ?_, fun h => ?_⟩
                  · exact her 1 (if_pos (show g1 = 0 by simpa using h))
                  · conv => whnf
                    have hend := (hok _ (if_neg (show ¬ g1 = 0 by simpa using h))).2
                    rw [← wn, ← wg] at hend
                    exact hend
                · rw [hcv] at her
                  exact ⟨fun _ => her e rfl, fun h => Bool.noConfusion (show true = false from h)⟩
theorem move_ok : FnOk Tryz.prog tab 87 moveC := move_ok0.frz.mono (by
  rintro args bs K ⟨rfl, al, x, y, n, rfl, hok, her⟩
  exact ⟨rfl, rfl, al, x, y, n, rfl, fun es h => ⟨⟨_, rfl, hok es h⟩, ⟨_, rfl, hok es h⟩⟩, fun e h => ⟨_, rfl, her e h⟩⟩)
end Go.Proofs.YtjffmldlkofpaaaGreatDoor.A

/- ledger: Hold, Release, Post, Spend. -/
namespace Go.Proofs.YtjffmldlkofpaaaGreatDoor.A
open Go Q
theorem is_of {n k : Int} (h : isCl n k = true) : 9 ≤ k ∧ k < n := by simpa [isCl] using h
def setH (al : List Acc) (k : Int) (h : Int) : List Acc := match al[k.toNat]? with
  | some a => al.set k.toNat ⟨a.cur, a.bal, h⟩
  | none => al
def setB (al : List Acc) (k : Int) (b : Int) : List Acc := match al[k.toNat]? with
  | some a => al.set k.toNat ⟨a.cur, b, a.held⟩
  | none => al
/-- An amount is held. -/
def holdM (al : List Acc) (k n : Int) : Except Int (List Acc) :=
  if isCl al.length k = false then .error 2 else if amountB n = false then .error 1
  else match al[k.toNat]? with
  | some a => if freeN a < n then .error 3 else .ok (al.set k.toNat ⟨a.cur, a.bal, w64 (a.held + n)⟩)
  | none => .error 0
/-- An amount goes that was held. -/
def relM (al : List Acc) (k n : Int) : Except Int (List Acc) :=
  if isCl al.length k = false then .error 2 else if amountB n = false then .error 1
  else match al[k.toNat]? with
  | some a => if a.held < n then .error 6 else .ok (al.set k.toNat ⟨a.cur, a.bal, w64 (a.held - n)⟩)
  | none => .error 0
abbrev accsR (F : Nat) (M : List Acc → Int → Int → Except Int (List Acc)) (args : List AV) (bs : List Box) (K : AV → List Box → Prop) : Prop := bs = [] ∧ ∃ (al : List Acc) (k n : Int), args = [accsA al, .int .i64 k, .int .i64 n] ∧ al.length ≤ 1000000 ∧
  (∀ l, M al k n = .ok l → K (.tup [accsO F l, .nilifc]) []) ∧ (∀ e, M al k n = .error e → K (.tup [.sl .nl 0 [], errA e]) [])
abbrev accsRz (M : List Acc → Int → Int → Except Int (List Acc)) (args : List AV) (bs : List Box) (K : AV → List Box → Prop) : Prop := bs = [] ∧ ∃ (al : List Acc) (k n : Int), args = [accsA al, .int .i64 k, .int .i64 n] ∧ al.length ≤ 1000000 ∧
  (∀ l, M al k n = .ok l → K (.tup [accsA l, .nilifc]) []) ∧ (∀ e, M al k n = .error e → K (.tup [.sl .nl 0 [], errA e]) [])
def RH : Contract
  | 76 => isClC
  | 77 => amtC
  | 78 => freeC
  | 79 => cloneC
  | _ => fun _ _ _ => False
theorem RH_ok : CallOk Tryz.prog tab RH := by
  intro f args bs K h
  unfold RH at h
  split at h
  · exact ⟨_, h, isCl_ok⟩
  · exact ⟨_, h, amt_ok⟩
  · exact ⟨_, h, free_ok⟩
  · exact ⟨_, h, clone_ok⟩
  · exact h.elim
def RH_E (pl : Nat → Plan) : En := ⟨tab, RH, fun _ => none, 0, pl⟩
theorem RH_J (pl : Nat → Plan) : JOk Tryz.prog (RH_E pl).T (RH_E pl).J := fun _ _ h => by cases h
theorem set_mapA {al : List Acc} {i : Nat} (x : Acc) : (al.map accA).set i (accA x) = (al.set i x).map accA := by rw [List.map_set]
theorem modify_map {al : List Acc} {i : Nat} {a : Acc} (h : al[i]? = some a) (g : AV → AV) (x : Acc) (hg : g (accA a) = accA x) : (al.map accA).modify i g = (al.set i x).map accA := by
  rw [← set_mapA]
  apply List.ext_getElem?
  intro j
  rw [List.getElem?_modify, List.getElem?_set]
  by_cases hj : i = j
  · subst hj
    obtain ⟨hi, rfl⟩ := List.getElem?_eq_some_iff.1 h
    simp [hg, hi]
  · simp [hj]
set_option maxRecDepth 200000 in
set_option maxHeartbeats 1600000 in
theorem hold_ok0 : FnOk Tryz.prog tab 43 (accsR 30000 holdM) := by
  refine fn_ok (E := RH_E pl43) tab_is RH_ok (RH_J _) Tryz.func43 rfl rfl (by kernel_rfl) ?_
  rintro args bs K ⟨rfl, al, k, n, rfl, hl, hok, her⟩
  refine ⟨rfl, ?_⟩
  refine ⟨rfl, al, k, rfl, ?_⟩
  cases hc : isCl al.length k with
  | false =>
    have no := her 2 (by unfold holdM; rw [if_pos hc])
    exact ⟨fun _ => no, fun h => Bool.noConfusion (show true = false from h)⟩
  | true =>
    refine ⟨fun h => Bool.noConfusion (show false = true from h), fun _ => ?_⟩
    refine ⟨rfl, n, rfl, ?_⟩
    cases hn : amountB n with
    | false =>
      have no := her 1 (by unfold holdM; rw [if_neg (by simp [hc]), if_pos hn])
      exact ⟨fun _ => no, fun h => Bool.noConfusion (show true = false from h)⟩
    | true =>
      refine ⟨fun h => Bool.noConfusion (show false = true from h), fun _ => ?_⟩
      obtain ⟨k0, k1⟩ := is_of hc
      have k0 : 0 ≤ k := by omega
      obtain ⟨a, ha⟩ : ∃ a, al[k.toNat]? = some a := ⟨_, List.getElem?_eq_getElem (by omega)⟩
      refine ⟨_, k0, map_of ha, ?_⟩
      have step1 : holdM al k n = (if freeN a < n then .error 3 else .ok (al.set k.toNat ⟨a.cur, a.bal, w64 (a.held + n)⟩)) := by unfold holdM; rw [if_neg (by simp [hc]), if_neg (by simp [hn]), ha]
      rw [step1] at hok her
      refine ⟨rfl, a, rfl, ?_⟩
      refine ⟨fun hf => ?_, fun hf => ?_⟩
      · exact her 3 (if_pos (by simpa using hf))
      · have hend := hok _ (if_neg (show ¬ freeN a < n by simpa using hf))
        refine ⟨rfl, al, rfl, hl, ?_⟩
        refine ⟨_, k0, map_of ha, ?_⟩
        refine ⟨_, k0, map_of ha, ?_⟩
        rw [show accsO 30000 (al.set k.toNat ⟨a.cur, a.bal, w64 (a.held + n)⟩) = .sl (.own 30000) 65 ((al.map accA).modify k.toNat fun x => x.ofCells (putCells x.cells 2 [.int .i64 (IntKind.i64.wrap (a.held + n))])) from congrArg (AV.sl _ _) (modify_map ha _ _ rfl).symm] at hend
        exact hend
set_option maxRecDepth 200000 in
set_option maxHeartbeats 1600000 in
theorem rel_ok0 : FnOk Tryz.prog tab 88 (accsR 30000 relM) := by
  refine fn_ok (E := RH_E pl88) tab_is RH_ok (RH_J _) Tryz.func88 rfl rfl (by kernel_rfl) ?_
  rintro args bs K ⟨rfl, al, k, n, rfl, hl, hok, her⟩
  refine ⟨rfl, ?_⟩
  refine ⟨rfl, al, k, rfl, ?_⟩
  cases hc : isCl al.length k with
  | false =>
    have no := her 2 (by unfold relM; rw [if_pos hc])
    exact ⟨fun _ => no, fun h => Bool.noConfusion (show true = false from h)⟩
  | true =>
    refine ⟨fun h => Bool.noConfusion (show false = true from h), fun _ => ?_⟩
    refine ⟨rfl, n, rfl, ?_⟩
    cases hn : amountB n with
    | false =>
      have no := her 1 (by unfold relM; rw [if_neg (by simp [hc]), if_pos hn])
      exact ⟨fun _ => no, fun h => Bool.noConfusion (show true = false from h)⟩
    | true =>
      refine ⟨fun h => Bool.noConfusion (show false = true from h), fun _ => ?_⟩
      obtain ⟨k0, k1⟩ := is_of hc
      have k0 : 0 ≤ k := by omega
      obtain ⟨a, ha⟩ : ∃ a, al[k.toNat]? = some a := ⟨_, List.getElem?_eq_getElem (by omega)⟩
      refine ⟨_, k0, map_of ha, ?_⟩
      have step1 : relM al k n = (if a.held < n then .error 6 else .ok (al.set k.toNat ⟨a.cur, a.bal, w64 (a.held - n)⟩)) := by unfold relM; rw [if_neg (by simp [hc]), if_neg (by simp [hn]), ha]
      rw [step1] at hok her
      refine ⟨fun hf => ?_, fun hf => ?_⟩
      · exact her 6 (if_pos (by simpa using hf))
      · have hend := hok _ (if_neg (show ¬ a.held < n by simpa using hf))
        refine ⟨rfl, al, rfl, hl, ?_⟩
        refine ⟨_, k0, map_of ha, ?_⟩
        refine ⟨_, k0, map_of ha, ?_⟩
        rw [show accsO 30000 (al.set k.toNat ⟨a.cur, a.bal, w64 (a.held - n)⟩) = .sl (.own 30000) 65 ((al.map accA).modify k.toNat fun x => x.ofCells (putCells x.cells 2 [.int .i64 (IntKind.i64.wrap (a.held - n))])) from congrArg (AV.sl _ _) (modify_map ha _ _ rfl).symm] at hend
        exact hend
theorem hold_ok : FnOk Tryz.prog tab 43 (accsRz holdM)
  := hold_ok0.frz.mono (by
    rintro args bs K ⟨rfl, al, x, n, rfl, hl, hok, her⟩
    exact ⟨rfl, rfl, al, x, n, rfl, hl, fun es h => ⟨_, rfl, hok es h⟩, fun e h => ⟨_, rfl, her e h⟩⟩)
theorem rel_ok : FnOk Tryz.prog tab 88 (accsRz relM)
  := rel_ok0.frz.mono (by
    rintro args bs K ⟨rfl, al, x, n, rfl, hl, hok, her⟩
    exact ⟨rfl, rfl, al, x, n, rfl, hl, fun es h => ⟨_, rfl, hok es h⟩, fun e h => ⟨_, rfl, her e h⟩⟩)
/-- Entries, one by one. -/
def postGo : List Acc → List Ent → Except Int (List Acc)
  | al, [] => .ok al
  | al, e :: es => match al[e.acct.toNat]? with
    | some a => match addM a.bal e.amt with
      | .ok n => postGo (al.set e.acct.toNat ⟨a.cur, n, a.held⟩) es
      | .error x => .error x
    | none => .error 0
def lacks (al : List Acc) : Bool := (al.drop 9).any fun a => decide (freeN a < 0)
def postM (al : List Acc) (es : List Ent) : Except Int (List Acc) :=
  if balM al es = false then .error 13 else match postGo al es with
  | .ok l => if lacks l = true then .error 3 else .ok l
  | .error e => .error e
theorem postGo_cons (al : List Acc) (e : Ent) (es : List Ent) : postGo al (e :: es) = (match al[e.acct.toNat]? with
    | some a => match addM a.bal e.amt with
      | .ok n => postGo (al.set e.acct.toNat ⟨a.cur, n, a.held⟩) es
      | .error x => .error x
    | none => .error 0) := rfl
/-- Balanced entries are of accounts. -/
theorem bal_of {al : List Acc} : ∀ {es : List Ent} {t : Tri} {t' : Tri}, balGo al t es = some t' → ∀ e ∈ es, 0 ≤ e.acct ∧ e.acct < al.length
  | [], _, _, _, e, he => by simp at he
  | x :: es, t, t', h, e, he => by
    rw [balGo_cons] at h
    cases hs : balStep al t x with
    | none => rw [hs] at h; cases h
    | some t1 =>
      rw [hs] at h
      rcases List.mem_cons.1 he with rfl | he
      · unfold balStep at hs
        split at hs
        · cases hs
        · rename_i hn
          exact of_true (by simpa using fun h => hn (.inl h))
      · exact bal_of h e he
theorem balM_of {al : List Acc} {es : List Ent} (h : balM al es = true) : ∀ e ∈ es, 0 ≤ e.acct ∧ e.acct < al.length := by
  unfold balM at h
  split at h
  · rename_i t ht; exact bal_of ht
  · cases h
theorem lacks_at {al : List Acc} {i : Nat} {a : Acc} (ha : al[i]? = some a) (h9 : 9 ≤ i) (hf : freeN a < 0) : lacks al = true := by
  unfold lacks
  rw [List.any_eq_true]
  refine ⟨a, ?_, by simpa using hf⟩
  have : (al.drop 9)[i - 9]? = some a := by rw [List.getElem?_drop]; rw [show 9 + (i - 9) = i by omega]; exact ha
  exact List.mem_of_getElem? this
theorem lacks_not {al : List Acc} (h : ∀ (i : Nat) (a : Acc), al[i]? = some a → 9 ≤ i → ¬ freeN a < 0) : lacks al = false := by
  unfold lacks
  rw [List.any_eq_false]
  intro a ha
  obtain ⟨i, hi⟩ := List.getElem?_of_mem ha
  rw [List.getElem?_drop] at hi
  simpa using h (9 + i) a hi (by omega)
abbrev postC0 (args : List AV) (bs : List Box) (K : AV → List Box → Prop) : Prop := bs = [] ∧ ∃ (al : List Acc) (es : List Ent), args = [accsA al, entsA es] ∧ al.length ≤ 1000000 ∧ es.length ≤ 1000000 ∧
  (∀ l, postM al es = .ok l → K (.tup [accsO 19000 l, .nilifc]) []) ∧ (∀ e, postM al es = .error e → K (.tup [.sl .nl 0 [], errA e]) [])
abbrev postC (args : List AV) (bs : List Box) (K : AV → List Box → Prop) : Prop := bs = [] ∧ ∃ (al : List Acc) (es : List Ent), args = [accsA al, entsA es] ∧ al.length ≤ 1000000 ∧ es.length ≤ 1000000 ∧
  (∀ l, postM al es = .ok l → K (.tup [accsA l, .nilifc]) []) ∧ (∀ e, postM al es = .error e → K (.tup [.sl .nl 0 [], errA e]) [])
def RPo : Contract
  | 121 => balC
  | 79 => cloneC
  | 122 => addMC
  | 76 => isClC
  | 78 => freeC
  | _ => fun _ _ _ => False
theorem RPo_ok : CallOk Tryz.prog tab RPo := by
  intro f args bs K h
  unfold RPo at h
  split at h
  · exact ⟨_, h, bal_ok⟩
  · exact ⟨_, h, clone_ok⟩
  · exact ⟨_, h, addM_ok⟩
  · exact ⟨_, h, isCl_ok⟩
  · exact ⟨_, h, free_ok⟩
  · exact h.elim
def RPo_E (pl : Nat → Plan) : En := ⟨tab, RPo, fun _ => none, 0, pl⟩
theorem RPo_J (pl : Nat → Plan) : JOk Tryz.prog (RPo_E pl).T (RPo_E pl).J := fun _ _ h => by cases h
set_option maxRecDepth 200000 in
set_option maxHeartbeats 6400000 in
theorem post_ok0 : FnOk Tryz.prog tab 109 postC0 := by
  refine fn_ok (E := RPo_E pl109) tab_is RPo_ok (RPo_J _) Tryz.func109 rfl rfl (by kernel_rfl) ?_
  rintro args bs K ⟨rfl, al, es, rfl, hl, hle, hok, her⟩
  refine ⟨rfl, ?_⟩
  refine ⟨rfl, al, es, rfl, hl, hle, ?_⟩
  cases hbal : balM al es with
  | false => exact ⟨fun _ => her 13 (by unfold postM; rw [if_pos hbal]), fun h => Bool.noConfusion (show true = false from h)⟩
  | true =>
    refine ⟨fun h => Bool.noConfusion (show false = true from h), fun _ => ?_⟩
    have step1 : postM al es = (match postGo al es with
        | .ok l => if lacks l = true then .error 3 else .ok l
        | .error e => .error e) := by unfold postM; rw [if_neg (by simp [hbal])]
    rw [step1] at hok her
    refine ⟨rfl, al, rfl, hl, ?_⟩
    refine ⟨fun mm st => ∃ (i : Nat) (l : List Acc), (i ≤ es.length ∧ l.length = al.length ∧ postGo al es = postGo l (es.drop i)) ∧ es.length - i = mm ∧ st.t 6 = accsO 19000 l ∧ st.t 20 = entsA es ∧ st.t 21 = .int .i64 ((es.map entA).length : Nat) ∧ st.t 22 = .int .i64 i,
      ⟨_, 0, al, ⟨Nat.zero_le _, rfl, rfl⟩, rfl, rfl, rfl, rfl, rfl⟩, ?_⟩
    rintro _ ⟨t1, h1⟩ ⟨i, l, ⟨hi, hll, hT⟩, rfl, e6, e20, e21, e22⟩
    have e6 : t1 6 = accsO 19000 l := e6
    have e20 : t1 20 = entsA es := e20
    have e21 : t1 21 = .int .i64 ((es.map entA).length : Nat) := e21
    have e22 : t1 22 = .int .i64 i := e22
    rw [← updL_has t1 [(6, accsO 19000 l), (20, entsA es), (21, .int .i64 ((es.map entA).length : Nat)), (22, .int .i64 i)] ⟨e6, e20, e21, e22, trivial⟩]
    constructor
    · intro hb
      have hi' : i < es.length := by
        have : (i : Int) < ((es.map entA).length : Nat) := by simpa using hb
        simp at this; omega
      have w : IntKind.i64.wrap ((i : Int) + 1) = ((i + 1 : Nat) : Int) := by rw [wrap_of] <;> omega
      have hlt : es.length - (i + 1) < es.length - i := by omega
      obtain ⟨e, hx⟩ : ∃ x, es[i]? = some x := ⟨_, List.getElem?_eq_getElem hi'⟩
      have hm := List.mem_of_getElem? hx
      have hdr := drop_at hx
      rw [hdr, postGo_cons] at hT
      obtain ⟨k0, k1⟩ := balM_of hbal e hm
      obtain ⟨a, ha⟩ : ∃ a, l[e.acct.toNat]? = some a := ⟨_, List.getElem?_eq_getElem (by omega)⟩
      rw [ha] at hT
      refine ⟨_, Int.natCast_nonneg i, map_of hx, ?_⟩
      refine ⟨_, k0, map_of ha, ?_⟩
      refine ⟨rfl, a.bal, e.amt, rfl, fun n hn => ?_, fun x hx2 => ?_⟩
      · have hT : postGo al es = postGo (l.set e.acct.toNat ⟨a.cur, n, a.held⟩) (es.drop (i + 1)) := by rw [hT]; simp only [hn]
        refine ⟨fun h => Bool.noConfusion (show false = true from h), fun _ => ?_⟩
        refine ⟨_, k0, map_of ha, ?_⟩
        exact ⟨_, hlt, i + 1, _, ⟨hi', (List.length_set ..).trans hll, hT⟩, rfl, congrArg (AV.sl (.own 19000) 65) (modify_map ha (fun x => x.ofCells (putCells x.cells 1 [.int .i64 n])) ⟨a.cur, n, a.held⟩ rfl), rfl, rfl, congrArg (AV.int .i64) w⟩
      · have hT : postGo al es = .error x := by rw [hT]; simp only [hx2]
        rw [hT] at her
        exact ⟨fun _ => her x rfl, fun h => Bool.noConfusion (show true = false from h)⟩
    · intro hb
      have hi' : i = es.length := by
        have : ¬ (i : Int) < ((es.map entA).length : Nat) := by simpa using hb
        simp at this; omega
      subst hi'
      rw [List.drop_length] at hT
      have hT : postGo al es = .ok l := hT
      rw [hT] at hok her
      clear e6 e20 e21 e22
      refine ⟨fun mm st => ∃ (i : Nat), (i ≤ l.length ∧ ∀ (j : Nat) (a : Acc), j < i → l[j]? = some a → 9 ≤ j → ¬ freeN a < 0) ∧ l.length - i = mm ∧ st.t 6 = accsO 19000 l ∧ st.t 48 = accsO 19000 l ∧ st.t 49 = .int .i64 ((l.map accA).length : Nat) ∧ st.t 50 = .int .i64 i,
        ⟨_, 0, ⟨Nat.zero_le _, fun j a hj => absurd hj (Nat.not_lt_zero _)⟩, rfl, rfl, rfl, rfl, rfl⟩, ?_⟩
      rintro _ ⟨t1, h1⟩ ⟨i, ⟨hi, hX⟩, rfl, e6, e48, e49, e50⟩
      have e6 : t1 6 = accsO 19000 l := e6
      have e48 : t1 48 = accsO 19000 l := e48
      have e49 : t1 49 = .int .i64 ((l.map accA).length : Nat) := e49
      have e50 : t1 50 = .int .i64 i := e50
      rw [← updL_has t1 [(6, accsO 19000 l), (48, accsO 19000 l), (49, .int .i64 ((l.map accA).length : Nat)), (50, .int .i64 i)] ⟨e6, e48, e49, e50, trivial⟩]
      constructor
      · intro hb
        have hi' : i < l.length := by
          have : (i : Int) < ((l.map accA).length : Nat) := by simpa using hb
          simp at this; omega
        have w : IntKind.i64.wrap ((i : Int) + 1) = ((i + 1 : Nat) : Int) := by rw [wrap_of] <;> omega
        have hlt : l.length - (i + 1) < l.length - i := by omega
        obtain ⟨a, hx⟩ : ∃ x, l[i]? = some x := ⟨_, List.getElem?_eq_getElem hi'⟩
        have hm := List.mem_of_getElem? hx
        have hdr := drop_at hx
        have nxt : (9 ≤ i → ¬ freeN a < 0) → ∀ (j : Nat) (b : Acc), j < i + 1 → l[j]? = some b → 9 ≤ j → ¬ freeN b < 0 := fun hn j b hj hb h9 => by
          by_cases he : j = i
          · rw [he, hx] at hb; cases hb; exact hn (he ▸ h9)
          · exact hX j b (by omega) hb h9
        refine ⟨_, Int.natCast_nonneg i, map_of hx, ?_⟩
        refine ⟨rfl, l, i, rfl, ?_⟩
        cases hc : isCl l.length i with
        | false =>
          have h9 : ¬ 9 ≤ i := by
            intro h9
            have : isCl l.length i = true := by simp [isCl]; omega
            rw [hc] at this; cases this
          refine ⟨fun h => Bool.noConfusion (show false = true from h), fun _ => ?_⟩
          refine ⟨fun h => Bool.noConfusion (show false = true from h), fun _ => ?_⟩
          exact ⟨_, hlt, i + 1, ⟨hi', nxt fun h => absurd h h9⟩, rfl, rfl, rfl, rfl, congrArg (AV.int .i64) w⟩
        | true =>
          obtain ⟨c9, _⟩ := is_of hc
          refine ⟨fun _ => ?_, fun h => Bool.noConfusion (show true = false from h)⟩
          refine ⟨rfl, a, rfl, ?_⟩
          refine ⟨fun hf => ?_, fun hf => ?_⟩
          · exact her 3 (if_pos (lacks_at hx (by omega) (by simpa using hf)))
          · exact ⟨_, hlt, i + 1, ⟨hi', nxt fun _ => by simpa using hf⟩, rfl, rfl, rfl, rfl, congrArg (AV.int .i64) w⟩
      · intro hb
        have hi' : i = l.length := by
          have : ¬ (i : Int) < ((l.map accA).length : Nat) := by simpa using hb
          simp at this; omega
        subst hi'
        have hlk := lacks_not (al := l) (fun j a ha h9 => hX j a (List.getElem?_eq_some_iff.1 ha).1 ha h9)
        exact hok l (if_neg (by simp [hlk]))
theorem post_ok : FnOk Tryz.prog tab 109 postC := post_ok0.frz.mono (by
  rintro args bs K ⟨rfl, al, es, rfl, hl, hle, hok, her⟩
  exact ⟨rfl, rfl, al, es, rfl, hl, hle, fun es h => ⟨_, rfl, hok es h⟩, fun e h => ⟨_, rfl, her e h⟩⟩)
/-- What was held goes, and entries are done. -/
def spendM (al : List Acc) (n : Int) : List Ent → Except Int (List Acc)
  | [] => .error 13
  | e :: es => match relM al e.acct n with
    | .ok l => postM l (e :: es)
    | .error x => .error x
abbrev spendC (args : List AV) (bs : List Box) (K : AV → List Box → Prop) : Prop := bs = [] ∧ ∃ (al : List Acc) (n : Int) (es : List Ent), args = [accsA al, .int .i64 n, entsA es] ∧ al.length ≤ 1000000 ∧ es.length ≤ 1000000 ∧
  (∀ l, spendM al n es = .ok l → K (.tup [accsA l, .nilifc]) []) ∧ (∀ e, spendM al n es = .error e → K (.tup [.sl .nl 0 [], errA e]) [])
theorem rel_len {al l : List Acc} {k n : Int} (h : relM al k n = .ok l) : l.length = al.length := by
  unfold relM at h
  split at h
  · cases h
  · split at h
    · cases h
    · split at h
      · split at h
        · cases h
        · cases h; simp
      · cases h
def RSp : Contract
  | 88 => (accsRz relM)
  | 109 => postC
  | _ => fun _ _ _ => False
theorem RSp_ok : CallOk Tryz.prog tab RSp := by
  intro f args bs K h
  unfold RSp at h
  split at h
  · exact ⟨_, h, rel_ok⟩
  · exact ⟨_, h, post_ok⟩
  · exact h.elim
def RSp_E (pl : Nat → Plan) : En := ⟨tab, RSp, fun _ => none, 0, pl⟩
theorem RSp_J (pl : Nat → Plan) : JOk Tryz.prog (RSp_E pl).T (RSp_E pl).J := fun _ _ h => by cases h
set_option maxRecDepth 200000 in
set_option maxHeartbeats 1600000 in
theorem spend_ok : FnOk Tryz.prog tab 89 spendC := by
  refine fn_ok (E := RSp_E pl89) tab_is RSp_ok (RSp_J _) Tryz.func89 rfl rfl (by kernel_rfl) ?_
  rintro args bs K ⟨rfl, al, n, es, rfl, hl, hle, hok, her⟩
  refine ⟨rfl, ?_⟩
  cases es with
  | nil => exact ⟨fun _ => her 13 rfl, fun h => Bool.noConfusion (show true = false from h)⟩
  | cons e es =>
    have hlen : (((((e :: es).map entA).length : Nat) : Int) == 0) = false := by simp; omega
    refine ⟨fun h => absurd (hlen.symm.trans h) (by decide), fun _ => ?_⟩
    refine ⟨_, Int.le_refl 0, rfl, ?_⟩
    refine ⟨rfl, al, e.acct, n, rfl, hl, fun l hr => ?_, fun x hr => ?_⟩
    · have st : spendM al n (e :: es) = postM l (e :: es) := by simp only [spendM, hr]
      rw [st] at hok her
      refine ⟨fun h => Bool.noConfusion (show false = true from h), fun _ => ?_⟩
      refine ⟨rfl, l, e :: es, rfl, by rw [rel_len hr]; exact hl, hle, fun l2 h2 => ?_, fun x h2 => ?_⟩
      · exact hok l2 h2
      · exact her x h2
    · have st : spendM al n (e :: es) = .error x := by simp only [spendM, hr]
      exact ⟨fun _ => her x st, fun h => Bool.noConfusion (show true = false from h)⟩
end Go.Proofs.YtjffmldlkofpaaaGreatDoor.A

/- payment: capture, refund, charge, shut, by, Do. -/
namespace Go.Proofs.YtjffmldlkofpaaaGreatDoor.A
open Go Q
def capP (p : Pay) (n : Int) : Pay := ⟨p.src, p.dst, p.auth, w64 (p.capt + n), p.refu, p.chrg, p.til, if w64 (p.capt + n) = p.auth then 1 else p.stage⟩
def refP (p : Pay) (n : Int) : Pay := ⟨p.src, p.dst, p.auth, p.capt, w64 (p.refu + n), p.chrg, p.til, p.stage⟩
def chaP (p : Pay) (n : Int) : Pay := ⟨p.src, p.dst, p.auth, p.capt, p.refu, w64 (p.chrg + n), p.til, p.stage⟩
def shuP (p : Pay) : Pay := ⟨p.src, p.dst, p.auth, p.capt, p.refu, p.chrg, p.til, 1⟩
def pay0 : Pay := ⟨0, 0, 0, 0, 0, 0, 0, 0⟩
abbrev payC2 (f : Pay → Int → Pay) (g : Pay → Int → Bool) (args : List AV) (bs : List Box) (K : AV → List Box → Prop) : Prop := bs = [] ∧ ∃ (p : Pay) (n : Int), args = [payA p, .int .i64 n] ∧ K (.tup [payA (f p n), .bool (g p n)]) []
abbrev captC := payC2 capP fun p n => decide (n ≤ left p)
abbrev refuC := payC2 refP fun p n => decide (n ≤ gave p)
abbrev chrgC := payC2 chaP fun p n => decide (n ≤ gave p)
abbrev shutC := payC2 (fun p _ => shuP p) fun p _ => p.stage == 0
def RPy : Contract
  | 35 => leftC
  | 85 => gaveC
  | _ => fun _ _ _ => False
theorem RPy_ok : CallOk Tryz.prog tab RPy := by
  intro f args bs K h
  unfold RPy at h
  split at h
  · exact ⟨_, h, left_ok⟩
  · exact ⟨_, h, gave_ok⟩
  · exact h.elim
def RPy_E (pl : Nat → Plan) : En := ⟨tab, RPy, fun _ => none, 0, pl⟩
theorem RPy_J (pl : Nat → Plan) : JOk Tryz.prog (RPy_E pl).T (RPy_E pl).J := fun _ _ h => by cases h
set_option maxRecDepth 200000 in
set_option maxHeartbeats 1600000 in
theorem cap_ok : FnOk Tryz.prog tab 132 captC := by
  refine fn_ok (E := RPy_E pl132) tab_is RPy_ok (RPy_J _) Tryz.func132 rfl rfl (by kernel_rfl) ?_
  rintro args bs K ⟨rfl, p, n, rfl, hK⟩
  refine ⟨rfl, ?_⟩
  refine ⟨rfl, p, rfl, ?_⟩
  unfold capP at hK
  refine ⟨fun h => ?_, fun h => ?_⟩
  · rw [if_pos (by simpa [w64] using h)] at hK
    exact hK
  · rw [if_neg (by simpa [w64] using h)] at hK
    exact hK
set_option maxRecDepth 200000 in
set_option maxHeartbeats 1600000 in
theorem ref_ok : FnOk Tryz.prog tab 133 refuC := by
  refine fn_ok (E := RPy_E pl133) tab_is RPy_ok (RPy_J _) Tryz.func133 rfl rfl (by kernel_rfl) ?_
  rintro args bs K ⟨rfl, p, n, rfl, hK⟩
  refine ⟨rfl, ?_⟩
  exact ⟨rfl, p, rfl, hK⟩
set_option maxRecDepth 200000 in
set_option maxHeartbeats 1600000 in
theorem cha_ok : FnOk Tryz.prog tab 134 chrgC := by
  refine fn_ok (E := RPy_E pl134) tab_is RPy_ok (RPy_J _) Tryz.func134 rfl rfl (by kernel_rfl) ?_
  rintro args bs K ⟨rfl, p, n, rfl, hK⟩
  refine ⟨rfl, ?_⟩
  exact ⟨rfl, p, rfl, hK⟩
set_option maxRecDepth 200000 in
set_option maxHeartbeats 1600000 in
theorem shu_ok : FnOk Tryz.prog tab 135 shutC := by
  refine fn_ok (E := RPy_E pl135) tab_is RPy_ok (RPy_J _) Tryz.func135 rfl rfl (by kernel_rfl) ?_
  rintro args bs K ⟨rfl, p, n, rfl, hK⟩
  refine ⟨rfl, ?_⟩
  exact hK
def pbyC (args : List AV) (bs : List Box) (K : AV → List Box → Prop) : Prop := bs = [] ∧ ∃ op : Int, args = [.int .i64 op] ∧ (op = 4 → K (.fn (.func 132) [] []) []) ∧ (op = 6 → K (.fn (.func 133) [] []) []) ∧ (op = 7 → K (.fn (.func 134) [] []) []) ∧ (op = 5 → K (.fn (.func 135) [] []) []) ∧
  (¬ op = 4 → ¬ op = 6 → ¬ op = 7 → ¬ op = 5 → K .nilfn [])
set_option maxRecDepth 200000 in
set_option maxHeartbeats 1600000 in
theorem pby_ok : FnOk Tryz.prog tab 131 pbyC := by
  refine fn_ok (E := R0_E pl131) tab_is R0_ok (R0_J _) Tryz.func131 rfl rfl (by kernel_rfl) ?_
  rintro args bs K ⟨rfl, op, rfl, k4, k6, k7, k5, k0⟩
  refine ⟨rfl, ?_⟩
  refine ⟨fun h => k4 (by simpa using h), fun h4 => ?_⟩
  refine ⟨fun h => k6 (by simpa using h), fun h6 => ?_⟩
  refine ⟨fun h => k7 (by simpa using h), fun h7 => ?_⟩
  exact ⟨fun h => k5 (by simpa using h), fun h5 => k0 (by simpa using h4) (by simpa using h6) (by simpa using h7) (by simpa using h5)⟩
/-- A payment behind an op. -/
def doP (p : Pay) (op n : Int) : Except Int Pay :=
  if op = 4 then (if n < 1 then .error 1 else if n ≤ left p then .ok (capP p n) else .error 6)
  else if op = 6 then (if n < 1 then .error 1 else if n ≤ gave p then .ok (refP p n) else .error 6)
  else if op = 7 then (if n < 1 then .error 1 else if n ≤ gave p then .ok (chaP p n) else .error 6)
  else if op = 5 then (if p.stage = 0 then .ok (shuP p) else .error 6)
  else .error 13
def doPC (args : List AV) (bs : List Box) (K : AV → List Box → Prop) : Prop := bs = [] ∧ ∃ (p : Pay) (op n : Int), args = [payA p, .int .i64 op, .int .i64 n] ∧ (∀ q, doP p op n = .ok q → K (.tup [payA q, .nilifc]) []) ∧ (∀ e, doP p op n = .error e → K (.tup [payA pay0, errA e]) [])
def RPd : Contract
  | 131 => pbyC
  | 132 => captC
  | 133 => refuC
  | 134 => chrgC
  | 135 => shutC
  | _ => fun _ _ _ => False
theorem RPd_ok : CallOk Tryz.prog tab RPd := by
  intro f args bs K h
  unfold RPd at h
  split at h
  · exact ⟨_, h, pby_ok⟩
  · exact ⟨_, h, cap_ok⟩
  · exact ⟨_, h, ref_ok⟩
  · exact ⟨_, h, cha_ok⟩
  · exact ⟨_, h, shu_ok⟩
  · exact h.elim
def RPd_E (pl : Nat → Plan) : En := ⟨tab, RPd, fun _ => none, 0, pl⟩
theorem RPd_J (pl : Nat → Plan) : JOk Tryz.prog (RPd_E pl).T (RPd_E pl).J := fun _ _ h => by cases h
set_option maxRecDepth 200000 in
set_option maxHeartbeats 3200000 in
theorem doP_ok : FnOk Tryz.prog tab 126 doPC := by
  refine fn_ok (E := RPd_E pl126) tab_is RPd_ok (RPd_J _) Tryz.func126 rfl rfl (by kernel_rfl) ?_
  rintro args bs K ⟨rfl, p, op, n, rfl, hok, her⟩
  refine ⟨rfl, ?_⟩
  refine ⟨rfl, op, rfl, fun h => ?_, fun h => ?_, fun h => ?_, fun h => ?_, fun h4 h6 h7 h5 => ?_⟩
  · subst h
    have st : doP p 4 n = (if n < 1 then .error 1 else if n ≤ left p then .ok (capP p n) else .error 6) := rfl
    rw [st] at hok her
    refine ⟨fun h => Bool.noConfusion (show false = true from h), fun _ => ?_⟩
    refine ⟨fun _ => ?_, fun h => Bool.noConfusion (show true = false from h)⟩
    refine ⟨fun hn => ?_, fun hn => ?_⟩
    · exact her 1 (if_pos (by simpa using hn))
    · have hn : ¬ n < 1 := by simpa using hn
      rw [if_neg hn] at hok her
      refine ⟨rfl, p, n, rfl, ?_⟩
      refine ⟨fun hb => ?_, fun hb => ?_⟩
      · exact her 6 (if_neg (by simpa using hb))
      · exact hok _ (if_pos (by simpa using hb))
  · subst h
    have st : doP p 6 n = (if n < 1 then .error 1 else if n ≤ gave p then .ok (refP p n) else .error 6) := rfl
    rw [st] at hok her
    refine ⟨fun h => Bool.noConfusion (show false = true from h), fun _ => ?_⟩
    refine ⟨fun _ => ?_, fun h => Bool.noConfusion (show true = false from h)⟩
    refine ⟨fun hn => ?_, fun hn => ?_⟩
    · exact her 1 (if_pos (by simpa using hn))
    · have hn : ¬ n < 1 := by simpa using hn
      rw [if_neg hn] at hok her
      refine ⟨rfl, p, n, rfl, ?_⟩
      refine ⟨fun hb => ?_, fun hb => ?_⟩
      · exact her 6 (if_neg (by simpa using hb))
      · exact hok _ (if_pos (by simpa using hb))
  · subst h
    have st : doP p 7 n = (if n < 1 then .error 1 else if n ≤ gave p then .ok (chaP p n) else .error 6) := rfl
    rw [st] at hok her
    refine ⟨fun h => Bool.noConfusion (show false = true from h), fun _ => ?_⟩
    refine ⟨fun _ => ?_, fun h => Bool.noConfusion (show true = false from h)⟩
    refine ⟨fun hn => ?_, fun hn => ?_⟩
    · exact her 1 (if_pos (by simpa using hn))
    · have hn : ¬ n < 1 := by simpa using hn
      rw [if_neg hn] at hok her
      refine ⟨rfl, p, n, rfl, ?_⟩
      refine ⟨fun hb => ?_, fun hb => ?_⟩
      · exact her 6 (if_neg (by simpa using hb))
      · exact hok _ (if_pos (by simpa using hb))
  · subst h
    have st : doP p 5 n = (if p.stage = 0 then .ok (shuP p) else .error 6) := rfl
    rw [st] at hok her
    refine ⟨fun h => Bool.noConfusion (show false = true from h), fun _ => ?_⟩
    refine ⟨fun h => Bool.noConfusion (show false = true from h), fun _ => ?_⟩
    refine ⟨fun h => Bool.noConfusion (show false = true from h), fun _ => ?_⟩
    refine ⟨rfl, p, n, rfl, ?_⟩
    refine ⟨fun hb => ?_, fun hb => ?_⟩
    · exact her 6 (if_neg (by simpa using hb))
    · exact hok _ (if_pos (by simpa using hb))
  · have st : doP p op n = .error 13 := by unfold doP; rw [if_neg h4, if_neg h6, if_neg h7, if_neg h5]
    exact ⟨fun _ => her 13 st, fun h => Bool.noConfusion (show true = false from h)⟩
end Go.Proofs.YtjffmldlkofpaaaGreatDoor.A
