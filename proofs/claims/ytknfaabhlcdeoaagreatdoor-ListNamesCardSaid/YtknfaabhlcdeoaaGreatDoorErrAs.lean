/- What errors.As finds in an error of the program, at a target of the type api.Errno; condition: the cell of errors.errorType. -/
import Derived.Test.YtknfaabhlcdeoaaGreatDoorErr
import Derived.Deep.LoopGhost
namespace Go.Proofs.YtknfaabhlcdeoaaGreatDoor
open Go.RowKit Go.Extern.Stop Go.Stop Go.Extern

theorem as_nil (t : Value) (w : World) :
    Calls Tryz.prog 60 #[.nilIface, t] w fun e w' => e = .returned (.bool false) ∧ w = w' := by
  go_enter Tryz.func60, Tryz.ntmps60
  go_wp2
  go_ret
  exact ⟨rfl, rfl⟩

/-! closed facts on the model's entries for internal/reflectlite -/
theorem rl_valueOfT (t : Addr) (w : World) : (ReflectliteValue.unpack (.iface 104 (.pointer (some t)))).run Tryz.prog w
    = .ok (.agg #[.pointer (some ⟨4, 104, none⟩), .pointer (some ⟨w.heap.size, 0, none⟩), .int .u64 150]) (w.alloc (.cells #[.pointer (some t)] 104)) := by kernel_rfl
theorem rl_typeT (a : Addr) (w : World) : (ReflectliteValue.methodAny (ReflectliteValue.valueError "reflectlite.Value.Type" 0) (fun t _ _ _ => ReflectliteType.toType t) #[.agg #[.pointer (some ⟨4, 104, none⟩), .pointer (some a), .int .u64 150]]).run Tryz.prog w
    = .ok (.iface 222 (.agg #[.pointer (some ⟨4, 104, none⟩)])) w := by kernel_rfl
theorem rl_kindT (w : World) : ((ReflectliteType.abiMethod fun t => (fun a : Nat => Value.int IntKind.u8 (a : Int)) <$> Rtype.kind t) #[.pointer (some ⟨4, 104, none⟩)]).run Tryz.prog w = .ok (.int .u8 22) w := by kernel_rfl
theorem rl_kindE (w : World) : ((ReflectliteType.abiMethod fun t => (fun a : Nat => Value.int IntKind.u8 (a : Int)) <$> Rtype.kind t) #[.pointer (some ⟨4, 102, none⟩)]).run Tryz.prog w = .ok (.int .u8 2) w := by kernel_rfl
theorem rlm (z : Sem Value) (f : TypeId → Addr → Nat → Nat → Sem Value) (v : Value) :
    ReflectliteValue.method z f #[v] = (do match ← ReflectliteValue.parts v with | none => z | some (t, a, fl) => f t a fl (fl % 32)) := rfl
theorem rl_partsT (a : Addr) (w : World) : (ReflectliteValue.parts (.agg #[.pointer (some ⟨4, 104, none⟩), .pointer (some a), .int .u64 150])).run Tryz.prog w = .ok (some (104, a, 150)) w := by kernel_rfl
theorem rl_isNilT (a p : Addr) (W : World) (ha : W.cell? a = some (.pointer (some p))) :
    (ReflectliteValue.method (ReflectliteValue.valueError "reflectlite.Value.IsNil" 0) ReflectliteValue.isNil #[.agg #[.pointer (some ⟨4, 104, none⟩), .pointer (some a), .int .u64 150]]).run Tryz.prog W = .ok (.bool false) W := by
  rw [rlm]
  simp only [Sem.run_bind, rl_partsT, Result.andThen]
  simp [ReflectliteValue.isNil, loadVar, isAgg, underlying, Tryz.underlying104, ha, Result.andThen]
theorem rl_methodKind (h : Value) (w : World) : (Go.method 425 222 (.agg #[h]) "Kind").run Tryz.prog w = .ok (279, h) w := by kernel_rfl
theorem rl_methodElem (h : Value) (w : World) : (Go.method 425 222 (.agg #[h]) "Elem").run Tryz.prog w = .ok (291, .agg #[h]) w := by kernel_rfl
theorem rl_methodImplements (h : Value) (w : World) : (Go.method 425 222 (.agg #[h]) "Implements").run Tryz.prog w = .ok (292, .agg #[h]) w := by kernel_rfl
theorem rl_methodAssignableTo (h : Value) (w : World) : (Go.method 425 222 (.agg #[h]) "AssignableTo").run Tryz.prog w = .ok (289, .agg #[h]) w := by kernel_rfl
theorem rl_elemT (w : World) : (ReflectliteType.method ReflectliteType.elem #[.agg #[.pointer (some ⟨4, 104, none⟩)]]).run Tryz.prog w = .ok (.iface 222 (.agg #[.pointer (some ⟨4, 102, none⟩)])) w := by kernel_rfl
theorem rl_implements (w : World) : (ReflectliteType.relation "Implements" ReflectliteType.implements_ #[.agg #[.pointer (some ⟨4, 102, none⟩)], .iface 222 (.agg #[.pointer (some ⟨4, 29, none⟩)])]).run Tryz.prog w = .ok (.bool true) w := by kernel_rfl
theorem rl_typeOfE (v : Value) (w : World) : (ReflectliteType.typeOf #[.iface 102 v]).run Tryz.prog w = .ok (.iface 222 (.agg #[.pointer (some ⟨4, 102, none⟩)])) w := by kernel_rfl
theorem rl_typeOfF (v : Value) (w : World) : (ReflectliteType.typeOf #[.iface 181 v]).run Tryz.prog w = .ok (.iface 222 (.agg #[.pointer (some ⟨4, 181, none⟩)])) w := by kernel_rfl
theorem rl_assignE (w : World) : (ReflectliteType.relation "AssignableTo" ReflectliteType.assignableTo #[.agg #[.pointer (some ⟨4, 102, none⟩)], .iface 222 (.agg #[.pointer (some ⟨4, 102, none⟩)])]).run Tryz.prog w = .ok (.bool true) w := by kernel_rfl
theorem rl_assignF (w : World) : (ReflectliteType.relation "AssignableTo" ReflectliteType.assignableTo #[.agg #[.pointer (some ⟨4, 181, none⟩)], .iface 222 (.agg #[.pointer (some ⟨4, 102, none⟩)])]).run Tryz.prog w = .ok (.bool false) w := by kernel_rfl
theorem rl_valueOfE (c : Int) (w : World) : (ReflectliteValue.unpack (.iface 102 (.int .i64 c))).run Tryz.prog w
    = .ok (.agg #[.pointer (some ⟨4, 102, none⟩), .pointer (some ⟨w.heap.size, 0, none⟩), .int .u64 130]) (w.alloc (.cells #[.int .i64 c] 102)) := by kernel_rfl
theorem rl_elemOfT (w : World) : (Rtype.elem? 104).run Tryz.prog w = .ok (some 102) w := by kernel_rfl
theorem rl_mkE (p : Addr) (w : World) : (ReflectliteValue.mk 102 p ReflectliteValue.flagAddr).run Tryz.prog w = .ok (.agg #[.pointer (some ⟨4, 102, none⟩), .pointer (some p), .int .u64 386]) w := by kernel_rfl
theorem rl_elemVT (a p : Addr) (W : World) (ha : W.cell? a = some (.pointer (some p))) :
    (ReflectliteValue.method (ReflectliteValue.valueError "reflectlite.Value.Elem" 0) ReflectliteValue.elem #[.agg #[.pointer (some ⟨4, 104, none⟩), .pointer (some a), .int .u64 150]]).run Tryz.prog W
      = .ok (.agg #[.pointer (some ⟨4, 102, none⟩), .pointer (some p), .int .u64 386]) W := by
  rw [rlm]
  simp only [Sem.run_bind, rl_partsT, Result.andThen]
  simp [ReflectliteValue.elem, loadVar, isAgg, underlying, Tryz.underlying104, ha, Result.andThen, rl_elemOfT, rl_mkE]
theorem rls (v x : Value) : ReflectliteValue.set #[v, x] = (do
    let (some (dst, a, fl), some (src, b, _)) := (← ReflectliteValue.parts v, ← ReflectliteValue.parts x)
      | unsupported (.noEntry "extern/(internal/reflectlite.Value).Set.zeroValue")
    if fl / ReflectliteValue.flagAddr % 2 == 0 then unsupported (.noEntry "extern/(internal/reflectlite.Value).Set.unaddressable")
    let val ← loadVar src b
    if ← Rtype.directlyAssignable dst src then storeVar dst a val
    else if ← Rtype.implements dst src then
      if (← Rtype.kind src) == 20 then
        match val with
        | .nilIface => unsupported (.noEntry "extern/reflectlite: a nil value of one interface type handed on as a value of another")
        | _ => storeVar dst a val
      else storeVar dst a (.iface src val)
    else panicString ("reflectlite.Set: value of type " ++ (← Rtype.spelt src) ++ " is not assignable to type " ++ (← Rtype.spelt dst))
    pure (.tuple #[])) := rfl
theorem rl_partsEa (a : Addr) (w : World) : (ReflectliteValue.parts (.agg #[.pointer (some ⟨4, 102, none⟩), .pointer (some a), .int .u64 386])).run Tryz.prog w = .ok (some (102, a, 386)) w := by kernel_rfl
theorem rl_partsE (a : Addr) (w : World) : (ReflectliteValue.parts (.agg #[.pointer (some ⟨4, 102, none⟩), .pointer (some a), .int .u64 130])).run Tryz.prog w = .ok (some (102, a, 130)) w := by kernel_rfl
theorem rl_directE (w : World) : (Rtype.directlyAssignable 102 102).run Tryz.prog w = .ok true w := by kernel_rfl
theorem rl_setE (ta b : Addr) (c : Int) (old : Value) (W : World) (hb : W.cell? b = some (.int .i64 c)) (ht : W.cell? ta = some old) (hf : W.frozen? ta = false) :
    (ReflectliteValue.set #[.agg #[.pointer (some ⟨4, 102, none⟩), .pointer (some ta), .int .u64 386], .agg #[.pointer (some ⟨4, 102, none⟩), .pointer (some b), .int .u64 130]]).run Tryz.prog W
      = .ok (.tuple #[]) (W.setCell ta (.int .i64 c)) := by
  rw [rls]
  simp only [Sem.run_bind, rl_partsEa, rl_partsE, Result.andThen]
  simp [ReflectliteValue.flagAddr, loadVar, isAgg, underlying, Tryz.underlying102, hb, Result.andThen, rl_directE, storeVar, Value.cells, storeCells, Addr.add]
  rw [run_store Tryz.prog W ta _ _ (by rfl)]
  simp [ht, hf]
theorem asn_As (v : Value) (xT : TypeId) (w : World) : (Instr.typeAssert (.iface 181 v) xT 227 true).run Tryz.prog w = .ok (.tuple #[.nilIface, .bool false]) w := run_typeAssert_lacksB Tryz.underlying227 (by kernel_rfl) (by kernel_rfl) v xT w
theorem asn_Unwrap (v : Value) (xT : TypeId) (w : World) : (Instr.typeAssert (.iface 181 v) xT 230 true).run Tryz.prog w = .ok (.tuple #[.iface 181 v, .bool true]) w := run_typeAssert_hasB Tryz.underlying230 (by kernel_rfl) v xT w
end Go.Proofs.YtknfaabhlcdeoaaGreatDoor
